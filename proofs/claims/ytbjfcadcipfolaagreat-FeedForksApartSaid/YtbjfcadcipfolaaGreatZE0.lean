import Derived.Test.YtbjfcadcipfolaaGreatZHd
import Derived.Test.YtbjfcadcipfolaaGreatRows
set_option linter.all false
set_option maxRecDepth 100000
set_option maxHeartbeats 0
namespace Go.Ax
open Go.Proofs Go.Proofs.YtbjfcadcipfolaaGreat
/- pension/pensionplain.Mod -/
noncomputable def f16:FI:={ fid:=16,fn:=Tryz.f16,c:=ai Tryz.f16,ins:={ sl:=[(0, .t (.i .i64)),(1, .t (.i .i64))] },out:=.new (.t (.i .i64)),cuts:=[] }
abbrev DY:Tm:={ sl:=[(0, .t (.ls (.i .u8))),(3, .t (.i .i64)),(4, .t (.i .i64))],ob:=[] }
noncomputable def f50:FI:={ fid:=50,fn:=Tryz.f50,c:=ai Tryz.f50,ins:={ sl:=[(0, .t (.ls (.i .u8)))] },out:=.new (.t (.i .i64)),cuts:=[(58,DY)] }
noncomputable def f41:FI:={ fid:=41,fn:=Tryz.f41,c:=ai Tryz.f41,ins:={ sl:=[(0, .t (.ls (.i .u8)))] },out:=.new (.t (.i .u32)),cuts:=[] }
noncomputable def f115:FI:={ fid:=115,fn:=Tryz.f115,c:=ai Tryz.f115,ins:={ sl:=[(0, .t (.i .i64))] },out:=.new (.t (.i .i64)),cuts:=[] }
noncomputable def f116:FI:={ fid:=116,fn:=Tryz.f116,c:=ai Tryz.f116,ins:={ sl:=[(0, .t (.i .i64))] },out:=.new (.t (.s)),cuts:=[] }
abbrev AR:Tm:={ sl:=[(1, .k (.ptr 0 13 0 0)),(2, .k (.ptr 1 14 0 0)),(3, .k (.ptr 2 14 0 0)),(4, .t (.i .i64)),(5, .t (.i .i64))],ob:=[.box [.t (.st .GPensionhand_Fact)], .box [.t (.st .GFact)], .box [.t (.st .GFact)]] }
abbrev xZ:Tm:={ sl:=[(1, .k (.ptr 0 13 0 0)),(2, .k (.ptr 1 14 0 0)),(3, .k (.ptr 2 14 0 0)),(4, .t (.i .i64)),(5, .t (.i .i64)),(6, .t (.s)),(7, .t (.i .i64))],ob:=[.box [.t (.st .GPensionhand_Fact)], .box [.t (.st .GFact)], .box [.t (.st .GFact)]] }
abbrev ww:Tm:={ sl:=[(1, .k (.ptr 0 13 0 0)),(2, .k (.ptr 1 14 0 0)),(3, .k (.ptr 2 14 0 0)),(4, .t (.i .i64)),(5, .t (.i .i64)),(6, .t (.s)),(7, .t (.i .i64))],ob:=[.box [.t (.st .GPensionhand_Fact)], .box [.t (.st .GFact)], .box [.t (.st .GFact)]] }
noncomputable def f80:FI:={ fid:=80,fn:=Tryz.f80,c:=ai Tryz.f80,ins:={ sl:=[(0, .t (.st .GPensionhand_Fact))] },out:=.new (.t (.st .GFact)),cuts:=[(127,AR),(2042,xZ),(16339,ww)] }
abbrev BA:Tm:={ sl:=[(1, .t (.i .u8)),(5, .t (.s)),(6, .t (.i .i64))],ob:=[] }
noncomputable def f172:FI:={ fid:=172,fn:=Tryz.f172,c:=ai Tryz.f172,ins:={ sl:=[(0, .t (.i .i64)),(1, .t (.i .u8))] },out:=.new (.t (.b)),cuts:=[(58,BA)] }
noncomputable def f134:FI:={ fid:=134,fn:=Tryz.f134,c:=ai Tryz.f134,ins:={ sl:=[(0, .t (.i .i64)),(1, .t (.i .u8)),(2, .t (.i .i64)),(3, .t (.i .i64)),(4, .t (.i .i64))] },out:=.new (.t (.b)),cuts:=[] }
noncomputable def f105:FI:={ fid:=105,fn:=Tryz.f105,c:=ai Tryz.f105,ins:={ sl:=[(0, .t (.st .GFact))] },out:=.new (.t (.b)),cuts:=[] }
abbrev Mo:Tm:={ sl:=[(0, .k (.row 0 1)),(1, .t (.i .i64)),(7, .t (.i .i64))],ob:=[.row 5 (.i .u8)] }
noncomputable def f146:FI:={ fid:=146,fn:=Tryz.f146,c:=ai Tryz.f146,ins:={ sl:=[(0, .k (.c .nil)),(1, .t (.i .i64)),(2, .t (.i .i64))],ob:=[] },out:=.gen ({ sl:=[(2000000, .tp [.k (.row 0 1)])],ob:=[.row 5 (.i .u8)] }),cuts:=[(26,Mo)] }
abbrev vZ:Tm:={ sl:=[(0, .k (.row 0 1)),(1, .t (.i .i64)),(7, .t (.i .i64))],ob:=[.row 5 (.i .u8)] }
noncomputable def nK:FI:={ fid:=146,fn:=Tryz.f146,c:=ai Tryz.f146,ins:={ sl:=[(0, .k (.row 0 1)),(1, .t (.i .i64)),(2, .t (.i .i64))],ob:=[.row 5 (.i .u8)] },out:=.gen ({ sl:=[(2000000, .tp [.k (.row 0 1)])],ob:=[.row 5 (.i .u8)] }),cuts:=[(26,vZ)] }
abbrev AW:Tm:={ sl:=[(1, .k (.ptr 0 14 0 0)),(3, .t (.i .i64))],ob:=[.box [.t (.st .GFact)]] }
abbrev vw:Tm:={ sl:=[(1, .k (.ptr 0 14 0 0)),(4, .k (.row 1 1)),(5, .t (.s)),(6, .t (.i .i64))],ob:=[.box [.t (.st .GFact)], .row 5 (.i .u8)] }
abbrev vS:Tm:={ sl:=[(1, .k (.ptr 0 14 0 0)),(4, .k (.row 1 1)),(5, .t (.s)),(6, .t (.i .i64))],ob:=[.box [.t (.st .GFact)], .row 5 (.i .u8)] }
noncomputable def f117:FI:={ fid:=117,fn:=Tryz.f117,c:=ai Tryz.f117,ins:={ sl:=[(0, .t (.st .GFact))] },out:=.own true 5 (.i .u8),cuts:=[(31,AW),(1018,vw),(8147,vS)] }
noncomputable def f81:FI:={ fid:=81,fn:=Tryz.f81,c:=ai Tryz.f81,ins:={ sl:=[(0, .t (.st .GFact))] },out:=.new (.tp [.t (.ls (.i .u8)), .t (.b)]),cuts:=[] }
noncomputable def f118:FI:={ fid:=118,fn:=Tryz.f118,c:=ai Tryz.f118,ins:={ sl:=[(0, .t (.i .i64)),(1, .t (.i .i64)),(2, .t (.i .i64))] },out:=.new (.t (.b)),cuts:=[] }
noncomputable def f119:FI:={ fid:=119,fn:=Tryz.f119,c:=ai Tryz.f119,ins:={ sl:=[(0, .t (.i .i64))] },out:=.new (.t (.b)),cuts:=[] }
abbrev FD:Tm:={ sl:=[(0, .t (.i .i64)),(5, .k (.row 0 1)),(6, .t (.i .i64))],ob:=[.row 5 (.i .u8)] }
noncomputable def f89:FI:={ fid:=89,fn:=Tryz.f89,c:=ai Tryz.f89,ins:={ sl:=[(0, .t (.i .i64)),(1, .t (.i .i64))] },out:=.own true 5 (.i .u8),cuts:=[(58,FD)] }
abbrev FZ:Tm:={ sl:=[(0, .t (.ls (.ls (.i .u8)))),(3, .k (.row 0 1)),(4, .t (.i .i64))],ob:=[.row 5 (.i .u8)] }
noncomputable def f88:FI:={ fid:=88,fn:=Tryz.f88,c:=ai Tryz.f88,ins:={ sl:=[(0, .t (.ls (.ls (.i .u8))))] },out:=.own true 5 (.i .u8),cuts:=[(58,FZ)] }
noncomputable def f82:FI:={ fid:=82,fn:=Tryz.f82,c:=ai Tryz.f82,ins:={ sl:=[(0, .t (.st .GClaim))] },out:=.new (.tp [.t (.ls (.i .u8)), .t (.b)]),cuts:=[] }
noncomputable def f84:FI:={ fid:=84,fn:=Tryz.f84,c:=ai Tryz.f84,ins:={ sl:=[(0, .t (.i .i64))] },out:=.new (.t (.i .i64)),cuts:=[] }
noncomputable def f120:FI:={ fid:=120,fn:=Tryz.f120,c:=ai Tryz.f120,ins:={ sl:=[(0, .t (.i .i64))] },out:=.new (.t (.b)),cuts:=[] }
noncomputable def f83:FI:={ fid:=83,fn:=Tryz.f83,c:=ai Tryz.f83,ins:={ sl:=[(0, .t (.st .GRequest))] },out:=.new (.tp [.t (.ls (.i .u8)), .t (.b)]),cuts:=[] }
noncomputable def f85:FI:={ fid:=85,fn:=Tryz.f85,c:=ai Tryz.f85,ins:={ sl:=[(0, .t (.st .GRemittance))] },out:=.new (.tp [.t (.ls (.i .u8)), .t (.b)]),cuts:=[] }
noncomputable def f86:FI:={ fid:=86,fn:=Tryz.f86,c:=ai Tryz.f86,ins:={ sl:=[(0, .t (.st .GNotice))] },out:=.new (.tp [.t (.ls (.i .u8)), .t (.b)]),cuts:=[] }
noncomputable def f42:FI:={ fid:=42,fn:=Tryz.f42,c:=ai Tryz.f42,ins:={ sl:=[(0, .t (.st .GPensionlaw31_Raw)),(1, .t (.i .i64)),(2, .t (.i .i64))] },out:=.data (.t (.ls (.i .u8))),cuts:=[] }
abbrev A1:Tm:={ sl:=[(0, .t (.ls (.i .u8))),(3, .t (.i .i64)),(4, .t (.i .i64))],ob:=[] }
noncomputable def f133:FI:={ fid:=133,fn:=Tryz.f133,c:=ai Tryz.f133,ins:={ sl:=[(0, .t (.ls (.i .u8)))] },out:=.new (.t (.i .i64)),cuts:=[(58,A1)] }
abbrev yu:Tm:={ sl:=[(0, .t (.ls (.i .u8))),(2, .k (.ptr 0 14 0 0)),(5, .k (.ptr 1 14 0 0)),(6, .t (.i .i64)),(7, .t (.s)),(8, .t (.i .i64))],ob:=[.box [.t (.st .GFact)], .box [.t (.st .GFact)]] }
abbrev tz:Tm:={ sl:=[(0, .t (.ls (.i .u8))),(2, .k (.ptr 0 14 0 0)),(5, .k (.ptr 1 14 0 0)),(6, .t (.i .i64)),(7, .t (.s)),(8, .t (.i .i64)),(9, .t (.i .i64))],ob:=[.box [.t (.st .GFact)], .box [.t (.st .GFact)]] }
abbrev rN:Tm:={ sl:=[(0, .t (.ls (.i .u8))),(2, .k (.ptr 0 14 0 0)),(5, .k (.ptr 1 14 0 0)),(6, .t (.i .i64)),(7, .t (.s)),(8, .t (.i .i64)),(9, .t (.i .i64))],ob:=[.box [.t (.st .GFact)], .box [.t (.st .GFact)]] }
noncomputable def f104:FI:={ fid:=104,fn:=Tryz.f104,c:=ai Tryz.f104,ins:={ sl:=[(0, .t (.ls (.i .u8)))] },out:=.new (.tp [.t (.st .GFact), .t (.i .i64), .t (.b)]),cuts:=[(506,yu),(32403,tz),(259231,rN)] }
noncomputable def f70:FI:={ fid:=70,fn:=Tryz.f70,c:=ai Tryz.f70,ins:={ sl:=[(0, .t (.ls (.i .u8)))] },out:=.new (.tp [.t (.st .GFact), .t (.b)]),cuts:=[] }
noncomputable def f76:FI:={ fid:=76,fn:=Tryz.f76,c:=ai Tryz.f76,ins:={ sl:=[(0, .t (.ls (.i .u8)))] },out:=.new (.tp [.t (.st .GClaim), .t (.b)]),cuts:=[] }
noncomputable def f147:FI:={ fid:=147,fn:=Tryz.f147,c:=ai Tryz.f147,ins:={ sl:=[(0, .t (.ls (.i .u8)))] },out:=.new (.tp [.t (.st .GRequest), .t (.b)]),cuts:=[] }
noncomputable def f148:FI:={ fid:=148,fn:=Tryz.f148,c:=ai Tryz.f148,ins:={ sl:=[(0, .t (.ls (.i .u8)))] },out:=.new (.tp [.t (.st .GRemittance), .t (.b)]),cuts:=[] }
noncomputable def f149:FI:={ fid:=149,fn:=Tryz.f149,c:=ai Tryz.f149,ins:={ sl:=[(0, .t (.ls (.i .u8)))] },out:=.new (.tp [.t (.st .GNotice), .t (.b)]),cuts:=[] }
noncomputable def f121:FI:={ fid:=121,fn:=Tryz.f121,c:=ai Tryz.f121,ins:={ sl:=[(0, .t (.i .i64)),(1, .t (.i .i64)),(2, .t (.ls (.i .u8)))] },out:=.new (.t (.b)),cuts:=[] }
noncomputable def f87:FI:={ fid:=87,fn:=Tryz.f87,c:=ai Tryz.f87,ins:={ sl:=[(0, .t (.st .GDocument))] },out:=.new (.t (.b)),cuts:=[] }
abbrev DQ:Tm:={ sl:=[(0, .t (.ls (.i .u8))),(3, .t (.i .u32)),(4, .t (.i .i64))],ob:=[] }
abbrev yI:Tm:={ sl:=[(0, .t (.ls (.i .u8))),(3, .t (.i .u32)),(4, .t (.i .i64)),(5, .t (.i .i64))],ob:=[] }
noncomputable def f90:FI:={ fid:=90,fn:=Tryz.f90,c:=ai Tryz.f90,ins:={ sl:=[(0, .t (.ls (.i .u8)))] },out:=.new (.t (.i .u32)),cuts:=[(58,DQ),(7462,yI)] }
noncomputable def f43:FI:={ fid:=43,fn:=Tryz.f43,c:=ai Tryz.f43,ins:={ sl:=[(0, .t (.st .GDocument))] },out:=.new (.tp [.t (.ls (.i .u8)), .t (.i .i64)]),cuts:=[] }
abbrev BE:Tm:={ sl:=[(0, .t (.ls (.st .GPensionlaw31_Raw))),(3, .k (.row 0 1)),(4, .k (.ptr 1 1 0 0)),(5, .k (.ptr 2 1 0 0)),(6, .t (.i .i64))],ob:=[.row 32 (.ls (.i .u8)), .row 53 (.i .i64), .row 89 (.ls (.i .u8))] }
abbrev wk:Tm:={ sl:=[(0, .t (.ls (.st .GPensionlaw31_Raw))),(3, .k (.row 0 1)),(4, .k (.ptr 1 1 0 0)),(5, .k (.ptr 2 1 0 0)),(6, .t (.i .i64)),(7, .t (.i .i64)),(8, .k (.ptr 3 5 0 0))],ob:=[.row 32 (.ls (.i .u8)), .row 53 (.i .i64), .row 89 (.ls (.i .u8)), .box [.t (.st .GDocument)]] }
noncomputable def f21:FI:={ fid:=21,fn:=Tryz.f21,c:=ai Tryz.f21,ins:={ sl:=[(0, .t (.ls (.st .GPensionlaw31_Raw)))] },out:=.own false 32 (.ls (.i .u8)),cuts:=[(250,BE),(32039,wk)] }
noncomputable def f40:FI:={ fid:=40,fn:=Tryz.f40,c:=ai Tryz.f40,ins:={ sl:=[],ob:=[] },out:=.gen ({ sl:=[(2000000, .tp [.k (.ptr 0 1 0 0)])],ob:=[.box [.k (.fn 2000000000 [.ptr 1 1 0 0])], .map 98 (.st .GFeed_key) (.ls (.i .u8))] }),cuts:=[] }
abbrev DT:Tm:={ sl:=[(0, .k (.ptr 0 1 0 0)),(1, .t (.i .i64)),(5, .t (.i .i64)),(13, .t (.ls (.i .u8))),(14, .t (.i .i64)),(15, .t (.i .i64)),(1000000, .k (.ptr 0 1 0 0))],ob:=[.box [.t (.st .GDocument_reader)]] }
noncomputable def f96:FI:={ fid:=96,fn:=Tryz.f96,c:=ai Tryz.f96,ins:={ sl:=[(0, .k (.ptr 0 1 0 0)),(1, .t (.i .i64)),(1000000, .k (.ptr 0 1 0 0))],ob:=[.box [.t (.st .GDocument_reader)]] },out:=.gen ({ sl:=[(1000000, .k (.ptr 0 1 0 0)),(2000000, .tp [.t (.i .i64)])],ob:=[.box [.t (.st .GDocument_reader)]] }),cuts:=[(58,DT)] }
noncomputable def f45:FI:={ fid:=45,fn:=Tryz.f45,c:=ai Tryz.f45,ins:={ sl:=[(0, .t (.ls (.i .u8)))] },out:=.own true 5 (.i .u8),cuts:=[] }
abbrev AF:Tm:={ sl:=[(0, .k (.ptr 0 1 0 0)),(1, .k (.ptr 1 1 0 0)),(4, .t (.i .i64))],ob:=[.row 159 (.i .u32), .row 159 (.i .u32)] }
abbrev ur:Tm:={ sl:=[(0, .k (.ptr 0 1 0 0)),(1, .k (.ptr 1 1 0 0)),(2, .t (.i .i64)),(3, .t (.i .u32)),(4, .t (.i .i64)),(9, .t (.i .i64))],ob:=[.row 159 (.i .u32), .row 159 (.i .u32)] }
noncomputable def f124:FI:={ fid:=124,fn:=Tryz.f124,c:=ai Tryz.f124,ins:={ sl:=[] },out:=.new (.t (.arr 256 (.i .u32))),cuts:=[(58,AF),(59802,ur)] }
abbrev By:Tm:={ sl:=[(3, .k (.ptr 0 1 0 0)),(4, .t (.i .u32)),(8, .t (.ls (.i .u8))),(9, .t (.i .i64)),(10, .t (.i .i64))],ob:=[.row 159 (.i .u32)] }
noncomputable def f94:FI:={ fid:=94,fn:=Tryz.f94,c:=ai Tryz.f94,ins:={ sl:=[(0, .t (.ls (.i .u8)))] },out:=.new (.t (.i .u32)),cuts:=[(122,By)] }
noncomputable def f122:FI:={ fid:=122,fn:=Tryz.f122,c:=ai Tryz.f122,ins:={ sl:=[(0, .t (.i .i64)),(1, .t (.i .i64)),(2, .t (.i .i64))] },out:=.new (.t (.b)),cuts:=[] }
abbrev yA:Tm:={ sl:=[(0, .k (.ptr 0 2 0 0)),(1, .t (.i .i64)),(5, .t (.i .i64)),(23, .t (.ls (.i .u8))),(24, .t (.i .i64)),(25, .t (.i .i64)),(1000000, .k (.ptr 0 2 0 0))],ob:=[.box [.t (.st .GFact_reader)]] }
noncomputable def f129:FI:={ fid:=129,fn:=Tryz.f129,c:=ai Tryz.f129,ins:={ sl:=[(0, .k (.ptr 0 2 0 0)),(1, .t (.i .i64)),(1000000, .k (.ptr 0 2 0 0))],ob:=[.box [.t (.st .GFact_reader)]] },out:=.gen ({ sl:=[(1000000, .k (.ptr 0 2 0 0)),(2000000, .tp [.t (.i .i64)])],ob:=[.box [.t (.st .GFact_reader)]] }),cuts:=[(122,yA)] }
abbrev yR:Tm:={ sl:=[(3, .t (.i .i64)),(6, .t (.b))],ob:=[] }
abbrev vO:Tm:={ sl:=[(3, .t (.i .i64)),(11, .t (.b))],ob:=[] }
abbrev rP:Tm:={ sl:=[(3, .t (.i .i64)),(20, .t (.b))],ob:=[] }
noncomputable def f130:FI:={ fid:=130,fn:=Tryz.f130,c:=ai Tryz.f130,ins:={ sl:=[(0, .t (.i .i64))] },out:=.new (.t (.s)),cuts:=[(215,yR),(3455,vO),(221183,rP)] }
noncomputable def f168:FI:={ fid:=168,fn:=Tryz.f168,c:=ai Tryz.f168,ins:={ sl:=[(0, .t (.i .i64)),(1, .t (.i .i64)),(2, .t (.i .i64))] },out:=.new (.t (.b)),cuts:=[] }
noncomputable def f215:FI:={ fid:=215,fn:=Tryz.f215,c:=ai Tryz.f215,ins:={ sl:=[(0, .t (.s)),(1, .t (.i .u8))] },out:=.data (.t (.i .i64)),cuts:=[] }
noncomputable def f211:FI:={ fid:=211,fn:=Tryz.f211,c:=ai Tryz.f211,ins:={ sl:=[(0, .t (.s)),(1, .t (.i .u8))] },out:=.new (.t (.i .i64)),cuts:=[] }
noncomputable def f209:FI:={ fid:=209,fn:=Tryz.f209,c:=ai Tryz.f209,ins:={ sl:=[(0, .t (.s)),(1, .t (.s))] },out:=.new (.t (.i .i64)),cuts:=[] }
noncomputable def f200:FI:={ fid:=200,fn:=Tryz.f200,c:=ai Tryz.f200,ins:={ sl:=[(0, .t (.s)),(1, .t (.s))] },out:=.new (.t (.i .i64)),cuts:=[] }
noncomputable def f167:FI:={ fid:=167,fn:=Tryz.f167,c:=ai Tryz.f167,ins:={ sl:=[(0, .t (.s)),(1, .t (.s))] },out:=.new (.t (.b)),cuts:=[] }
noncomputable def f166:FI:={ fid:=166,fn:=Tryz.f166,c:=ai Tryz.f166,ins:={ sl:=[(0, .t (.s)),(1, .dp (.s))] },out:=.new (.t (.b)),cuts:=[] }
noncomputable def f169:FI:={ fid:=169,fn:=Tryz.f169,c:=ai Tryz.f169,ins:={ sl:=[(0, .t (.b)),(1, .t (.i .i64)),(2, .t (.i .i64)),(3, .t (.i .i64))] },out:=.new (.t (.b)),cuts:=[] }
noncomputable def f170:FI:={ fid:=170,fn:=Tryz.f170,c:=ai Tryz.f170,ins:={ sl:=[(0, .t (.st .GSpan))] },out:=.new (.t (.b)),cuts:=[] }
abbrev uY:Tm:={ sl:=[(1, .k (.ptr 0 14 0 0)),(89, .t (.i .i64)),(97, .t (.b))],ob:=[.box [.t (.st .GFact)]] }
noncomputable def f131:FI:={ fid:=131,fn:=Tryz.f131,c:=ai Tryz.f131,ins:={ sl:=[(0, .t (.st .GFact))] },out:=.new (.t (.b)),cuts:=[(2007,uY)] }
abbrev yH:Tm:={ sl:=[(0, .t (.ls (.i .u8))),(2, .k (.ptr 0 14 0 0)),(5, .k (.ptr 1 2 0 0)),(6, .t (.i .i64)),(35, .k (.ptr 2 1 0 0))],ob:=[.box [.t (.st .GFact)], .box [.t (.st .GFact_reader)], .str] }
noncomputable def f99:FI:={ fid:=99,fn:=Tryz.f99,c:=ai Tryz.f99,ins:={ sl:=[(0, .t (.ls (.i .u8)))] },out:=.new (.tp [.t (.st .GFact), .t (.i .i64), .t (.b)]),cuts:=[(1018,yH)] }
noncomputable def f67:FI:={ fid:=67,fn:=Tryz.f67,c:=ai Tryz.f67,ins:={ sl:=[(0, .t (.ls (.i .u8)))] },out:=.new (.tp [.t (.st .GFact), .t (.b)]),cuts:=[] }
noncomputable def f108:FI:={ fid:=108,fn:=Tryz.f108,c:=ai Tryz.f108,ins:={ sl:=[(0, .t (.st .GClaim))] },out:=.new (.t (.b)),cuts:=[] }
noncomputable def f72:FI:={ fid:=72,fn:=Tryz.f72,c:=ai Tryz.f72,ins:={ sl:=[(0, .t (.ls (.i .u8)))] },out:=.new (.tp [.t (.st .GClaim), .t (.b)]),cuts:=[] }
noncomputable def f91:FI:={ fid:=91,fn:=Tryz.f91,c:=ai Tryz.f91,ins:={ sl:=[(0, .t (.st .GRequest))] },out:=.new (.t (.b)),cuts:=[] }
noncomputable def f150:FI:={ fid:=150,fn:=Tryz.f150,c:=ai Tryz.f150,ins:={ sl:=[(0, .t (.ls (.i .u8)))] },out:=.new (.tp [.t (.st .GRequest), .t (.b)]),cuts:=[] }
noncomputable def f178:FI:={ fid:=178,fn:=Tryz.f178,c:=ai Tryz.f178,ins:={ sl:=[(0, .t (.st .GRemittance))] },out:=.new (.t (.b)),cuts:=[] }
noncomputable def f151:FI:={ fid:=151,fn:=Tryz.f151,c:=ai Tryz.f151,ins:={ sl:=[(0, .t (.ls (.i .u8)))] },out:=.new (.tp [.t (.st .GRemittance), .t (.b)]),cuts:=[] }
noncomputable def f179:FI:={ fid:=179,fn:=Tryz.f179,c:=ai Tryz.f179,ins:={ sl:=[(0, .t (.st .GNotice))] },out:=.new (.t (.b)),cuts:=[] }
noncomputable def f152:FI:={ fid:=152,fn:=Tryz.f152,c:=ai Tryz.f152,ins:={ sl:=[(0, .t (.ls (.i .u8)))] },out:=.new (.tp [.t (.st .GNotice), .t (.b)]),cuts:=[] }
noncomputable def f123:FI:={ fid:=123,fn:=Tryz.f123,c:=ai Tryz.f123,ins:={ sl:=[(0, .t (.st .GDocument))] },out:=.new (.t (.b)),cuts:=[] }
noncomputable def f93:FI:={ fid:=93,fn:=Tryz.f93,c:=ai Tryz.f93,ins:={ sl:=[(0, .t (.st .GDocument))] },out:=.new (.t (.b)),cuts:=[] }
noncomputable def f56:FI:={ fid:=56,fn:=Tryz.f56,c:=ai Tryz.f56,ins:={ sl:=[(0, .t (.ls (.i .u8)))] },out:=.new (.tp [.t (.st .GDocument), .t (.i .i64)]),cuts:=[] }
noncomputable def f97:FI:={ fid:=97,fn:=Tryz.f97,c:=ai Tryz.f97,ins:={ sl:=[(0, .t (.ls (.i .u8))),(1, .t (.ls (.i .u8)))] },out:=.data (.t (.i .i64)),cuts:=[] }
noncomputable def f57:FI:={ fid:=57,fn:=Tryz.f57,c:=ai Tryz.f57,ins:={ sl:=[(0, .t (.ls (.i .u8))),(1, .t (.ls (.i .u8)))] },out:=.new (.t (.i .i64)),cuts:=[] }
noncomputable def f28:FI:={ fid:=28,fn:=Tryz.f28,c:=ai Tryz.f28,ins:={ sl:=[(0, .k (.ptr 0 1 0 0)),(1, .t (.ls (.i .u8))),(1000000, .k (.ptr 0 1 0 0))],ob:=[.box [.k (.fn 2000000000 [.ptr 1 1 0 0])], .map 98 (.st .GFeed_key) (.ls (.i .u8))] },out:=.gen ({ sl:=[(1000000, .k (.ptr 0 1 0 0)),(2000000, .tp [.t (.i .i64)])],ob:=[.box [.k (.fn 2000000000 [.ptr 1 1 0 0])], .map 98 (.st .GFeed_key) (.ls (.i .u8))] }),cuts:=[] }
noncomputable def f23:FI:={ fid:=23,fn:=Tryz.f23,c:=ai Tryz.f23,ins:={ sl:=[(0, .t (.ls (.i .u8)))] },out:=.new (.tp [.t (.st .GDocument), .t (.i .i64)]),cuts:=[] }
abbrev Ev:Tm:={ sl:=[(0, .dp (.st .GPensionref31_Feeds)),(1, .t (.i .i64)),(2, .t (.i .i64)),(8, .t (.i .i64))],ob:=[] }
noncomputable def f46:FI:={ fid:=46,fn:=Tryz.f46,c:=ai Tryz.f46,ins:={ sl:=[(0, .dp (.st .GPensionref31_Feeds)),(1, .t (.i .i64)),(2, .t (.i .i64))] },out:=.new (.tp [.t (.i .i64), .t (.b)]),cuts:=[(26,Ev)] }
abbrev BX:Tm:={ sl:=[(0, .k (.ptr 0 1 0 0)),(1, .t (.ls (.i .u8))),(5, .k (.ptr 1 5 0 0)),(7, .t (.i .i64)),(9, .t (.i .i64)),(1000000, .k (.ptr 0 1 0 0))],ob:=[.box [.t (.st .GPensionref31_Feeds)], .box [.t (.st .GDocument)]] }
noncomputable def f31:FI:={ fid:=31,fn:=Tryz.f31,c:=ai Tryz.f31,ins:={ sl:=[(0, .k (.ptr 0 1 0 0)),(1, .t (.ls (.i .u8))),(1000000, .k (.ptr 0 1 0 0))],ob:=[.box [.t (.st .GPensionref31_Feeds)]] },out:=.gen ({ sl:=[(1000000, .k (.ptr 0 1 0 0)),(2000000, .tp [.t (.i .i64)])],ob:=[.box [.t (.st .GPensionref31_Feeds)]] }),cuts:=[(255,BX)] }
abbrev ES:Tm:={ sl:=[(0, .k (.row 0 1)),(5, .k (.ptr 1 1 0 0)),(6, .k (.ptr 2 1 0 0)),(7, .t (.i .i64)),(1000000, .k (.row 0 1))],ob:=[.row 32 (.ls (.i .u8)), .box [.k (.fn 2000000000 [.ptr 3 1 0 0])], .box [.t (.st .GPensionref31_Feeds)], .map 98 (.st .GFeed_key) (.ls (.i .u8))] }
noncomputable def f13:FI:={ fid:=13,fn:=Tryz.f13,c:=ai Tryz.f13,ins:={ sl:=[(0, .k (.row 0 1)),(1000000, .k (.row 0 1))],ob:=[.row 32 (.ls (.i .u8))] },out:=.gen ({ sl:=[(1000000, .k (.row 0 1)),(2000000, .tp [.tp [.k (.ptr 1 1 0 0), .k (.ptr 2 1 0 0), .t (.b)]])],ob:=[.row 32 (.ls (.i .u8)), .box [.k (.fn 2000000000 [.ptr 3 1 0 0])], .box [.t (.st .GPensionref31_Feeds)], .map 98 (.st .GFeed_key) (.ls (.i .u8))] }),cuts:=[(58,ES)] }
abbrev MI:Tm:={ sl:=[(0, .k (.row 0 1)),(1, .t (.i .i64)),(2, .t (.i .i64))],ob:=[.row 5 (.i .u8)] }
noncomputable def f92:FI:={ fid:=92,fn:=Tryz.f92,c:=ai Tryz.f92,ins:={ sl:=[(0, .k (.c .nil)),(1, .t (.i .i64)),(2, .t (.i .i64))],ob:=[] },out:=.gen ({ sl:=[(2000000, .tp [.k (.row 0 1)])],ob:=[.row 5 (.i .u8)] }),cuts:=[(26,MI)] }
abbrev yQ:Tm:={ sl:=[(0, .k (.row 0 1)),(1, .t (.i .i64)),(2, .t (.i .i64))],ob:=[.row 5 (.i .u8)] }
noncomputable def qY:FI:={ fid:=92,fn:=Tryz.f92,c:=ai Tryz.f92,ins:={ sl:=[(0, .k (.row 0 1)),(1, .t (.i .i64)),(2, .t (.i .i64))],ob:=[.row 5 (.i .u8)] },out:=.gen ({ sl:=[(2000000, .tp [.k (.row 0 1)])],ob:=[.row 5 (.i .u8)] }),cuts:=[(26,yQ)] }
noncomputable def f47:FI:={ fid:=47,fn:=Tryz.f47,c:=ai Tryz.f47,ins:={ sl:=[(0, .t (.st .GRequest))] },out:=.new (.tp [.t (.ls (.i .u8)), .t (.b)]),cuts:=[] }
noncomputable def f48:FI:={ fid:=48,fn:=Tryz.f48,c:=ai Tryz.f48,ins:={ sl:=[(0, .t (.st .GDocument))] },out:=.new (.tp [.t (.ls (.i .u8)), .t (.i .i64)]),cuts:=[] }
noncomputable def f44:FI:={ fid:=44,fn:=Tryz.f44,c:=ai Tryz.f44,ins:={ sl:=[(0, .k (.ptr 0 1 0 0)),(1, .t (.i .i64)),(2, .t (.i .i64)),(1000000, .k (.ptr 0 1 0 0))],ob:=[.box [.k (.fn 2000000000 [.ptr 1 1 0 0])], .map 98 (.st .GFeed_key) (.ls (.i .u8))] },out:=.gen ({ sl:=[(1000000, .k (.ptr 0 1 0 0)),(2000000, .tp [.tp [.t (.ls (.i .u8)), .t (.b)]])],ob:=[.box [.k (.fn 2000000000 [.ptr 1 1 0 0])], .map 98 (.st .GFeed_key) (.ls (.i .u8))] }),cuts:=[] }
noncomputable def f79:FI:={ fid:=79,fn:=Tryz.f79,c:=ai Tryz.f79,ins:={ sl:=[(0, .t (.ls (.i .u8)))] },out:=.new (.t (.i .u32)),cuts:=[] }
abbrev EW:Tm:={ sl:=[(0, .k (.ptr 0 1 0 0)),(1, .t (.i .i64)),(5, .k (.row 1 5)),(6, .t (.i .u32)),(7, .t (.i .i64)),(1000000, .k (.ptr 0 1 0 0))],ob:=[.box [.k (.fn 2000000000 [.ptr 2 1 0 0])], .row 41 (.st .GDocument), .map 98 (.st .GFeed_key) (.ls (.i .u8))] }
noncomputable def f39:FI:={ fid:=39,fn:=Tryz.f39,c:=ai Tryz.f39,ins:={ sl:=[(0, .k (.ptr 0 1 0 0)),(1, .t (.i .i64)),(1000000, .k (.ptr 0 1 0 0))],ob:=[.box [.k (.fn 2000000000 [.ptr 1 1 0 0])], .map 98 (.st .GFeed_key) (.ls (.i .u8))] },out:=.gen ({ sl:=[(1000000, .k (.ptr 0 1 0 0)),(2000000, .tp [.k (.row 1 5)])],ob:=[.box [.k (.fn 2000000000 [.ptr 2 1 0 0])], .row 41 (.st .GDocument), .map 98 (.st .GFeed_key) (.ls (.i .u8))] }),cuts:=[(62,EW)] }
noncomputable def f22:FI:={ fid:=22,fn:=Tryz.f22,c:=ai Tryz.f22,ins:={ sl:=[(0, .k (.ptr 0 1 0 0)),(1, .t (.i .i64)),(1000000, .k (.ptr 0 1 0 0))],ob:=[.box [.k (.fn 2000000000 [.ptr 1 1 0 0])], .map 98 (.st .GFeed_key) (.ls (.i .u8))] },out:=.gen ({ sl:=[(1000000, .k (.ptr 0 1 0 0)),(2000000, .tp [.t (.i .i64)])],ob:=[.box [.k (.fn 2000000000 [.ptr 1 1 0 0])], .map 98 (.st .GFeed_key) (.ls (.i .u8))] }),cuts:=[] }
abbrev DK:Tm:={ sl:=[(0, .k (.ptr 0 1 0 0)),(1, .t (.i .i64)),(5, .t (.i .i64)),(1000000, .k (.ptr 0 1 0 0))],ob:=[.box [.k (.fn 2000000000 [.ptr 1 1 0 0])], .map 98 (.st .GFeed_key) (.ls (.i .u8))] }
noncomputable def f49:FI:={ fid:=49,fn:=Tryz.f49,c:=ai Tryz.f49,ins:={ sl:=[(0, .k (.ptr 0 1 0 0)),(1, .t (.i .i64)),(1000000, .k (.ptr 0 1 0 0))],ob:=[.box [.k (.fn 2000000000 [.ptr 1 1 0 0])], .map 98 (.st .GFeed_key) (.ls (.i .u8))] },out:=.gen ({ sl:=[(1000000, .k (.ptr 0 1 0 0)),(2000000, .tp [.t (.i .i64)])],ob:=[.box [.k (.fn 2000000000 [.ptr 1 1 0 0])], .map 98 (.st .GFeed_key) (.ls (.i .u8))] }),cuts:=[(14,DK)] }
abbrev DN:Tm:={ sl:=[(0, .k (.ptr 0 1 0 0)),(1, .t (.i .i64)),(2, .t (.i .i64)),(7, .k (.row 1 1)),(8, .t (.i .i64)),(1000000, .k (.ptr 0 1 0 0))],ob:=[.box [.k (.fn 2000000000 [.ptr 2 1 0 0])], .row 5 (.i .u8), .map 98 (.st .GFeed_key) (.ls (.i .u8))] }
noncomputable def f52:FI:={ fid:=52,fn:=Tryz.f52,c:=ai Tryz.f52,ins:={ sl:=[(0, .k (.ptr 0 1 0 0)),(1, .t (.i .i64)),(2, .t (.i .i64)),(1000000, .k (.ptr 0 1 0 0))],ob:=[.box [.k (.fn 2000000000 [.ptr 1 1 0 0])], .map 98 (.st .GFeed_key) (.ls (.i .u8))] },out:=.gen ({ sl:=[(1000000, .k (.ptr 0 1 0 0)),(2000000, .tp [.t (.i .u32)])],ob:=[.box [.k (.fn 2000000000 [.ptr 1 1 0 0])], .map 98 (.st .GFeed_key) (.ls (.i .u8))] }),cuts:=[(58,DN)] }
abbrev F9:Tm:={ sl:=[(0, .k (.ptr 0 1 0 0)),(3, .k (.row 1 1)),(8, .t (.i .i64)),(1000000, .k (.ptr 0 1 0 0))],ob:=[.box [.k (.fn 2000000000 [.ptr 2 1 0 0])], .row 5 (.i .u8), .map 98 (.st .GFeed_key) (.ls (.i .u8))] }
noncomputable def f25:FI:={ fid:=25,fn:=Tryz.f25,c:=ai Tryz.f25,ins:={ sl:=[(0, .k (.ptr 0 1 0 0)),(1000000, .k (.ptr 0 1 0 0))],ob:=[.box [.k (.fn 2000000000 [.ptr 1 1 0 0])], .map 98 (.st .GFeed_key) (.ls (.i .u8))] },out:=.gen ({ sl:=[(1000000, .k (.ptr 0 1 0 0)),(2000000, .tp [.k (.row 1 1)])],ob:=[.box [.k (.fn 2000000000 [.ptr 2 1 0 0])], .row 5 (.i .u8), .map 98 (.st .GFeed_key) (.ls (.i .u8))] }),cuts:=[(58,F9)] }
noncomputable def f51:FI:={ fid:=51,fn:=Tryz.f51,c:=ai Tryz.f51,ins:={ sl:=[(0, .t (.ls (.i .u8))),(1, .t (.i .i64))] },out:=.new (.tp [.t (.i .i64), .t (.i .u32)]),cuts:=[] }
abbrev AD:Tm:={ sl:=[(1, .t (.i .i64)),(5, .k (.row 0 1)),(13, .k (.ptr 1 1 0 0)),(1000000, .k (.ptr 2 1 0 0))],ob:=[.row 3 (.i .i64), .iter (.k (.fn 2000000000 [.ptr 3 1 0 0])), .box [.k (.fn 2000000000 [.ptr 3 1 0 0])], .map 98 (.st .GFeed_key) (.ls (.i .u8))] }
noncomputable def f53:FI:={ fid:=53,fn:=Tryz.f53,c:=ai Tryz.f53,ins:={ sl:=[(0, .k (.ptr 0 1 0 0)),(1, .t (.i .i64)),(1000000, .k (.ptr 0 1 0 0))],ob:=[.box [.k (.fn 2000000000 [.ptr 1 1 0 0])], .map 98 (.st .GFeed_key) (.ls (.i .u8))] },out:=.gen ({ sl:=[(1000000, .k (.ptr 0 1 0 0)),(2000000, .tp [.k (.row 1 1)])],ob:=[.box [.k (.fn 2000000000 [.ptr 2 1 0 0])], .row 3 (.i .i64), .map 98 (.st .GFeed_key) (.ls (.i .u8))] }),cuts:=[(234,AD)] }
noncomputable def f17:FI:={ fid:=17,fn:=Tryz.f17,c:=ai Tryz.f17,ins:={ sl:=[(0, .k (.ptr 0 1 0 0)),(1, .t (.i .i64)),(2, .t (.i .i64)),(1000000, .k (.ptr 0 1 0 0))],ob:=[.box [.k (.fn 2000000000 [.ptr 1 1 0 0])], .map 98 (.st .GFeed_key) (.ls (.i .u8))] },out:=.gen ({ sl:=[(1000000, .k (.ptr 0 1 0 0)),(2000000, .tp [.tp [.k (.row 1 1), .t (.b)]])],ob:=[.box [.k (.fn 2000000000 [.ptr 2 1 0 0])], .row 5 (.i .u8), .map 98 (.st .GFeed_key) (.ls (.i .u8))] }),cuts:=[] }
abbrev AM:Tm:={ sl:=[(0, .k (.ptr 0 1 0 0)),(1, .t (.ls (.i .u8))),(29, .t (.i .i64)),(1000000, .k (.ptr 0 1 0 0))],ob:=[.box [.k (.fn 2000000000 [.ptr 1 1 0 0])], .map 98 (.st .GFeed_key) (.ls (.i .u8))] }
abbrev A9:Tm:={ sl:=[(0, .k (.ptr 0 1 0 0)),(1, .t (.ls (.i .u8))),(9, .k (.row 1 1)),(41, .t (.i .i64)),(1000000, .k (.ptr 0 1 0 0))],ob:=[.box [.k (.fn 2000000000 [.ptr 2 1 0 0])], .row 32 (.ls (.i .u8)), .map 98 (.st .GFeed_key) (.ls (.i .u8))] }
abbrev ue:Tm:={ sl:=[(0, .k (.ptr 0 1 0 0)),(1, .t (.ls (.i .u8))),(9, .k (.row 1 1)),(10, .t (.i .i64)),(11, .t (.i .i64)),(13, .t (.b)),(41, .t (.i .i64)),(65, .k (.row 2 1)),(66, .t (.i .i64)),(67, .t (.i .i64)),(1000000, .k (.ptr 0 1 0 0))],ob:=[.box [.k (.fn 2000000000 [.ptr 3 1 0 0])], .row 32 (.ls (.i .u8)), .row 3 (.i .i64), .map 98 (.st .GFeed_key) (.ls (.i .u8))] }
noncomputable def f24:FI:={ fid:=24,fn:=Tryz.f24,c:=ai Tryz.f24,ins:={ sl:=[(0, .k (.ptr 0 1 0 0)),(1, .t (.ls (.i .u8))),(1000000, .k (.ptr 0 1 0 0))],ob:=[.box [.k (.fn 2000000000 [.ptr 1 1 0 0])], .map 98 (.st .GFeed_key) (.ls (.i .u8))] },out:=.gen ({ sl:=[(1000000, .k (.ptr 0 1 0 0)),(2000000, .tp [.tp [.t (.ls (.ls (.i .u8))), .t (.i .i64)]])],ob:=[.box [.k (.fn 2000000000 [.ptr 1 1 0 0])], .map 98 (.st .GFeed_key) (.ls (.i .u8))] }),cuts:=[(122,AM),(506,A9),(518558,ue)] }
noncomputable def f20:FI:={ fid:=20,fn:=Tryz.f20,c:=ai Tryz.f20,ins:={ sl:=[(0, .t (.ls (.i .u8))),(1, .t (.ls (.i .u8)))] },out:=.new (.t (.b)),cuts:=[] }
noncomputable def f19:FI:={ fid:=19,fn:=Tryz.f19,c:=ai Tryz.f19,ins:={ sl:=[] },out:=.new (.t (.b)),cuts:=[] }
noncomputable def f38:FI:={ fid:=38,fn:=Tryz.f38,c:=ai Tryz.f38,ins:={ sl:=[(0, .k (.ptr 0 1 0 0)),(1000000, .k (.ptr 0 1 0 0))],ob:=[.box [.k (.fn 2000000000 [.ptr 1 1 0 0])], .map 98 (.st .GFeed_key) (.ls (.i .u8))] },out:=.gen ({ sl:=[(1000000, .k (.ptr 0 1 0 0)),(2000000, .tp [.k (.ptr 1 1 0 0)])],ob:=[.box [.k (.fn 2000000000 [.ptr 2 1 0 0])], .box [.k (.fn 2000000000 [.ptr 3 1 0 0])], .map 98 (.st .GFeed_key) (.ls (.i .u8)), .map 98 (.st .GFeed_key) (.ls (.i .u8))] }),cuts:=[] }
noncomputable def f59:FI:={ fid:=59,fn:=Tryz.f59,c:=ai Tryz.f59,ins:={ sl:=[(0, .t (.ls (.i .u8))),(1, .t (.ls (.i .u8)))] },out:=.new (.t (.b)),cuts:=[] }
abbrev FV:Tm:={ sl:=[(1, .k (.fn 2000000000 [.ptr 0 1 0 0])),(2, .fn 59 []),(17, .k (.ptr 1 1 0 0)),(1000000, .k (.fn 2000000000 [.ptr 2 1 0 0])),(1000001, .k (.fn 2000000000 [.ptr 0 1 0 0]))],ob:=[.map 98 (.st .GFeed_key) (.ls (.i .u8)), .iter (.k (.fn 2000000000 [.ptr 2 1 0 0])), .map 98 (.st .GFeed_key) (.ls (.i .u8))] }
noncomputable def f58:FI:={ fid:=58,fn:=Tryz.f58,c:=ai Tryz.f58,ins:={ sl:=[(0, .k (.fn 2000000000 [.ptr 0 1 0 0])),(1, .k (.fn 2000000000 [.ptr 1 1 0 0])),(2, .fn 59 []),(1000000, .k (.fn 2000000000 [.ptr 0 1 0 0])),(1000001, .k (.fn 2000000000 [.ptr 1 1 0 0]))],ob:=[.map 98 (.st .GFeed_key) (.ls (.i .u8)), .map 98 (.st .GFeed_key) (.ls (.i .u8))] },out:=.gen ({ sl:=[(1000000, .k (.fn 2000000000 [.ptr 0 1 0 0])),(1000001, .k (.fn 2000000000 [.ptr 1 1 0 0])),(2000000, .tp [.t (.b)])],ob:=[.map 98 (.st .GFeed_key) (.ls (.i .u8)), .map 98 (.st .GFeed_key) (.ls (.i .u8))] }),cuts:=[(58,FV)] }
abbrev F6:Tm:={ sl:=[(1, .k (.ptr 0 1 0 0)),(5, .k (.fn 2000000000 [.ptr 1 1 0 0])),(1000000, .k (.ptr 2 1 0 0)),(1000001, .k (.ptr 0 1 0 0))],ob:=[.box [.k (.fn 2000000000 [.ptr 3 1 0 0])], .map 98 (.st .GFeed_key) (.ls (.i .u8)), .box [.k (.fn 2000000000 [.ptr 1 1 0 0])], .map 98 (.st .GFeed_key) (.ls (.i .u8))] }
noncomputable def f29:FI:={ fid:=29,fn:=Tryz.f29,c:=ai Tryz.f29,ins:={ sl:=[(0, .k (.ptr 0 1 0 0)),(1, .k (.ptr 1 1 0 0)),(1000000, .k (.ptr 0 1 0 0)),(1000001, .k (.ptr 1 1 0 0))],ob:=[.box [.k (.fn 2000000000 [.ptr 2 1 0 0])], .box [.k (.fn 2000000000 [.ptr 3 1 0 0])], .map 98 (.st .GFeed_key) (.ls (.i .u8)), .map 98 (.st .GFeed_key) (.ls (.i .u8))] },out:=.gen ({ sl:=[(1000000, .k (.ptr 0 1 0 0)),(1000001, .k (.ptr 1 1 0 0)),(2000000, .tp [.t (.b)])],ob:=[.box [.k (.fn 2000000000 [.ptr 2 1 0 0])], .box [.k (.fn 2000000000 [.ptr 3 1 0 0])], .map 98 (.st .GFeed_key) (.ls (.i .u8)), .map 98 (.st .GFeed_key) (.ls (.i .u8))] }),cuts:=[(15,F6)] }
abbrev Fi:Tm:={ sl:=[(0, .dp (.st .GPensionref31_Feeds)),(1, .t (.i .i64)),(5, .t (.i .i64))],ob:=[] }
noncomputable def f54:FI:={ fid:=54,fn:=Tryz.f54,c:=ai Tryz.f54,ins:={ sl:=[(0, .dp (.st .GPensionref31_Feeds)),(1, .t (.i .i64))] },out:=.new (.t (.i .i64)),cuts:=[(14,Fi)] }
abbrev BM:Tm:={ sl:=[(0, .k (.ptr 0 1 0 0)),(1, .t (.i .i64)),(5, .k (.row 1 5)),(6, .t (.i .u32)),(7, .t (.i .i64)),(8, .t (.i .i64)),(1000000, .k (.ptr 0 1 0 0))],ob:=[.box [.t (.st .GPensionref31_Feeds)], .row 41 (.st .GDocument)] }
noncomputable def f60:FI:={ fid:=60,fn:=Tryz.f60,c:=ai Tryz.f60,ins:={ sl:=[(0, .k (.ptr 0 1 0 0)),(1, .t (.i .i64)),(1000000, .k (.ptr 0 1 0 0))],ob:=[.box [.t (.st .GPensionref31_Feeds)]] },out:=.gen ({ sl:=[(1000000, .k (.ptr 0 1 0 0)),(2000000, .tp [.k (.row 1 5)])],ob:=[.box [.t (.st .GPensionref31_Feeds)], .row 41 (.st .GDocument)] }),cuts:=[(250,BM)] }
abbrev wz:Tm:={ sl:=[(0, .dp (.st .GPensionref31_Feeds)),(1, .t (.i .i64)),(5, .k (.row 0 5)),(6, .t (.i .u32)),(7, .t (.i .i64)),(8, .t (.i .i64))],ob:=[.row 41 (.st .GDocument)] }
noncomputable def qD:FI:={ fid:=60,fn:=Tryz.f60,c:=ai Tryz.f60,ins:={ sl:=[(0, .dp (.st .GPensionref31_Feeds)),(1, .t (.i .i64))],ob:=[] },out:=.gen ({ sl:=[(2000000, .tp [.k (.row 0 5)])],ob:=[.row 41 (.st .GDocument)] }),cuts:=[(250,wz)] }
noncomputable def f61:FI:={ fid:=61,fn:=Tryz.f61,c:=ai Tryz.f61,ins:={ sl:=[(0, .dp (.st .GPensionref31_Feeds)),(1, .t (.i .i64))] },out:=.new (.t (.i .i64)),cuts:=[] }
noncomputable def f126:FI:={ fid:=126,fn:=Tryz.f126,c:=ai Tryz.f126,ins:={ sl:=[(0, .t (.st .GSpan))] },out:=.new (.t (.st .GSpan)),cuts:=[] }
abbrev EG:Tm:={ sl:=[(3, .k (.ptr 0 1 0 0)),(10, .t (.ls (.st .GSpan))),(11, .t (.i .i64)),(12, .t (.i .i64))],ob:=[.box [.k (.row 1 2)], .row 105 (.st .GSpan)] }
abbrev Bk:Tm:={ sl:=[(6, .k (.row 0 2)),(32, .k (.row 1 2)),(33, .t (.i .i64)),(34, .t (.i .i64))],ob:=[.row 105 (.st .GSpan), .row 105 (.st .GSpan)] }
noncomputable def f98:FI:={ fid:=98,fn:=Tryz.f98,c:=ai Tryz.f98,ins:={ sl:=[(0, .t (.ls (.st .GSpan)))] },out:=.own true 105 (.st .GSpan),cuts:=[(58,EG),(506,Bk)] }
abbrev F4:Tm:={ sl:=[(5, .k (.row 0 2)),(10, .k (.row 1 1)),(11, .t (.i .i64)),(12, .t (.i .i64)),(1000000, .k (.ptr 2 1 0 0))],ob:=[.row 105 (.st .GSpan), .row 3 (.i .i64), .box [.k (.fn 2000000000 [.ptr 3 1 0 0])], .map 98 (.st .GFeed_key) (.ls (.i .u8))] }
noncomputable def f63:FI:={ fid:=63,fn:=Tryz.f63,c:=ai Tryz.f63,ins:={ sl:=[(0, .k (.ptr 0 1 0 0)),(1, .t (.i .i64)),(1000000, .k (.ptr 0 1 0 0))],ob:=[.box [.k (.fn 2000000000 [.ptr 1 1 0 0])], .map 98 (.st .GFeed_key) (.ls (.i .u8))] },out:=.gen ({ sl:=[(1000000, .k (.ptr 0 1 0 0)),(2000000, .tp [.k (.row 1 2)])],ob:=[.box [.k (.fn 2000000000 [.ptr 2 1 0 0])], .row 105 (.st .GSpan), .map 98 (.st .GFeed_key) (.ls (.i .u8))] }),cuts:=[(58,F4)] }
abbrev DL:Tm:={ sl:=[(0, .dp (.st .GPensionref31_Feeds)),(1, .t (.i .i64)),(5, .k (.row 0 2)),(6, .t (.i .i64))],ob:=[.row 105 (.st .GSpan)] }
noncomputable def f64:FI:={ fid:=64,fn:=Tryz.f64,c:=ai Tryz.f64,ins:={ sl:=[(0, .dp (.st .GPensionref31_Feeds)),(1, .t (.i .i64))] },out:=.own true 105 (.st .GSpan),cuts:=[(58,DL)] }
abbrev Fv:Tm:={ sl:=[(0, .t (.ls (.st .GSpan))),(1, .t (.ls (.st .GSpan))),(5, .t (.i .i64))],ob:=[] }
noncomputable def f62:FI:={ fid:=62,fn:=Tryz.f62,c:=ai Tryz.f62,ins:={ sl:=[(0, .t (.ls (.st .GSpan))),(1, .t (.ls (.st .GSpan)))] },out:=.new (.t (.b)),cuts:=[(58,Fv)] }
noncomputable def f18:FI:={ fid:=18,fn:=Tryz.f18,c:=ai Tryz.f18,ins:={ sl:=[(0, .dp (.st .GPensionref31_Feeds)),(1, .t (.i .i64)),(2, .t (.i .i64))] },out:=.new (.tp [.t (.ls (.i .u8)), .t (.b)]),cuts:=[] }
abbrev Gb:Tm:={ sl:=[(0, .dp (.st .GPensionref31_Feeds)),(1, .t (.i .i64)),(2, .t (.i .i64)),(7, .k (.row 0 1)),(8, .t (.i .i64))],ob:=[.row 5 (.i .u8)] }
noncomputable def f55:FI:={ fid:=55,fn:=Tryz.f55,c:=ai Tryz.f55,ins:={ sl:=[(0, .dp (.st .GPensionref31_Feeds)),(1, .t (.i .i64)),(2, .t (.i .i64))] },out:=.new (.t (.i .u32)),cuts:=[(58,Gb)] }
abbrev FX:Tm:={ sl:=[(0, .dp (.st .GPensionref31_Feeds)),(3, .k (.row 0 1)),(4, .t (.i .i64))],ob:=[.row 5 (.i .u8)] }
noncomputable def f66:FI:={ fid:=66,fn:=Tryz.f66,c:=ai Tryz.f66,ins:={ sl:=[(0, .dp (.st .GPensionref31_Feeds))] },out:=.own true 5 (.i .u8),cuts:=[(58,FX)] }
noncomputable def f65:FI:={ fid:=65,fn:=Tryz.f65,c:=ai Tryz.f65,ins:={ sl:=[(0, .t (.st .GDocument)),(1, .t (.st .GDocument))] },out:=.new (.t (.b)),cuts:=[] }
abbrev Fg:Tm:={ sl:=[(0, .k (.ptr 0 1 0 0)),(1, .k (.ptr 1 1 0 0)),(5, .t (.i .i64)),(1000000, .k (.ptr 0 1 0 0)),(1000001, .k (.ptr 1 1 0 0))],ob:=[.box [.k (.fn 2000000000 [.ptr 2 1 0 0])], .box [.t (.st .GPensionref31_Feeds)], .map 98 (.st .GFeed_key) (.ls (.i .u8))] }
abbrev x8:Tm:={ sl:=[(0, .k (.ptr 0 1 0 0)),(1, .k (.ptr 1 1 0 0)),(5, .t (.i .i64)),(6, .k (.row 2 5)),(7, .k (.row 3 5)),(8, .t (.i .i64)),(27, .k (.ptr 0 1 0 0)),(28, .t (.i .i64)),(29, .t (.i .i64)),(30, .k (.ptr 1 1 0 0)),(31, .t (.i .i64)),(32, .t (.i .i64)),(33, .t (.b)),(36, .k (.ptr 0 1 0 0)),(37, .t (.i .i64)),(38, .k (.row 4 2)),(39, .k (.ptr 1 1 0 0)),(40, .t (.i .i64)),(41, .k (.row 5 2)),(42, .t (.b)),(43, .t (.b)),(46, .k (.row 2 5)),(47, .t (.i .i64)),(48, .k (.row 3 5)),(49, .t (.i .i64)),(50, .t (.b)),(1000000, .k (.ptr 0 1 0 0)),(1000001, .k (.ptr 1 1 0 0))],ob:=[.box [.k (.fn 2000000000 [.ptr 6 1 0 0])], .box [.t (.st .GPensionref31_Feeds)], .row 41 (.st .GDocument), .row 41 (.st .GDocument), .row 105 (.st .GSpan), .row 105 (.st .GSpan), .map 98 (.st .GFeed_key) (.ls (.i .u8))] }
noncomputable def f30:FI:={ fid:=30,fn:=Tryz.f30,c:=ai Tryz.f30,ins:={ sl:=[(0, .k (.ptr 0 1 0 0)),(1, .k (.ptr 1 1 0 0)),(1000000, .k (.ptr 0 1 0 0)),(1000001, .k (.ptr 1 1 0 0))],ob:=[.box [.k (.fn 2000000000 [.ptr 2 1 0 0])], .box [.t (.st .GPensionref31_Feeds)], .map 98 (.st .GFeed_key) (.ls (.i .u8))] },out:=.gen ({ sl:=[(1000000, .k (.ptr 0 1 0 0)),(1000001, .k (.ptr 1 1 0 0)),(2000000, .tp [.t (.b)])],ob:=[.box [.k (.fn 2000000000 [.ptr 2 1 0 0])], .box [.t (.st .GPensionref31_Feeds)], .map 98 (.st .GFeed_key) (.ls (.i .u8))] }),cuts:=[(26,Fg),(6734,x8)] }
abbrev yb:Tm:={ sl:=[(5, .k (.ptr 0 1 0 0)),(6, .k (.ptr 1 1 0 0)),(8, .k (.ptr 2 1 0 0)),(9, .k (.row 3 1)),(10, .t (.i .i64))],ob:=[.box [.k (.fn 2000000000 [.ptr 4 1 0 0])], .box [.t (.st .GPensionref31_Feeds)], .box [.k (.fn 2000000000 [.ptr 5 1 0 0])], .row 32 (.ls (.i .u8)), .map 98 (.st .GFeed_key) (.ls (.i .u8)), .map 98 (.st .GFeed_key) (.ls (.i .u8))] }
abbrev yB:Tm:={ sl:=[(5, .k (.ptr 0 1 0 0)),(6, .k (.ptr 1 1 0 0)),(11, .t (.i .i64))],ob:=[.box [.k (.fn 2000000000 [.ptr 2 1 0 0])], .box [.t (.st .GPensionref31_Feeds)], .map 98 (.st .GFeed_key) (.ls (.i .u8))] }
noncomputable def f11:FI:={ fid:=11,fn:=Tryz.f11,c:=ai Tryz.f11,ins:={ sl:=[(0, .t (.ls (.st .GPensionlaw31_Raw))),(1, .t (.ls (.st .GPensionlaw31_Raw)))] },out:=.new (.t (.b)),cuts:=[(1018,yb),(2042,yB)],hd:=[(130707,⟨{ sl:=[(5, .k (.ptr 0 1 0 0)),(6, .k (.ptr 1 1 0 0)),(11, .t (.i .i64))],ob:=[.box [.k (.fn 2000000000 [.ptr 2 1 0 0])], .box [.t (.st .GPensionref31_Feeds)], .map 98 (.st .GFeed_key) (.ls (.i .u8))] },{ sl:=[(5, .k (.ptr 0 1 0 0)),(6, .k (.ptr 1 1 0 0)),(11, .t (.i .i64))],ob:=[.box [.k (.fn 2000000000 [.ptr 2 1 0 0])], .box [.t (.st .GPensionref31_Feeds)], .map 98 (.st .GFeed_key) (.ls (.i .u8))] },fun x=>oR x⟩)] }
noncomputable def MZ:XT→HP f45.ins.tys→Option (HP f45.out.tys):=fun _ (a:List Int)=>vJ a
noncomputable def KH:XT→HP f215.ins.tys→Option (HP f215.out.tys):=fun _ (a:ByteArray × Int)=>some (Go.firstIdx a.1 a.2.toNat.toUInt8)
noncomputable def MW:XT→HP f97.ins.tys→Option (HP f97.out.tys):=fun _ (a:List Int × List Int)=>some (fm a.1 a.2)
noncomputable def Tb:iE:={ P:=Tryz.prog,fs:=[(16,[f16]),(50,[f50]),(41,[f41]),(115,[f115]),(116,[f116]),(80,[f80]),(172,[f172]),(134,[f134]),(105,[f105]),(146,[nK,f146]),(117,[f117]),(81,[f81]),(118,[f118]),(119,[f119]),(89,[f89]),(88,[f88]),(82,[f82]),(84,[f84]),(120,[f120]),(83,[f83]),(85,[f85]),(86,[f86]),(42,[f42]),(133,[f133]),(104,[f104]),(70,[f70]),(76,[f76]),(147,[f147]),(148,[f148]),(149,[f149]),(121,[f121]),(87,[f87]),(90,[f90]),(43,[f43]),(21,[f21]),(40,[f40]),(96,[f96]),(124,[f124]),(94,[f94]),(122,[f122]),(129,[f129]),(130,[f130]),(168,[f168]),(211,[f211]),(209,[f209]),(200,[f200]),(167,[f167]),(166,[f166]),(169,[f169]),(170,[f170]),(131,[f131]),(99,[f99]),(67,[f67]),(108,[f108]),(72,[f72]),(91,[f91]),(150,[f150]),(178,[f178]),(151,[f151]),(179,[f179]),(152,[f152]),(123,[f123]),(93,[f93]),(56,[f56]),(57,[f57]),(28,[f28]),(23,[f23]),(46,[f46]),(31,[f31]),(13,[f13]),(92,[qY,f92]),(47,[f47]),(48,[f48]),(44,[f44]),(79,[f79]),(39,[f39]),(22,[f22]),(49,[f49]),(52,[f52]),(25,[f25]),(51,[f51]),(53,[f53]),(17,[f17]),(24,[f24]),(20,[f20]),(19,[f19]),(38,[f38]),(59,[f59]),(58,[f58]),(29,[f29]),(54,[f54]),(60,[f60,qD]),(61,[f61]),(126,[f126]),(98,[f98]),(63,[f63]),(64,[f64]),(62,[f62]),(18,[f18]),(55,[f55]),(66,[f66]),(65,[f65]),(30,[f30]),(11,[f11])],sp:=(fun f=>(bif Nat.beq f 97 then .hand f97 MW else (bif Nat.beq f 215 then .hand f215 KH else (bif Nat.beq f 45 then .hand f45 MZ else (bif Nat.beq f 127 then .mut (fun _=>oY 106 128 105 (.st .GSpan) iq) else (bif Nat.beq f 95 then .mut (fun _=>DE) else (bif Nat.beq f 78 then .mut (fun _=>Ab) else .none))))))) }
theorem al:gC Tb:=⟨fun f=>(.cnd (.h _) (.cnd (.h _) (.cnd (.h _) (.cnd (.m _) (.cnd (.m _) (.cnd (.m _) trivial))))))⟩
noncomputable def fc (b:List Int):Option (List Int):=MZ (Xc Tb) b
noncomputable def qo (t0:ByteArray) (t1:Int):Option Int:=KH (Xc Tb) (t0,t1)
noncomputable def Aq (t0:List Int) (t1:List Int):Option Int:=MW (Xc Tb) (t0,t1)
noncomputable def aC (n:Int) (m:Int):Option Int:=Xf Tb f16 1 f16.ins (n,m)
noncomputable def bR (b:List Int):Option Int:=Xf Tb f50 1 f50.ins b
noncomputable def fL (b:List Int) (v:Int) (i:Int):Option Int:=Xf Tb f50 58 DY (b,v,i)
noncomputable def fW (b:List Int):Option Int:=Xf Tb f41 1 f41.ins b
noncomputable def rn (n:Int):Option Int:=Xf Tb f115 1 f115.ins n
noncomputable def io (kind:Int):Option ByteArray:=Xf Tb f116 1 f116.ins kind
noncomputable def wg (r:GPensionhand_Fact):Option GFact:=Xf Tb f80 1 f80.ins r
noncomputable def fh (xfrom:Int) (to:Int) (r:GPensionhand_Fact) (t2:GFact) (f:GFact):Option GFact:=Xf Tb f80 127 AR (xfrom,to,r,t2,f)
noncomputable def i6 (xfrom:Int) (to:Int) (u:ByteArray) (i:Int) (r:GPensionhand_Fact) (t2:GFact) (f:GFact):Option GFact:=Xf Tb f80 2042 xZ (xfrom,to,u,i,r,t2,f)
noncomputable def bF (xfrom:Int) (to:Int) (u:ByteArray) (i:Int) (r:GPensionhand_Fact) (t2:GFact) (f:GFact):Option GFact:=Xf Tb f80 16339 ww (xfrom,to,u,i,r,t2,f)
noncomputable def tR (kind:Int) (c:Int):Option Bool:=Xf Tb f172 1 f172.ins (kind,c)
noncomputable def dQ (c:Int) (s:ByteArray) (i:Int):Option Bool:=Xf Tb f172 58 BA (c,s,i)
noncomputable def bP (kind:Int) (c:Int) (n:Int) (least:Int) (most:Int):Option Bool:=Xf Tb f134 1 f134.ins (kind,c,n,least,most)
noncomputable def nc (f:GFact):Option Bool:=Xf Tb f105 1 f105.ins f
noncomputable def aN (n:Int) (size:Int) (b:List Int):Option (List Int):=Xf Tb nK 1 nK.ins (n,size,b)
noncomputable def dO (n:Int) (i:Int) (b:List Int):Option (List Int):=Xf Tb nK 26 vZ (n,i,b)
noncomputable def nr (f:GFact):Option (List Int):=Xf Tb f117 1 f117.ins f
noncomputable def jh (gone:Int) (f:GFact):Option (List Int):=Xf Tb f117 31 AW (gone,f)
noncomputable def cn (s:ByteArray) (i:Int) (f:GFact) (b:List Int):Option (List Int):=Xf Tb f117 1018 vw (s,i,f,b)
noncomputable def bL (s:ByteArray) (i:Int) (f:GFact) (b:List Int):Option (List Int):=Xf Tb f117 8147 vS (s,i,f,b)
noncomputable def pz (f:GFact):Option (List Int × Bool):=Xf Tb f81 1 f81.ins f
noncomputable def aV (n:Int) (least:Int) (most:Int):Option Bool:=Xf Tb f118 1 f118.ins (n,least,most)
noncomputable def oo (day:Int):Option Bool:=Xf Tb f119 1 f119.ins day
noncomputable def aJ (v:Int) (n:Int):Option (List Int):=Xf Tb f89 1 f89.ins (v,n)
noncomputable def fJ (v:Int) (i:Int) (out:List Int):Option (List Int):=Xf Tb f89 58 FD (v,i,out)
noncomputable def eW (l:List (List Int)):Option (List Int):=Xf Tb f88 1 f88.ins l
noncomputable def jY (l:List (List Int)) (i:Int) (out:List Int):Option (List Int):=Xf Tb f88 58 FZ (l,i,out)
noncomputable def kT (c:GClaim):Option (List Int × Bool):=Xf Tb f82 1 f82.ins c
noncomputable def eh (n:Int):Option Int:=Xf Tb f84 1 f84.ins n
noncomputable def fV (month:Int):Option Bool:=Xf Tb f120 1 f120.ins month
noncomputable def jg (r:GRequest):Option (List Int × Bool):=Xf Tb f83 1 f83.ins r
noncomputable def gj (r:GRemittance):Option (List Int × Bool):=Xf Tb f85 1 f85.ins r
noncomputable def kh (n:GNotice):Option (List Int × Bool):=Xf Tb f86 1 f86.ins n
noncomputable def ub (r:GPensionlaw31_Raw) (kind:Int) (sender:Int):Option (List Int):=Xf Tb f42 1 f42.ins (r,kind,sender)
noncomputable def bZ (b:List Int):Option Int:=Xf Tb f133 1 f133.ins b
noncomputable def dR (b:List Int) (n:Int) (i:Int):Option Int:=Xf Tb f133 58 A1 (b,n,i)
noncomputable def oQ (b:List Int):Option (GFact × Int × Bool):=Xf Tb f104 1 f104.ins b
noncomputable def co (b:List Int) (xat:Int) (s:ByteArray) (i:Int) (t2:GFact) (f:GFact):Option (GFact × Int × Bool):=Xf Tb f104 506 yu (b,xat,s,i,t2,f)
noncomputable def dD (b:List Int) (xat:Int) (s:ByteArray) (i:Int) (size:Int) (t2:GFact) (f:GFact):Option (GFact × Int × Bool):=Xf Tb f104 32403 tz (b,xat,s,i,size,t2,f)
noncomputable def bB (b:List Int) (xat:Int) (s:ByteArray) (i:Int) (size:Int) (t2:GFact) (f:GFact):Option (GFact × Int × Bool):=Xf Tb f104 259231 rN (b,xat,s,i,size,t2,f)
noncomputable def tr (b:List Int):Option (GFact × Bool):=Xf Tb f70 1 f70.ins b
noncomputable def rR (b:List Int):Option (GClaim × Bool):=Xf Tb f76 1 f76.ins b
noncomputable def oy (b:List Int):Option (GRequest × Bool):=Xf Tb f147 1 f147.ins b
noncomputable def k7 (b:List Int):Option (GRemittance × Bool):=Xf Tb f148 1 f148.ins b
noncomputable def p6 (b:List Int):Option (GNotice × Bool):=Xf Tb f149 1 f149.ins b
noncomputable def oU (kind:Int) (sender:Int) (b:List Int):Option Bool:=Xf Tb f121 1 f121.ins (kind,sender,b)
noncomputable def iO (d:GDocument):Option Bool:=Xf Tb f87 1 f87.ins d
noncomputable def jS (b:List Int):Option Int:=Xf Tb f90 1 f90.ins b
noncomputable def bD (b:List Int) (c:Int) (i:Int):Option Int:=Xf Tb f90 58 DQ (b,c,i)
noncomputable def bY (b:List Int) (c:Int) (i:Int) (k:Int):Option Int:=Xf Tb f90 7462 yI (b,c,i,k)
noncomputable def gM (d:GDocument):Option (List Int × Int):=Xf Tb f43 1 f43.ins d
noncomputable def jo (l:List GPensionlaw31_Raw):Option (List (List Int)):=Xf Tb f21 1 f21.ins l
noncomputable def eR (l:List GPensionlaw31_Raw) (i:Int) (out:List (List Int)) (count:List Int) (last:List (List Int)):Option (List (List Int)):=Xf Tb f21 250 BE (l,i,out,count,last)
noncomputable def fC (l:List GPensionlaw31_Raw) (i:Int) (s:Int) (out:List (List Int)) (count:List Int) (last:List (List Int)) (d:GDocument):Option (List (List Int)):=Xf Tb f21 32039 wk (l,i,s,out,count,last,d)
noncomputable def ul:Option (List GFeed_key × List (List Int)):=Xf Tb f40 1 f40.ins ()
noncomputable def ao (n:Int) (b:GDocument_reader):Option (Int × GDocument_reader):=Xf Tb f96 1 f96.ins (n,b)
noncomputable def bM (n:Int) (v:Int) (t13:List Int) (t14:Int) (t15:Int) (b:GDocument_reader):Option (Int × GDocument_reader):=Xf Tb f96 58 DT (n,v,t13,t14,t15,b)
noncomputable def mI:Option (List Int):=Xf Tb f124 1 f124.ins ()
noncomputable def ea (t4:Int) (t0:List Int) (out:List Int):Option (List Int):=Xf Tb f124 58 AF (t4,t0,out)
noncomputable def bO (i:Int) (v:Int) (t4:Int) (t9:Int) (t0:List Int) (out:List Int):Option (List Int):=Xf Tb f124 59802 ur (i,v,t4,t9,t0,out)
noncomputable def eP (b:List Int):Option Int:=Xf Tb f94 1 f94.ins b
noncomputable def aU (v:Int) (t8:List Int) (t9:Int) (t10:Int) (t:List Int):Option Int:=Xf Tb f94 122 By (v,t8,t9,t10,t)
noncomputable def aR (v:Int) (low:Int) (high:Int):Option Bool:=Xf Tb f122 1 f122.ins (v,low,high)
noncomputable def am (size:Int) (r:GFact_reader):Option (Int × GFact_reader):=Xf Tb f129 1 f129.ins (size,r)
noncomputable def cr (size:Int) (x:Int) (t23:List Int) (t24:Int) (t25:Int) (r:GFact_reader):Option (Int × GFact_reader):=Xf Tb f129 122 yA (size,x,t23,t24,t25,r)
noncomputable def e9 (kind:Int):Option ByteArray:=Xf Tb f130 1 f130.ins kind
noncomputable def mU (t3:Int) (t6:Bool):Option ByteArray:=Xf Tb f130 215 yR (t3,t6)
noncomputable def fU (t3:Int) (t11:Bool):Option ByteArray:=Xf Tb f130 3455 vO (t3,t11)
noncomputable def gx (t3:Int) (t20:Bool):Option ByteArray:=Xf Tb f130 221183 rP (t3,t20)
noncomputable def gq (x:Int) (low:Int) (high:Int):Option Bool:=Xf Tb f168 1 f168.ins (x,low,high)
noncomputable def lm (s:ByteArray) (c:Int):Option Int:=Xf Tb f211 1 f211.ins (s,c)
noncomputable def oF (s:ByteArray) (substr:ByteArray):Option Int:=Xf Tb f209 1 f209.ins (s,substr)
noncomputable def uy (s:ByteArray) (substr:ByteArray):Option Int:=Xf Tb f200 1 f200.ins (s,substr)
noncomputable def pt (s:ByteArray) (substr:ByteArray):Option Bool:=Xf Tb f167 1 f167.ins (s,substr)
noncomputable def d8 (letter:ByteArray) (t1:ByteArray):Option Bool:=Xf Tb f166 1 f166.ins (letter,t1)
noncomputable def fP (used:Bool) (x:Int) (low:Int) (high:Int):Option Bool:=Xf Tb f169 1 f169.ins (used,x,low,high)
noncomputable def mX (s:GSpan):Option Bool:=Xf Tb f170 1 f170.ins s
noncomputable def sU (f:GFact):Option Bool:=Xf Tb f131 1 f131.ins f
noncomputable def fq (t89:Int) (t97:Bool) (f:GFact):Option Bool:=Xf Tb f131 2007 uY (t89,t97,f)
noncomputable def wv (b:List Int):Option (GFact × Int × Bool):=Xf Tb f99 1 f99.ins b
noncomputable def aH (b:List Int) (withdrawn:Int) (f:GFact) (r:GFact_reader) (s2:ByteArray) (s2p:Int):Option (GFact × Int × Bool):=Xf Tb f99 1018 yH (b,withdrawn,f,r,s2,s2p)
noncomputable def om (b:List Int):Option (GFact × Bool):=Xf Tb f67 1 f67.ins b
noncomputable def iV (c:GClaim):Option Bool:=Xf Tb f108 1 f108.ins c
noncomputable def mK (b:List Int):Option (GClaim × Bool):=Xf Tb f72 1 f72.ins b
noncomputable def ep (r:GRequest):Option Bool:=Xf Tb f91 1 f91.ins r
noncomputable def k6 (b:List Int):Option (GRequest × Bool):=Xf Tb f150 1 f150.ins b
noncomputable def fu (r:GRemittance):Option Bool:=Xf Tb f178 1 f178.ins r
noncomputable def iS (b:List Int):Option (GRemittance × Bool):=Xf Tb f151 1 f151.ins b
noncomputable def il (n:GNotice):Option Bool:=Xf Tb f179 1 f179.ins n
noncomputable def mw (b:List Int):Option (GNotice × Bool):=Xf Tb f152 1 f152.ins b
noncomputable def ga (d:GDocument):Option Bool:=Xf Tb f123 1 f123.ins d
noncomputable def fg (d:GDocument):Option Bool:=Xf Tb f93 1 f93.ins d
noncomputable def eo (b:List Int):Option (GDocument × Int):=Xf Tb f56 1 f56.ins b
noncomputable def iC (a:List Int) (b:List Int):Option Int:=Xf Tb f57 1 f57.ins (a,b)
noncomputable def fj (b:List Int) (kept_k:List GFeed_key) (kept_v:List (List Int)):Option (Int × List GFeed_key × List (List Int)):=Xf Tb f28 1 f28.ins (b,kept_k,kept_v)
noncomputable def qh (b:List Int):Option (GDocument × Int):=Xf Tb f23 1 f23.ins b
noncomputable def cF (f:GPensionref31_Feeds) (sender:Int) (number:Int):Option (Int × Bool):=Xf Tb f46 1 f46.ins (f,sender,number)
noncomputable def cL (f:GPensionref31_Feeds) (sender:Int) (number:Int) (i:Int):Option (Int × Bool):=Xf Tb f46 26 Ev (f,sender,number,i)
noncomputable def mf (b:List Int) (L:GPensionref31_Feeds):Option (Int × GPensionref31_Feeds):=Xf Tb f31 1 f31.ins (b,L)
noncomputable def eY (b:List Int) (i:Int) (rest:Int) (L:GPensionref31_Feeds) (d:GDocument):Option (Int × GPensionref31_Feeds):=Xf Tb f31 255 BX (b,i,rest,L,d)
noncomputable def lT (l:List (List Int)):Option (Bool × List (List Int) × GPensionref31_Feeds × List GFeed_key × List (List Int)):=Xf Tb f13 1 f13.ins l
noncomputable def gR (i:Int) (l:List (List Int)) (L:GPensionref31_Feeds) (kept_k:List GFeed_key) (kept_v:List (List Int)):Option (Bool × List (List Int) × GPensionref31_Feeds × List GFeed_key × List (List Int)):=Xf Tb f13 58 ES (i,l,L,kept_k,kept_v)
noncomputable def aQ (v:Int) (n:Int) (b:List Int):Option (List Int):=Xf Tb qY 1 qY.ins (v,n,b)
noncomputable def cb (v:Int) (n:Int) (b:List Int):Option (List Int):=Xf Tb qY 26 yQ (v,n,b)
noncomputable def jM (r:GRequest):Option (List Int × Bool):=Xf Tb f47 1 f47.ins r
noncomputable def i7 (d:GDocument):Option (List Int × Int):=Xf Tb f48 1 f48.ins d
noncomputable def dI (sender:Int) (number:Int) (kept_k:List GFeed_key) (kept_v:List (List Int)):Option (List Int × Bool × List GFeed_key × List (List Int)):=Xf Tb f44 1 f44.ins (sender,number,kept_k,kept_v)
noncomputable def iK (b:List Int):Option Int:=Xf Tb f79 1 f79.ins b
noncomputable def eV (sender:Int) (kept_k:List GFeed_key) (kept_v:List (List Int)):Option (List GDocument × List GFeed_key × List (List Int)):=Xf Tb f39 1 f39.ins (sender,kept_k,kept_v)
noncomputable def cG (sender:Int) (prev:Int) (n:Int) (out:List GDocument) (kept_k:List GFeed_key) (kept_v:List (List Int)):Option (List GDocument × List GFeed_key × List (List Int)):=Xf Tb f39 62 EW (sender,prev,n,out,kept_k,kept_v)
noncomputable def gU (sender:Int) (kept_k:List GFeed_key) (kept_v:List (List Int)):Option (Int × List GFeed_key × List (List Int)):=Xf Tb f22 1 f22.ins (sender,kept_k,kept_v)
noncomputable def dC (sender:Int) (kept_k:List GFeed_key) (kept_v:List (List Int)):Option (Int × List GFeed_key × List (List Int)):=Xf Tb f49 1 f49.ins (sender,kept_k,kept_v)
noncomputable def ez (sender:Int) (p:Int) (kept_k:List GFeed_key) (kept_v:List (List Int)):Option (Int × List GFeed_key × List (List Int)):=Xf Tb f49 14 DK (sender,p,kept_k,kept_v)
noncomputable def eM (sender:Int) (p:Int) (kept_k:List GFeed_key) (kept_v:List (List Int)):Option (Int × List GFeed_key × List (List Int)):=Xf Tb f52 1 f52.ins (sender,p,kept_k,kept_v)
noncomputable def et (sender:Int) (p:Int) (n:Int) (all:List Int) (kept_k:List GFeed_key) (kept_v:List (List Int)):Option (Int × List GFeed_key × List (List Int)):=Xf Tb f52 58 DN (sender,p,n,all,kept_k,kept_v)
noncomputable def dn (kept_k:List GFeed_key) (kept_v:List (List Int)):Option (List Int × List GFeed_key × List (List Int)):=Xf Tb f25 1 f25.ins (kept_k,kept_v)
noncomputable def du (t8:Int) (out:List Int) (kept_k:List GFeed_key) (kept_v:List (List Int)):Option (List Int × List GFeed_key × List (List Int)):=Xf Tb f25 58 F9 (t8,out,kept_k,kept_v)
noncomputable def oS (inventory:List Int) (sender:Int):Option (Int × Int):=Xf Tb f51 1 f51.ins (inventory,sender)
noncomputable def d9 (sender:Int) (kept_k:List GFeed_key) (kept_v:List (List Int)):Option (List Int × List GFeed_key × List (List Int)):=Xf Tb f53 1 f53.ins (sender,kept_k,kept_v)
noncomputable def cN (sender:Int) (out:List Int) (w1s:Int) (w1l:List Int) (kept_k:List GFeed_key) (kept_v:List (List Int)):Option (List Int × List GFeed_key × List (List Int)):=Xf Tb f53 234 AD (sender,out,w1s,w1l,kept_k,kept_v)
noncomputable def ki (sender:Int) (number:Int) (kept_k:List GFeed_key) (kept_v:List (List Int)):Option (Bool × List Int × List GFeed_key × List (List Int)):=Xf Tb f17 1 f17.ins (sender,number,kept_k,kept_v)
noncomputable def jE (inventory:List Int) (kept_k:List GFeed_key) (kept_v:List (List Int)):Option (List (List Int) × Int × List GFeed_key × List (List Int)):=Xf Tb f24 1 f24.ins (inventory,kept_k,kept_v)
noncomputable def dG (inventory:List Int) (t29:Int) (kept_k:List GFeed_key) (kept_v:List (List Int)):Option (List (List Int) × Int × List GFeed_key × List (List Int)):=Xf Tb f24 122 AM (inventory,t29,kept_k,kept_v)
noncomputable def cM (inventory:List Int) (t41:Int) (out:List (List Int)) (kept_k:List GFeed_key) (kept_v:List (List Int)):Option (List (List Int) × Int × List GFeed_key × List (List Int)):=Xf Tb f24 506 A9 (inventory,t41,out,kept_k,kept_v)
noncomputable def aK (inventory:List Int) (sender:Int) (p:Int) (differ:Bool) (t41:Int) (t66:Int) (t67:Int) (out:List (List Int)) (t65:List Int) (kept_k:List GFeed_key) (kept_v:List (List Int)):Option (List (List Int) × Int × List GFeed_key × List (List Int)):=Xf Tb f24 518558 ue (inventory,sender,p,differ,t41,t66,t67,out,t65,kept_k,kept_v)
noncomputable def iL (a:List Int) (b:List Int):Option Bool:=Xf Tb f20 1 f20.ins (a,b)
noncomputable def rD:Option Bool:=Xf Tb f19 1 f19.ins ()
noncomputable def rg (kept_k:List GFeed_key) (kept_v:List (List Int)):Option (List GFeed_key × List (List Int) × List GFeed_key × List (List Int)):=Xf Tb f38 1 f38.ins (kept_k,kept_v)
noncomputable def m8 (a:List Int) (b:List Int):Option Bool:=Xf Tb f59 1 f59.ins (a,b)
noncomputable def sA (m1_k:List GFeed_key) (m1_v:List (List Int)) (m2_k:List GFeed_key) (m2_v:List (List Int)):Option (Bool × List GFeed_key × List (List Int) × List GFeed_key × List (List Int)):=Xf Tb f58 1 f58.ins (m1_k,m1_v,m2_k,m2_v)
noncomputable def f9 (m2_k:List GFeed_key) (m2_v:List (List Int)) (w1s:Int) (w1l:List Int) (t1000000_k:List GFeed_key) (t1000000_v:List (List Int)):Option (Bool × List GFeed_key × List (List Int) × List GFeed_key × List (List Int)):=Xf Tb f58 58 FV (m2_k,m2_v,w1s,w1l,t1000000_k,t1000000_v)
noncomputable def kV (kept_k:List GFeed_key) (kept_v:List (List Int)) (kept_k2:List GFeed_key) (kept_v2:List (List Int)):Option (Bool × List GFeed_key × List (List Int) × List GFeed_key × List (List Int)):=Xf Tb f29 1 f29.ins (kept_k,kept_v,kept_k2,kept_v2)
noncomputable def lL (a_k:List GFeed_key) (a_v:List (List Int)) (kept_k:List GFeed_key) (kept_v:List (List Int)):Option (Bool × List GFeed_key × List (List Int) × List GFeed_key × List (List Int)):=Xf Tb f29 15 F6 (a_k,a_v,kept_k,kept_v)
noncomputable def df (f:GPensionref31_Feeds) (sender:Int):Option Int:=Xf Tb f54 1 f54.ins (f,sender)
noncomputable def dW (f:GPensionref31_Feeds) (sender:Int) (p:Int):Option Int:=Xf Tb f54 14 Fi (f,sender,p)
noncomputable def gI (sender:Int) (L:GPensionref31_Feeds):Option (GPensionref31_Feeds × List GDocument):=Xf Tb f60 1 f60.ins (sender,L)
noncomputable def cW (sender:Int) (prev:Int) (p:Int) (n:Int) (L:GPensionref31_Feeds) (out:List GDocument):Option (GPensionref31_Feeds × List GDocument):=Xf Tb f60 250 BM (sender,prev,p,n,L,out)
noncomputable def fA (f:GPensionref31_Feeds) (sender:Int):Option (List GDocument):=Xf Tb qD 1 qD.ins (f,sender)
noncomputable def cz (f:GPensionref31_Feeds) (sender:Int) (prev:Int) (p:Int) (n:Int) (out:List GDocument):Option (List GDocument):=Xf Tb qD 250 wz (f,sender,prev,p,n,out)
noncomputable def mv (f:GPensionref31_Feeds) (sender:Int):Option Int:=Xf Tb f61 1 f61.ins (f,sender)
noncomputable def rz (s:GSpan):Option GSpan:=Xf Tb f126 1 f126.ins s
noncomputable def tP (l:List GSpan):Option (List GSpan):=Xf Tb f98 1 f98.ins l
noncomputable def dg (t10:List GSpan) (t11:Int) (t12:Int) (sorted:List GSpan):Option (List GSpan):=Xf Tb f98 58 EG (t10,t11,t12,sorted)
noncomputable def cR (t33:Int) (t34:Int) (out:List GSpan) (t32:List GSpan):Option (List GSpan):=Xf Tb f98 506 Bk (t33,t34,out,t32)
noncomputable def jO (sender:Int) (kept_k:List GFeed_key) (kept_v:List (List Int)):Option (List GSpan × List GFeed_key × List (List Int)):=Xf Tb f63 1 f63.ins (sender,kept_k,kept_v)
noncomputable def bE (t11:Int) (t12:Int) (out:List GSpan) (t10:List Int) (kept_k:List GFeed_key) (kept_v:List (List Int)):Option (List GSpan × List GFeed_key × List (List Int)):=Xf Tb f63 58 F4 (t11,t12,out,t10,kept_k,kept_v)
noncomputable def iP (f:GPensionref31_Feeds) (sender:Int):Option (List GSpan):=Xf Tb f64 1 f64.ins (f,sender)
noncomputable def aP (f:GPensionref31_Feeds) (sender:Int) (i:Int) (out:List GSpan):Option (List GSpan):=Xf Tb f64 58 DL (f,sender,i,out)
noncomputable def sT (a:List GSpan) (b:List GSpan):Option Bool:=Xf Tb f62 1 f62.ins (a,b)
noncomputable def dK (a:List GSpan) (b:List GSpan) (i:Int):Option Bool:=Xf Tb f62 58 Fv (a,b,i)
noncomputable def mg (f:GPensionref31_Feeds) (sender:Int) (number:Int):Option (List Int × Bool):=Xf Tb f18 1 f18.ins (f,sender,number)
noncomputable def jF (f:GPensionref31_Feeds) (sender:Int) (p:Int):Option Int:=Xf Tb f55 1 f55.ins (f,sender,p)
noncomputable def dV (f:GPensionref31_Feeds) (sender:Int) (p:Int) (n:Int) (b:List Int):Option Int:=Xf Tb f55 58 Gb (f,sender,p,n,b)
noncomputable def gG (f:GPensionref31_Feeds):Option (List Int):=Xf Tb f66 1 f66.ins f
noncomputable def dj (f:GPensionref31_Feeds) (s:Int) (out:List Int):Option (List Int):=Xf Tb f66 58 FX (f,s,out)
noncomputable def sQ (a:GDocument) (b:GDocument):Option Bool:=Xf Tb f65 1 f65.ins (a,b)
noncomputable def tD (L:GPensionref31_Feeds) (kept_k:List GFeed_key) (kept_v:List (List Int)):Option (Bool × GPensionref31_Feeds × List GFeed_key × List (List Int)):=Xf Tb f30 1 f30.ins (L,kept_k,kept_v)
noncomputable def jW (s:Int) (L:GPensionref31_Feeds) (kept_k:List GFeed_key) (kept_v:List (List Int)):Option (Bool × GPensionref31_Feeds × List GFeed_key × List (List Int)):=Xf Tb f30 26 Fg (s,L,kept_k,kept_v)
noncomputable def cE (s:Int) (i:Int) (t28:Int) (t29:Int) (t31:Int) (t32:Int) (t33:Bool) (t37:Int) (t40:Int) (t42:Bool) (t43:Bool) (t47:Int) (t49:Int) (t50:Bool) (L:GPensionref31_Feeds) (a:List GDocument) (b:List GDocument) (t38:List GSpan) (t41:List GSpan) (kept_k:List GFeed_key) (kept_v:List (List Int)):Option (Bool × GPensionref31_Feeds × List GFeed_key × List (List Int)):=Xf Tb f30 6734 x8 (s,i,t28,t29,t31,t32,t33,t37,t40,t42,t43,t47,t49,t50,L,a,b,t38,t41,kept_k,kept_v)
noncomputable def lM (l:List GPensionlaw31_Raw) (k:List GPensionlaw31_Raw):Option Bool:=Xf Tb f11 1 f11.ins (l,k)
noncomputable def cX (i:Int) (L:GPensionref31_Feeds) (c:List (List Int)) (kept_k:List GFeed_key) (kept_v:List (List Int)) (kept_k2:List GFeed_key) (kept_v2:List (List Int)):Option Bool:=Xf Tb f11 1018 yb (i,L,c,kept_k,kept_v,kept_k2,kept_v2)
noncomputable def ca (s:Int) (L:GPensionref31_Feeds) (kept_k:List GFeed_key) (kept_v:List (List Int)):Option Bool:=Xf Tb f11 2042 yB (s,L,kept_k,kept_v)
end Go.Ax
