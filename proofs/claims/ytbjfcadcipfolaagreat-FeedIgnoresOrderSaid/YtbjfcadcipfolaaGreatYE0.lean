import Derived.Test.YtbjfcadcipfolaaGreatYHd
import Derived.Test.YtbjfcadcipfolaaGreatRows
set_option linter.all false
set_option maxRecDepth 100000
set_option maxHeartbeats 0
namespace Go.Ax
open Go.Proofs Go.Proofs.YtbjfcadcipfolaaGreat
/- pension/pensionplain.Mod -/
noncomputable def f16:FI:={ fid:=16,fn:=Tryz.f16,c:=ah Tryz.f16,ins:={ sl:=[(0, .t (.i .i64)),(1, .t (.i .i64))] },out:=.new (.t (.i .i64)),cuts:=[] }
abbrev JU:Tm:={ sl:=[(0, .t (.ls (.i .u8))),(3, .t (.i .i64)),(4, .t (.i .i64))],ob:=[] }
noncomputable def f50:FI:={ fid:=50,fn:=Tryz.f50,c:=ah Tryz.f50,ins:={ sl:=[(0, .t (.ls (.i .u8)))] },out:=.new (.t (.i .i64)),cuts:=[(58,JU)] }
noncomputable def f41:FI:={ fid:=41,fn:=Tryz.f41,c:=ah Tryz.f41,ins:={ sl:=[(0, .t (.ls (.i .u8)))] },out:=.new (.t (.i .u32)),cuts:=[] }
noncomputable def f115:FI:={ fid:=115,fn:=Tryz.f115,c:=ah Tryz.f115,ins:={ sl:=[(0, .t (.i .i64))] },out:=.new (.t (.i .i64)),cuts:=[] }
noncomputable def f116:FI:={ fid:=116,fn:=Tryz.f116,c:=ah Tryz.f116,ins:={ sl:=[(0, .t (.i .i64))] },out:=.new (.t (.s)),cuts:=[] }
abbrev EE:Tm:={ sl:=[(1, .k (.ptr 0 13 0 0)),(2, .k (.ptr 1 14 0 0)),(3, .k (.ptr 2 14 0 0)),(4, .t (.i .i64)),(5, .t (.i .i64))],ob:=[.box [.t (.st .GPensionhand_Fact)], .box [.t (.st .GFact)], .box [.t (.st .GFact)]] }
abbrev BP:Tm:={ sl:=[(1, .k (.ptr 0 13 0 0)),(2, .k (.ptr 1 14 0 0)),(3, .k (.ptr 2 14 0 0)),(4, .t (.i .i64)),(5, .t (.i .i64)),(6, .t (.s)),(7, .t (.i .i64))],ob:=[.box [.t (.st .GPensionhand_Fact)], .box [.t (.st .GFact)], .box [.t (.st .GFact)]] }
abbrev yP:Tm:={ sl:=[(1, .k (.ptr 0 13 0 0)),(2, .k (.ptr 1 14 0 0)),(3, .k (.ptr 2 14 0 0)),(4, .t (.i .i64)),(5, .t (.i .i64)),(6, .t (.s)),(7, .t (.i .i64))],ob:=[.box [.t (.st .GPensionhand_Fact)], .box [.t (.st .GFact)], .box [.t (.st .GFact)]] }
noncomputable def f80:FI:={ fid:=80,fn:=Tryz.f80,c:=ah Tryz.f80,ins:={ sl:=[(0, .t (.st .GPensionhand_Fact))] },out:=.new (.t (.st .GFact)),cuts:=[(127,EE),(2042,BP),(16339,yP)] }
abbrev Ez:Tm:={ sl:=[(1, .t (.i .u8)),(5, .t (.s)),(6, .t (.i .i64))],ob:=[] }
noncomputable def f172:FI:={ fid:=172,fn:=Tryz.f172,c:=ah Tryz.f172,ins:={ sl:=[(0, .t (.i .i64)),(1, .t (.i .u8))] },out:=.new (.t (.b)),cuts:=[(58,Ez)] }
noncomputable def f134:FI:={ fid:=134,fn:=Tryz.f134,c:=ah Tryz.f134,ins:={ sl:=[(0, .t (.i .i64)),(1, .t (.i .u8)),(2, .t (.i .i64)),(3, .t (.i .i64)),(4, .t (.i .i64))] },out:=.new (.t (.b)),cuts:=[] }
noncomputable def f105:FI:={ fid:=105,fn:=Tryz.f105,c:=ah Tryz.f105,ins:={ sl:=[(0, .t (.st .GFact))] },out:=.new (.t (.b)),cuts:=[] }
abbrev Qj:Tm:={ sl:=[(0, .k (.row 0 1)),(1, .t (.i .i64)),(7, .t (.i .i64))],ob:=[.row 5 (.i .u8)] }
noncomputable def f146:FI:={ fid:=146,fn:=Tryz.f146,c:=ah Tryz.f146,ins:={ sl:=[(0, .k (.c .nil)),(1, .t (.i .i64)),(2, .t (.i .i64))],ob:=[] },out:=.gen ({ sl:=[(2000000, .tp [.k (.row 0 1)])],ob:=[.row 5 (.i .u8)] }),cuts:=[(26,Qj)] }
abbrev ze:Tm:={ sl:=[(0, .k (.row 0 1)),(1, .t (.i .i64)),(7, .t (.i .i64))],ob:=[.row 5 (.i .u8)] }
noncomputable def qc:FI:={ fid:=146,fn:=Tryz.f146,c:=ah Tryz.f146,ins:={ sl:=[(0, .k (.row 0 1)),(1, .t (.i .i64)),(2, .t (.i .i64))],ob:=[.row 5 (.i .u8)] },out:=.gen ({ sl:=[(2000000, .tp [.k (.row 0 1)])],ob:=[.row 5 (.i .u8)] }),cuts:=[(26,ze)] }
abbrev DP:Tm:={ sl:=[(1, .k (.ptr 0 14 0 0)),(3, .t (.i .i64))],ob:=[.box [.t (.st .GFact)]] }
abbrev zH:Tm:={ sl:=[(1, .k (.ptr 0 14 0 0)),(4, .k (.row 1 1)),(5, .t (.s)),(6, .t (.i .i64))],ob:=[.box [.t (.st .GFact)], .row 5 (.i .u8)] }
abbrev zG:Tm:={ sl:=[(1, .k (.ptr 0 14 0 0)),(4, .k (.row 1 1)),(5, .t (.s)),(6, .t (.i .i64))],ob:=[.box [.t (.st .GFact)], .row 5 (.i .u8)] }
noncomputable def f117:FI:={ fid:=117,fn:=Tryz.f117,c:=ah Tryz.f117,ins:={ sl:=[(0, .t (.st .GFact))] },out:=.own true 5 (.i .u8),cuts:=[(31,DP),(1018,zH),(8147,zG)] }
noncomputable def f81:FI:={ fid:=81,fn:=Tryz.f81,c:=ah Tryz.f81,ins:={ sl:=[(0, .t (.st .GFact))] },out:=.new (.tp [.t (.ls (.i .u8)), .t (.b)]),cuts:=[] }
noncomputable def f118:FI:={ fid:=118,fn:=Tryz.f118,c:=ah Tryz.f118,ins:={ sl:=[(0, .t (.i .i64)),(1, .t (.i .i64)),(2, .t (.i .i64))] },out:=.new (.t (.b)),cuts:=[] }
noncomputable def f119:FI:={ fid:=119,fn:=Tryz.f119,c:=ah Tryz.f119,ins:={ sl:=[(0, .t (.i .i64))] },out:=.new (.t (.b)),cuts:=[] }
abbrev G9:Tm:={ sl:=[(0, .t (.i .i64)),(5, .k (.row 0 1)),(6, .t (.i .i64))],ob:=[.row 5 (.i .u8)] }
noncomputable def f89:FI:={ fid:=89,fn:=Tryz.f89,c:=ah Tryz.f89,ins:={ sl:=[(0, .t (.i .i64)),(1, .t (.i .i64))] },out:=.own true 5 (.i .u8),cuts:=[(58,G9)] }
abbrev HY:Tm:={ sl:=[(0, .t (.ls (.ls (.i .u8)))),(3, .k (.row 0 1)),(4, .t (.i .i64))],ob:=[.row 5 (.i .u8)] }
noncomputable def f88:FI:={ fid:=88,fn:=Tryz.f88,c:=ah Tryz.f88,ins:={ sl:=[(0, .t (.ls (.ls (.i .u8))))] },out:=.own true 5 (.i .u8),cuts:=[(58,HY)] }
noncomputable def f82:FI:={ fid:=82,fn:=Tryz.f82,c:=ah Tryz.f82,ins:={ sl:=[(0, .t (.st .GClaim))] },out:=.new (.tp [.t (.ls (.i .u8)), .t (.b)]),cuts:=[] }
noncomputable def f84:FI:={ fid:=84,fn:=Tryz.f84,c:=ah Tryz.f84,ins:={ sl:=[(0, .t (.i .i64))] },out:=.new (.t (.i .i64)),cuts:=[] }
noncomputable def f120:FI:={ fid:=120,fn:=Tryz.f120,c:=ah Tryz.f120,ins:={ sl:=[(0, .t (.i .i64))] },out:=.new (.t (.b)),cuts:=[] }
noncomputable def f83:FI:={ fid:=83,fn:=Tryz.f83,c:=ah Tryz.f83,ins:={ sl:=[(0, .t (.st .GRequest))] },out:=.new (.tp [.t (.ls (.i .u8)), .t (.b)]),cuts:=[] }
noncomputable def f85:FI:={ fid:=85,fn:=Tryz.f85,c:=ah Tryz.f85,ins:={ sl:=[(0, .t (.st .GRemittance))] },out:=.new (.tp [.t (.ls (.i .u8)), .t (.b)]),cuts:=[] }
noncomputable def f86:FI:={ fid:=86,fn:=Tryz.f86,c:=ah Tryz.f86,ins:={ sl:=[(0, .t (.st .GNotice))] },out:=.new (.tp [.t (.ls (.i .u8)), .t (.b)]),cuts:=[] }
noncomputable def f42:FI:={ fid:=42,fn:=Tryz.f42,c:=ah Tryz.f42,ins:={ sl:=[(0, .t (.st .GPensionlaw31_Raw)),(1, .t (.i .i64)),(2, .t (.i .i64))] },out:=.data (.t (.ls (.i .u8))),cuts:=[] }
abbrev D1:Tm:={ sl:=[(0, .t (.ls (.i .u8))),(3, .t (.i .i64)),(4, .t (.i .i64))],ob:=[] }
noncomputable def f133:FI:={ fid:=133,fn:=Tryz.f133,c:=ah Tryz.f133,ins:={ sl:=[(0, .t (.ls (.i .u8)))] },out:=.new (.t (.i .i64)),cuts:=[(58,D1)] }
abbrev Ce:Tm:={ sl:=[(0, .t (.ls (.i .u8))),(2, .k (.ptr 0 14 0 0)),(5, .k (.ptr 1 14 0 0)),(6, .t (.i .i64)),(7, .t (.s)),(8, .t (.i .i64))],ob:=[.box [.t (.st .GFact)], .box [.t (.st .GFact)]] }
abbrev wJ:Tm:={ sl:=[(0, .t (.ls (.i .u8))),(2, .k (.ptr 0 14 0 0)),(5, .k (.ptr 1 14 0 0)),(6, .t (.i .i64)),(7, .t (.s)),(8, .t (.i .i64)),(9, .t (.i .i64))],ob:=[.box [.t (.st .GFact)], .box [.t (.st .GFact)]] }
abbrev uC:Tm:={ sl:=[(0, .t (.ls (.i .u8))),(2, .k (.ptr 0 14 0 0)),(5, .k (.ptr 1 14 0 0)),(6, .t (.i .i64)),(7, .t (.s)),(8, .t (.i .i64)),(9, .t (.i .i64))],ob:=[.box [.t (.st .GFact)], .box [.t (.st .GFact)]] }
noncomputable def f104:FI:={ fid:=104,fn:=Tryz.f104,c:=ah Tryz.f104,ins:={ sl:=[(0, .t (.ls (.i .u8)))] },out:=.new (.tp [.t (.st .GFact), .t (.i .i64), .t (.b)]),cuts:=[(506,Ce),(32403,wJ),(259231,uC)] }
noncomputable def f70:FI:={ fid:=70,fn:=Tryz.f70,c:=ah Tryz.f70,ins:={ sl:=[(0, .t (.ls (.i .u8)))] },out:=.new (.tp [.t (.st .GFact), .t (.b)]),cuts:=[] }
noncomputable def f76:FI:={ fid:=76,fn:=Tryz.f76,c:=ah Tryz.f76,ins:={ sl:=[(0, .t (.ls (.i .u8)))] },out:=.new (.tp [.t (.st .GClaim), .t (.b)]),cuts:=[] }
noncomputable def f147:FI:={ fid:=147,fn:=Tryz.f147,c:=ah Tryz.f147,ins:={ sl:=[(0, .t (.ls (.i .u8)))] },out:=.new (.tp [.t (.st .GRequest), .t (.b)]),cuts:=[] }
noncomputable def f148:FI:={ fid:=148,fn:=Tryz.f148,c:=ah Tryz.f148,ins:={ sl:=[(0, .t (.ls (.i .u8)))] },out:=.new (.tp [.t (.st .GRemittance), .t (.b)]),cuts:=[] }
noncomputable def f149:FI:={ fid:=149,fn:=Tryz.f149,c:=ah Tryz.f149,ins:={ sl:=[(0, .t (.ls (.i .u8)))] },out:=.new (.tp [.t (.st .GNotice), .t (.b)]),cuts:=[] }
noncomputable def f121:FI:={ fid:=121,fn:=Tryz.f121,c:=ah Tryz.f121,ins:={ sl:=[(0, .t (.i .i64)),(1, .t (.i .i64)),(2, .t (.ls (.i .u8)))] },out:=.new (.t (.b)),cuts:=[] }
noncomputable def f87:FI:={ fid:=87,fn:=Tryz.f87,c:=ah Tryz.f87,ins:={ sl:=[(0, .t (.st .GDocument))] },out:=.new (.t (.b)),cuts:=[] }
abbrev I8:Tm:={ sl:=[(0, .t (.ls (.i .u8))),(3, .t (.i .u32)),(4, .t (.i .i64))],ob:=[] }
abbrev BH:Tm:={ sl:=[(0, .t (.ls (.i .u8))),(3, .t (.i .u32)),(4, .t (.i .i64)),(5, .t (.i .i64))],ob:=[] }
noncomputable def f90:FI:={ fid:=90,fn:=Tryz.f90,c:=ah Tryz.f90,ins:={ sl:=[(0, .t (.ls (.i .u8)))] },out:=.new (.t (.i .u32)),cuts:=[(58,I8),(7462,BH)] }
noncomputable def f43:FI:={ fid:=43,fn:=Tryz.f43,c:=ah Tryz.f43,ins:={ sl:=[(0, .t (.st .GDocument))] },out:=.new (.tp [.t (.ls (.i .u8)), .t (.i .i64)]),cuts:=[] }
abbrev Eo:Tm:={ sl:=[(0, .t (.ls (.st .GPensionlaw31_Raw))),(3, .k (.row 0 1)),(4, .k (.ptr 1 1 0 0)),(5, .k (.ptr 2 1 0 0)),(6, .t (.i .i64))],ob:=[.row 32 (.ls (.i .u8)), .row 53 (.i .i64), .row 89 (.ls (.i .u8))] }
abbrev zy:Tm:={ sl:=[(0, .t (.ls (.st .GPensionlaw31_Raw))),(3, .k (.row 0 1)),(4, .k (.ptr 1 1 0 0)),(5, .k (.ptr 2 1 0 0)),(6, .t (.i .i64)),(7, .t (.i .i64)),(8, .k (.ptr 3 5 0 0))],ob:=[.row 32 (.ls (.i .u8)), .row 53 (.i .i64), .row 89 (.ls (.i .u8)), .box [.t (.st .GDocument)]] }
noncomputable def f21:FI:={ fid:=21,fn:=Tryz.f21,c:=ah Tryz.f21,ins:={ sl:=[(0, .t (.ls (.st .GPensionlaw31_Raw)))] },out:=.own false 32 (.ls (.i .u8)),cuts:=[(250,Eo),(32039,zy)] }
abbrev HX:Tm:={ sl:=[(0, .t (.ls (.st .GPensionlaw31_Raw))),(3, .k (.row 0 1)),(4, .t (.i .i64))],ob:=[.row 32 (.ls (.i .u8))] }
abbrev Cc:Tm:={ sl:=[(0, .t (.ls (.st .GPensionlaw31_Raw))),(3, .k (.row 0 1)),(4, .t (.i .i64)),(5, .t (.i .i64)),(6, .k (.ptr 1 5 0 0))],ob:=[.row 32 (.ls (.i .u8)), .box [.t (.st .GDocument)]] }
noncomputable def f15:FI:={ fid:=15,fn:=Tryz.f15,c:=ah Tryz.f15,ins:={ sl:=[(0, .t (.ls (.st .GPensionlaw31_Raw)))] },out:=.data (.t (.ls (.ls (.i .u8)))),cuts:=[(58,HX),(7463,Cc)] }
abbrev DO:Tm:={ sl:=[(1, .t (.ls (.i .i64))),(5, .k (.row 0 1)),(6, .k (.row 1 1)),(7, .t (.i .i64))],ob:=[.row 32 (.ls (.i .u8)), .row 32 (.ls (.i .u8))] }
abbrev Bj:Tm:={ sl:=[(1, .t (.ls (.i .i64))),(5, .k (.row 0 1)),(6, .k (.row 1 1)),(7, .t (.i .i64)),(8, .t (.i .i64))],ob:=[.row 32 (.ls (.i .u8)), .row 32 (.ls (.i .u8))] }
abbrev yB:Tm:={ sl:=[(1, .t (.ls (.i .i64))),(5, .k (.row 0 1)),(6, .k (.row 1 1)),(7, .t (.i .i64)),(9, .t (.i .i64))],ob:=[.row 32 (.ls (.i .u8)), .row 32 (.ls (.i .u8))] }
noncomputable def f14:FI:={ fid:=14,fn:=Tryz.f14,c:=ah Tryz.f14,ins:={ sl:=[(0, .t (.ls (.ls (.i .u8)))),(1, .t (.ls (.i .i64)))],ob:=[] },out:=.gen ({ sl:=[(2000000, .tp [.k (.row 0 1)])],ob:=[.row 32 (.ls (.i .u8))] }),cuts:=[(122,DO),(7827,Bj),(62623,yB)] }
noncomputable def f40:FI:={ fid:=40,fn:=Tryz.f40,c:=ah Tryz.f40,ins:={ sl:=[],ob:=[] },out:=.gen ({ sl:=[(2000000, .tp [.k (.ptr 0 1 0 0)])],ob:=[.box [.k (.fn 2000000000 [.ptr 1 1 0 0])], .map 98 (.st .GFeed_key) (.ls (.i .u8))] }),cuts:=[] }
abbrev Hl:Tm:={ sl:=[(0, .k (.ptr 0 1 0 0)),(1, .t (.i .i64)),(5, .t (.i .i64)),(13, .t (.ls (.i .u8))),(14, .t (.i .i64)),(15, .t (.i .i64)),(1000000, .k (.ptr 0 1 0 0))],ob:=[.box [.t (.st .GDocument_reader)]] }
noncomputable def f96:FI:={ fid:=96,fn:=Tryz.f96,c:=ah Tryz.f96,ins:={ sl:=[(0, .k (.ptr 0 1 0 0)),(1, .t (.i .i64)),(1000000, .k (.ptr 0 1 0 0))],ob:=[.box [.t (.st .GDocument_reader)]] },out:=.gen ({ sl:=[(1000000, .k (.ptr 0 1 0 0)),(2000000, .tp [.t (.i .i64)])],ob:=[.box [.t (.st .GDocument_reader)]] }),cuts:=[(58,Hl)] }
noncomputable def f45:FI:={ fid:=45,fn:=Tryz.f45,c:=ah Tryz.f45,ins:={ sl:=[(0, .t (.ls (.i .u8)))] },out:=.own true 5 (.i .u8),cuts:=[] }
abbrev EL:Tm:={ sl:=[(0, .k (.ptr 0 1 0 0)),(1, .k (.ptr 1 1 0 0)),(4, .t (.i .i64))],ob:=[.row 159 (.i .u32), .row 159 (.i .u32)] }
abbrev xf:Tm:={ sl:=[(0, .k (.ptr 0 1 0 0)),(1, .k (.ptr 1 1 0 0)),(2, .t (.i .i64)),(3, .t (.i .u32)),(4, .t (.i .i64)),(9, .t (.i .i64))],ob:=[.row 159 (.i .u32), .row 159 (.i .u32)] }
noncomputable def f124:FI:={ fid:=124,fn:=Tryz.f124,c:=ah Tryz.f124,ins:={ sl:=[] },out:=.new (.t (.arr 256 (.i .u32))),cuts:=[(58,EL),(59802,xf)] }
abbrev El:Tm:={ sl:=[(3, .k (.ptr 0 1 0 0)),(4, .t (.i .u32)),(8, .t (.ls (.i .u8))),(9, .t (.i .i64)),(10, .t (.i .i64))],ob:=[.row 159 (.i .u32)] }
noncomputable def f94:FI:={ fid:=94,fn:=Tryz.f94,c:=ah Tryz.f94,ins:={ sl:=[(0, .t (.ls (.i .u8)))] },out:=.new (.t (.i .u32)),cuts:=[(122,El)] }
noncomputable def f122:FI:={ fid:=122,fn:=Tryz.f122,c:=ah Tryz.f122,ins:={ sl:=[(0, .t (.i .i64)),(1, .t (.i .i64)),(2, .t (.i .i64))] },out:=.new (.t (.b)),cuts:=[] }
abbrev BL:Tm:={ sl:=[(0, .k (.ptr 0 2 0 0)),(1, .t (.i .i64)),(5, .t (.i .i64)),(23, .t (.ls (.i .u8))),(24, .t (.i .i64)),(25, .t (.i .i64)),(1000000, .k (.ptr 0 2 0 0))],ob:=[.box [.t (.st .GFact_reader)]] }
noncomputable def f129:FI:={ fid:=129,fn:=Tryz.f129,c:=ah Tryz.f129,ins:={ sl:=[(0, .k (.ptr 0 2 0 0)),(1, .t (.i .i64)),(1000000, .k (.ptr 0 2 0 0))],ob:=[.box [.t (.st .GFact_reader)]] },out:=.gen ({ sl:=[(1000000, .k (.ptr 0 2 0 0)),(2000000, .tp [.t (.i .i64)])],ob:=[.box [.t (.st .GFact_reader)]] }),cuts:=[(122,BL)] }
abbrev Bl:Tm:={ sl:=[(3, .t (.i .i64)),(6, .t (.b))],ob:=[] }
abbrev zD:Tm:={ sl:=[(3, .t (.i .i64)),(11, .t (.b))],ob:=[] }
abbrev uV:Tm:={ sl:=[(3, .t (.i .i64)),(20, .t (.b))],ob:=[] }
noncomputable def f130:FI:={ fid:=130,fn:=Tryz.f130,c:=ah Tryz.f130,ins:={ sl:=[(0, .t (.i .i64))] },out:=.new (.t (.s)),cuts:=[(215,Bl),(3455,zD),(221183,uV)] }
noncomputable def f168:FI:={ fid:=168,fn:=Tryz.f168,c:=ah Tryz.f168,ins:={ sl:=[(0, .t (.i .i64)),(1, .t (.i .i64)),(2, .t (.i .i64))] },out:=.new (.t (.b)),cuts:=[] }
noncomputable def f215:FI:={ fid:=215,fn:=Tryz.f215,c:=ah Tryz.f215,ins:={ sl:=[(0, .t (.s)),(1, .t (.i .u8))] },out:=.data (.t (.i .i64)),cuts:=[] }
noncomputable def f211:FI:={ fid:=211,fn:=Tryz.f211,c:=ah Tryz.f211,ins:={ sl:=[(0, .t (.s)),(1, .t (.i .u8))] },out:=.new (.t (.i .i64)),cuts:=[] }
noncomputable def f209:FI:={ fid:=209,fn:=Tryz.f209,c:=ah Tryz.f209,ins:={ sl:=[(0, .t (.s)),(1, .t (.s))] },out:=.new (.t (.i .i64)),cuts:=[] }
noncomputable def f200:FI:={ fid:=200,fn:=Tryz.f200,c:=ah Tryz.f200,ins:={ sl:=[(0, .t (.s)),(1, .t (.s))] },out:=.new (.t (.i .i64)),cuts:=[] }
noncomputable def f167:FI:={ fid:=167,fn:=Tryz.f167,c:=ah Tryz.f167,ins:={ sl:=[(0, .t (.s)),(1, .t (.s))] },out:=.new (.t (.b)),cuts:=[] }
noncomputable def f166:FI:={ fid:=166,fn:=Tryz.f166,c:=ah Tryz.f166,ins:={ sl:=[(0, .t (.s)),(1, .dp (.s))] },out:=.new (.t (.b)),cuts:=[] }
noncomputable def f169:FI:={ fid:=169,fn:=Tryz.f169,c:=ah Tryz.f169,ins:={ sl:=[(0, .t (.b)),(1, .t (.i .i64)),(2, .t (.i .i64)),(3, .t (.i .i64))] },out:=.new (.t (.b)),cuts:=[] }
noncomputable def f170:FI:={ fid:=170,fn:=Tryz.f170,c:=ah Tryz.f170,ins:={ sl:=[(0, .t (.st .GSpan))] },out:=.new (.t (.b)),cuts:=[] }
abbrev yF:Tm:={ sl:=[(1, .k (.ptr 0 14 0 0)),(89, .t (.i .i64)),(97, .t (.b))],ob:=[.box [.t (.st .GFact)]] }
noncomputable def f131:FI:={ fid:=131,fn:=Tryz.f131,c:=ah Tryz.f131,ins:={ sl:=[(0, .t (.st .GFact))] },out:=.new (.t (.b)),cuts:=[(2007,yF)] }
abbrev B3:Tm:={ sl:=[(0, .t (.ls (.i .u8))),(2, .k (.ptr 0 14 0 0)),(5, .k (.ptr 1 2 0 0)),(6, .t (.i .i64)),(35, .k (.ptr 2 1 0 0))],ob:=[.box [.t (.st .GFact)], .box [.t (.st .GFact_reader)], .str] }
noncomputable def f99:FI:={ fid:=99,fn:=Tryz.f99,c:=ah Tryz.f99,ins:={ sl:=[(0, .t (.ls (.i .u8)))] },out:=.new (.tp [.t (.st .GFact), .t (.i .i64), .t (.b)]),cuts:=[(1018,B3)] }
noncomputable def f67:FI:={ fid:=67,fn:=Tryz.f67,c:=ah Tryz.f67,ins:={ sl:=[(0, .t (.ls (.i .u8)))] },out:=.new (.tp [.t (.st .GFact), .t (.b)]),cuts:=[] }
noncomputable def f108:FI:={ fid:=108,fn:=Tryz.f108,c:=ah Tryz.f108,ins:={ sl:=[(0, .t (.st .GClaim))] },out:=.new (.t (.b)),cuts:=[] }
noncomputable def f72:FI:={ fid:=72,fn:=Tryz.f72,c:=ah Tryz.f72,ins:={ sl:=[(0, .t (.ls (.i .u8)))] },out:=.new (.tp [.t (.st .GClaim), .t (.b)]),cuts:=[] }
noncomputable def f91:FI:={ fid:=91,fn:=Tryz.f91,c:=ah Tryz.f91,ins:={ sl:=[(0, .t (.st .GRequest))] },out:=.new (.t (.b)),cuts:=[] }
noncomputable def f150:FI:={ fid:=150,fn:=Tryz.f150,c:=ah Tryz.f150,ins:={ sl:=[(0, .t (.ls (.i .u8)))] },out:=.new (.tp [.t (.st .GRequest), .t (.b)]),cuts:=[] }
noncomputable def f178:FI:={ fid:=178,fn:=Tryz.f178,c:=ah Tryz.f178,ins:={ sl:=[(0, .t (.st .GRemittance))] },out:=.new (.t (.b)),cuts:=[] }
noncomputable def f151:FI:={ fid:=151,fn:=Tryz.f151,c:=ah Tryz.f151,ins:={ sl:=[(0, .t (.ls (.i .u8)))] },out:=.new (.tp [.t (.st .GRemittance), .t (.b)]),cuts:=[] }
noncomputable def f179:FI:={ fid:=179,fn:=Tryz.f179,c:=ah Tryz.f179,ins:={ sl:=[(0, .t (.st .GNotice))] },out:=.new (.t (.b)),cuts:=[] }
noncomputable def f152:FI:={ fid:=152,fn:=Tryz.f152,c:=ah Tryz.f152,ins:={ sl:=[(0, .t (.ls (.i .u8)))] },out:=.new (.tp [.t (.st .GNotice), .t (.b)]),cuts:=[] }
noncomputable def f123:FI:={ fid:=123,fn:=Tryz.f123,c:=ah Tryz.f123,ins:={ sl:=[(0, .t (.st .GDocument))] },out:=.new (.t (.b)),cuts:=[] }
noncomputable def f93:FI:={ fid:=93,fn:=Tryz.f93,c:=ah Tryz.f93,ins:={ sl:=[(0, .t (.st .GDocument))] },out:=.new (.t (.b)),cuts:=[] }
noncomputable def f56:FI:={ fid:=56,fn:=Tryz.f56,c:=ah Tryz.f56,ins:={ sl:=[(0, .t (.ls (.i .u8)))] },out:=.new (.tp [.t (.st .GDocument), .t (.i .i64)]),cuts:=[] }
noncomputable def f97:FI:={ fid:=97,fn:=Tryz.f97,c:=ah Tryz.f97,ins:={ sl:=[(0, .t (.ls (.i .u8))),(1, .t (.ls (.i .u8)))] },out:=.data (.t (.i .i64)),cuts:=[] }
noncomputable def f57:FI:={ fid:=57,fn:=Tryz.f57,c:=ah Tryz.f57,ins:={ sl:=[(0, .t (.ls (.i .u8))),(1, .t (.ls (.i .u8)))] },out:=.new (.t (.i .i64)),cuts:=[] }
noncomputable def f28:FI:={ fid:=28,fn:=Tryz.f28,c:=ah Tryz.f28,ins:={ sl:=[(0, .k (.ptr 0 1 0 0)),(1, .t (.ls (.i .u8))),(1000000, .k (.ptr 0 1 0 0))],ob:=[.box [.k (.fn 2000000000 [.ptr 1 1 0 0])], .map 98 (.st .GFeed_key) (.ls (.i .u8))] },out:=.gen ({ sl:=[(1000000, .k (.ptr 0 1 0 0)),(2000000, .tp [.t (.i .i64)])],ob:=[.box [.k (.fn 2000000000 [.ptr 1 1 0 0])], .map 98 (.st .GFeed_key) (.ls (.i .u8))] }),cuts:=[] }
noncomputable def f23:FI:={ fid:=23,fn:=Tryz.f23,c:=ah Tryz.f23,ins:={ sl:=[(0, .t (.ls (.i .u8)))] },out:=.new (.tp [.t (.st .GDocument), .t (.i .i64)]),cuts:=[] }
abbrev ID:Tm:={ sl:=[(0, .dp (.st .GPensionref31_Feeds)),(1, .t (.i .i64)),(2, .t (.i .i64)),(8, .t (.i .i64))],ob:=[] }
noncomputable def f46:FI:={ fid:=46,fn:=Tryz.f46,c:=ah Tryz.f46,ins:={ sl:=[(0, .dp (.st .GPensionref31_Feeds)),(1, .t (.i .i64)),(2, .t (.i .i64))] },out:=.new (.tp [.t (.i .i64), .t (.b)]),cuts:=[(26,ID)] }
abbrev EB:Tm:={ sl:=[(0, .k (.ptr 0 1 0 0)),(1, .t (.ls (.i .u8))),(5, .k (.ptr 1 5 0 0)),(7, .t (.i .i64)),(9, .t (.i .i64)),(1000000, .k (.ptr 0 1 0 0))],ob:=[.box [.t (.st .GPensionref31_Feeds)], .box [.t (.st .GDocument)]] }
noncomputable def f31:FI:={ fid:=31,fn:=Tryz.f31,c:=ah Tryz.f31,ins:={ sl:=[(0, .k (.ptr 0 1 0 0)),(1, .t (.ls (.i .u8))),(1000000, .k (.ptr 0 1 0 0))],ob:=[.box [.t (.st .GPensionref31_Feeds)]] },out:=.gen ({ sl:=[(1000000, .k (.ptr 0 1 0 0)),(2000000, .tp [.t (.i .i64)])],ob:=[.box [.t (.st .GPensionref31_Feeds)]] }),cuts:=[(255,EB)] }
abbrev JG:Tm:={ sl:=[(0, .k (.row 0 1)),(5, .k (.ptr 1 1 0 0)),(6, .k (.ptr 2 1 0 0)),(7, .t (.i .i64)),(1000000, .k (.row 0 1))],ob:=[.row 32 (.ls (.i .u8)), .box [.k (.fn 2000000000 [.ptr 3 1 0 0])], .box [.t (.st .GPensionref31_Feeds)], .map 98 (.st .GFeed_key) (.ls (.i .u8))] }
noncomputable def f13:FI:={ fid:=13,fn:=Tryz.f13,c:=ah Tryz.f13,ins:={ sl:=[(0, .k (.row 0 1)),(1000000, .k (.row 0 1))],ob:=[.row 32 (.ls (.i .u8))] },out:=.gen ({ sl:=[(1000000, .k (.row 0 1)),(2000000, .tp [.tp [.k (.ptr 1 1 0 0), .k (.ptr 2 1 0 0), .t (.b)]])],ob:=[.row 32 (.ls (.i .u8)), .box [.k (.fn 2000000000 [.ptr 3 1 0 0])], .box [.t (.st .GPensionref31_Feeds)], .map 98 (.st .GFeed_key) (.ls (.i .u8))] }),cuts:=[(58,JG)] }
noncomputable def f44:FI:={ fid:=44,fn:=Tryz.f44,c:=ah Tryz.f44,ins:={ sl:=[(0, .k (.ptr 0 1 0 0)),(1, .t (.i .i64)),(2, .t (.i .i64)),(1000000, .k (.ptr 0 1 0 0))],ob:=[.box [.k (.fn 2000000000 [.ptr 1 1 0 0])], .map 98 (.st .GFeed_key) (.ls (.i .u8))] },out:=.gen ({ sl:=[(1000000, .k (.ptr 0 1 0 0)),(2000000, .tp [.tp [.t (.ls (.i .u8)), .t (.b)]])],ob:=[.box [.k (.fn 2000000000 [.ptr 1 1 0 0])], .map 98 (.st .GFeed_key) (.ls (.i .u8))] }),cuts:=[] }
noncomputable def f17:FI:={ fid:=17,fn:=Tryz.f17,c:=ah Tryz.f17,ins:={ sl:=[(0, .k (.ptr 0 1 0 0)),(1, .t (.i .i64)),(2, .t (.i .i64)),(1000000, .k (.ptr 0 1 0 0))],ob:=[.box [.k (.fn 2000000000 [.ptr 1 1 0 0])], .map 98 (.st .GFeed_key) (.ls (.i .u8))] },out:=.gen ({ sl:=[(1000000, .k (.ptr 0 1 0 0)),(2000000, .tp [.tp [.t (.ls (.i .u8)), .t (.b)]])],ob:=[.box [.k (.fn 2000000000 [.ptr 1 1 0 0])], .map 98 (.st .GFeed_key) (.ls (.i .u8))] }),cuts:=[] }
noncomputable def f18:FI:={ fid:=18,fn:=Tryz.f18,c:=ah Tryz.f18,ins:={ sl:=[(0, .dp (.st .GPensionref31_Feeds)),(1, .t (.i .i64)),(2, .t (.i .i64))] },out:=.new (.tp [.t (.ls (.i .u8)), .t (.b)]),cuts:=[] }
abbrev QE:Tm:={ sl:=[(0, .k (.row 0 1)),(1, .t (.i .i64)),(2, .t (.i .i64))],ob:=[.row 5 (.i .u8)] }
noncomputable def f92:FI:={ fid:=92,fn:=Tryz.f92,c:=ah Tryz.f92,ins:={ sl:=[(0, .k (.c .nil)),(1, .t (.i .i64)),(2, .t (.i .i64))],ob:=[] },out:=.gen ({ sl:=[(2000000, .tp [.k (.row 0 1)])],ob:=[.row 5 (.i .u8)] }),cuts:=[(26,QE)] }
abbrev BA:Tm:={ sl:=[(0, .k (.row 0 1)),(1, .t (.i .i64)),(2, .t (.i .i64))],ob:=[.row 5 (.i .u8)] }
noncomputable def tX:FI:={ fid:=92,fn:=Tryz.f92,c:=ah Tryz.f92,ins:={ sl:=[(0, .k (.row 0 1)),(1, .t (.i .i64)),(2, .t (.i .i64))],ob:=[.row 5 (.i .u8)] },out:=.gen ({ sl:=[(2000000, .tp [.k (.row 0 1)])],ob:=[.row 5 (.i .u8)] }),cuts:=[(26,BA)] }
noncomputable def f47:FI:={ fid:=47,fn:=Tryz.f47,c:=ah Tryz.f47,ins:={ sl:=[(0, .t (.st .GRequest))] },out:=.new (.tp [.t (.ls (.i .u8)), .t (.b)]),cuts:=[] }
noncomputable def f48:FI:={ fid:=48,fn:=Tryz.f48,c:=ah Tryz.f48,ins:={ sl:=[(0, .t (.st .GDocument))] },out:=.new (.tp [.t (.ls (.i .u8)), .t (.i .i64)]),cuts:=[] }
noncomputable def f79:FI:={ fid:=79,fn:=Tryz.f79,c:=ah Tryz.f79,ins:={ sl:=[(0, .t (.ls (.i .u8)))] },out:=.new (.t (.i .u32)),cuts:=[] }
abbrev Iw:Tm:={ sl:=[(0, .k (.ptr 0 1 0 0)),(1, .t (.i .i64)),(5, .k (.row 1 5)),(6, .t (.i .u32)),(7, .t (.i .i64)),(1000000, .k (.ptr 0 1 0 0))],ob:=[.box [.k (.fn 2000000000 [.ptr 2 1 0 0])], .row 41 (.st .GDocument), .map 98 (.st .GFeed_key) (.ls (.i .u8))] }
noncomputable def f39:FI:={ fid:=39,fn:=Tryz.f39,c:=ah Tryz.f39,ins:={ sl:=[(0, .k (.ptr 0 1 0 0)),(1, .t (.i .i64)),(1000000, .k (.ptr 0 1 0 0))],ob:=[.box [.k (.fn 2000000000 [.ptr 1 1 0 0])], .map 98 (.st .GFeed_key) (.ls (.i .u8))] },out:=.gen ({ sl:=[(1000000, .k (.ptr 0 1 0 0)),(2000000, .tp [.k (.row 1 5)])],ob:=[.box [.k (.fn 2000000000 [.ptr 2 1 0 0])], .row 41 (.st .GDocument), .map 98 (.st .GFeed_key) (.ls (.i .u8))] }),cuts:=[(62,Iw)] }
noncomputable def f22:FI:={ fid:=22,fn:=Tryz.f22,c:=ah Tryz.f22,ins:={ sl:=[(0, .k (.ptr 0 1 0 0)),(1, .t (.i .i64)),(1000000, .k (.ptr 0 1 0 0))],ob:=[.box [.k (.fn 2000000000 [.ptr 1 1 0 0])], .map 98 (.st .GFeed_key) (.ls (.i .u8))] },out:=.gen ({ sl:=[(1000000, .k (.ptr 0 1 0 0)),(2000000, .tp [.t (.i .i64)])],ob:=[.box [.k (.fn 2000000000 [.ptr 1 1 0 0])], .map 98 (.st .GFeed_key) (.ls (.i .u8))] }),cuts:=[] }
abbrev HW:Tm:={ sl:=[(0, .k (.ptr 0 1 0 0)),(1, .t (.i .i64)),(5, .t (.i .i64)),(1000000, .k (.ptr 0 1 0 0))],ob:=[.box [.k (.fn 2000000000 [.ptr 1 1 0 0])], .map 98 (.st .GFeed_key) (.ls (.i .u8))] }
noncomputable def f49:FI:={ fid:=49,fn:=Tryz.f49,c:=ah Tryz.f49,ins:={ sl:=[(0, .k (.ptr 0 1 0 0)),(1, .t (.i .i64)),(1000000, .k (.ptr 0 1 0 0))],ob:=[.box [.k (.fn 2000000000 [.ptr 1 1 0 0])], .map 98 (.st .GFeed_key) (.ls (.i .u8))] },out:=.gen ({ sl:=[(1000000, .k (.ptr 0 1 0 0)),(2000000, .tp [.t (.i .i64)])],ob:=[.box [.k (.fn 2000000000 [.ptr 1 1 0 0])], .map 98 (.st .GFeed_key) (.ls (.i .u8))] }),cuts:=[(14,HW)] }
abbrev HL:Tm:={ sl:=[(0, .k (.ptr 0 1 0 0)),(1, .t (.i .i64)),(2, .t (.i .i64)),(7, .k (.row 1 1)),(8, .t (.i .i64)),(1000000, .k (.ptr 0 1 0 0))],ob:=[.box [.k (.fn 2000000000 [.ptr 2 1 0 0])], .row 5 (.i .u8), .map 98 (.st .GFeed_key) (.ls (.i .u8))] }
noncomputable def f52:FI:={ fid:=52,fn:=Tryz.f52,c:=ah Tryz.f52,ins:={ sl:=[(0, .k (.ptr 0 1 0 0)),(1, .t (.i .i64)),(2, .t (.i .i64)),(1000000, .k (.ptr 0 1 0 0))],ob:=[.box [.k (.fn 2000000000 [.ptr 1 1 0 0])], .map 98 (.st .GFeed_key) (.ls (.i .u8))] },out:=.gen ({ sl:=[(1000000, .k (.ptr 0 1 0 0)),(2000000, .tp [.t (.i .u32)])],ob:=[.box [.k (.fn 2000000000 [.ptr 1 1 0 0])], .map 98 (.st .GFeed_key) (.ls (.i .u8))] }),cuts:=[(58,HL)] }
abbrev JP:Tm:={ sl:=[(0, .k (.ptr 0 1 0 0)),(3, .k (.row 1 1)),(8, .t (.i .i64)),(1000000, .k (.ptr 0 1 0 0))],ob:=[.box [.k (.fn 2000000000 [.ptr 2 1 0 0])], .row 5 (.i .u8), .map 98 (.st .GFeed_key) (.ls (.i .u8))] }
noncomputable def f25:FI:={ fid:=25,fn:=Tryz.f25,c:=ah Tryz.f25,ins:={ sl:=[(0, .k (.ptr 0 1 0 0)),(1000000, .k (.ptr 0 1 0 0))],ob:=[.box [.k (.fn 2000000000 [.ptr 1 1 0 0])], .map 98 (.st .GFeed_key) (.ls (.i .u8))] },out:=.gen ({ sl:=[(1000000, .k (.ptr 0 1 0 0)),(2000000, .tp [.k (.row 1 1)])],ob:=[.box [.k (.fn 2000000000 [.ptr 2 1 0 0])], .row 5 (.i .u8), .map 98 (.st .GFeed_key) (.ls (.i .u8))] }),cuts:=[(58,JP)] }
noncomputable def f51:FI:={ fid:=51,fn:=Tryz.f51,c:=ah Tryz.f51,ins:={ sl:=[(0, .t (.ls (.i .u8))),(1, .t (.i .i64))] },out:=.new (.tp [.t (.i .i64), .t (.i .u32)]),cuts:=[] }
abbrev Ej:Tm:={ sl:=[(1, .t (.i .i64)),(5, .k (.row 0 1)),(13, .k (.ptr 1 1 0 0)),(1000000, .k (.ptr 2 1 0 0))],ob:=[.row 3 (.i .i64), .iter (.k (.fn 2000000000 [.ptr 3 1 0 0])), .box [.k (.fn 2000000000 [.ptr 3 1 0 0])], .map 98 (.st .GFeed_key) (.ls (.i .u8))] }
noncomputable def f53:FI:={ fid:=53,fn:=Tryz.f53,c:=ah Tryz.f53,ins:={ sl:=[(0, .k (.ptr 0 1 0 0)),(1, .t (.i .i64)),(1000000, .k (.ptr 0 1 0 0))],ob:=[.box [.k (.fn 2000000000 [.ptr 1 1 0 0])], .map 98 (.st .GFeed_key) (.ls (.i .u8))] },out:=.gen ({ sl:=[(1000000, .k (.ptr 0 1 0 0)),(2000000, .tp [.k (.row 1 1)])],ob:=[.box [.k (.fn 2000000000 [.ptr 2 1 0 0])], .row 3 (.i .i64), .map 98 (.st .GFeed_key) (.ls (.i .u8))] }),cuts:=[(234,Ej)] }
abbrev ER:Tm:={ sl:=[(0, .k (.ptr 0 1 0 0)),(1, .t (.ls (.i .u8))),(29, .t (.i .i64)),(1000000, .k (.ptr 0 1 0 0))],ob:=[.box [.k (.fn 2000000000 [.ptr 1 1 0 0])], .map 98 (.st .GFeed_key) (.ls (.i .u8))] }
abbrev Fj:Tm:={ sl:=[(0, .k (.ptr 0 1 0 0)),(1, .t (.ls (.i .u8))),(9, .k (.row 1 1)),(41, .t (.i .i64)),(1000000, .k (.ptr 0 1 0 0))],ob:=[.box [.k (.fn 2000000000 [.ptr 2 1 0 0])], .row 32 (.ls (.i .u8)), .map 98 (.st .GFeed_key) (.ls (.i .u8))] }
abbrev w4:Tm:={ sl:=[(0, .k (.ptr 0 1 0 0)),(1, .t (.ls (.i .u8))),(9, .k (.row 1 1)),(10, .t (.i .i64)),(11, .t (.i .i64)),(13, .t (.b)),(41, .t (.i .i64)),(65, .k (.row 2 1)),(66, .t (.i .i64)),(67, .t (.i .i64)),(1000000, .k (.ptr 0 1 0 0))],ob:=[.box [.k (.fn 2000000000 [.ptr 3 1 0 0])], .row 32 (.ls (.i .u8)), .row 3 (.i .i64), .map 98 (.st .GFeed_key) (.ls (.i .u8))] }
noncomputable def f24:FI:={ fid:=24,fn:=Tryz.f24,c:=ah Tryz.f24,ins:={ sl:=[(0, .k (.ptr 0 1 0 0)),(1, .t (.ls (.i .u8))),(1000000, .k (.ptr 0 1 0 0))],ob:=[.box [.k (.fn 2000000000 [.ptr 1 1 0 0])], .map 98 (.st .GFeed_key) (.ls (.i .u8))] },out:=.gen ({ sl:=[(1000000, .k (.ptr 0 1 0 0)),(2000000, .tp [.tp [.t (.ls (.ls (.i .u8))), .t (.i .i64)]])],ob:=[.box [.k (.fn 2000000000 [.ptr 1 1 0 0])], .map 98 (.st .GFeed_key) (.ls (.i .u8))] }),cuts:=[(122,ER),(506,Fj),(518558,w4)] }
noncomputable def f20:FI:={ fid:=20,fn:=Tryz.f20,c:=ah Tryz.f20,ins:={ sl:=[(0, .t (.ls (.i .u8))),(1, .t (.ls (.i .u8)))] },out:=.new (.t (.b)),cuts:=[] }
noncomputable def f19:FI:={ fid:=19,fn:=Tryz.f19,c:=ah Tryz.f19,ins:={ sl:=[] },out:=.new (.t (.b)),cuts:=[] }
noncomputable def f3:FI:={ fid:=3,fn:=Tryz.f3,c:=ah Tryz.f3,ins:={ sl:=[(0, .t (.ls (.st .GPensionlaw31_Raw))),(1, .t (.ls (.i .i64))),(2, .t (.i .i64)),(3, .t (.i .i64))] },out:=.new (.t (.b)),cuts:=[] }
abbrev yZ:Tm:={ sl:=[(1, .t (.ls (.i .i64))),(5, .k (.row 0 1)),(6, .k (.row 1 1)),(7, .t (.i .i64)),(1000000, .k (.row 2 1))],ob:=[.row 32 (.ls (.i .u8)), .row 32 (.ls (.i .u8)), .row 32 (.ls (.i .u8))] }
abbrev wC:Tm:={ sl:=[(1, .t (.ls (.i .i64))),(5, .k (.row 0 1)),(6, .k (.row 1 1)),(7, .t (.i .i64)),(8, .t (.i .i64)),(1000000, .k (.row 2 1))],ob:=[.row 32 (.ls (.i .u8)), .row 32 (.ls (.i .u8)), .row 32 (.ls (.i .u8))] }
abbrev uK:Tm:={ sl:=[(1, .t (.ls (.i .i64))),(5, .k (.row 0 1)),(6, .k (.row 1 1)),(7, .t (.i .i64)),(9, .t (.i .i64)),(1000000, .k (.row 2 1))],ob:=[.row 32 (.ls (.i .u8)), .row 32 (.ls (.i .u8)), .row 32 (.ls (.i .u8))] }
noncomputable def mI:FI:={ fid:=14,fn:=Tryz.f14,c:=ah Tryz.f14,ins:={ sl:=[(0, .k (.row 0 1)),(1, .t (.ls (.i .i64))),(1000000, .k (.row 0 1))],ob:=[.row 32 (.ls (.i .u8))] },out:=.gen ({ sl:=[(1000000, .k (.row 0 1)),(2000000, .tp [.k (.row 1 1)])],ob:=[.row 32 (.ls (.i .u8)), .row 32 (.ls (.i .u8))] }),cuts:=[(122,yZ),(7827,wC),(62623,uK)] }
abbrev QA:Tm:={ sl:=[(1, .t (.ls (.i .i64))),(2, .t (.i .i64)),(7, .k (.row 0 1)),(8, .k (.ptr 1 1 0 0)),(11, .t (.i .i64)),(12, .t (.i .i64))],ob:=[.row 32 (.ls (.i .u8)), .box [.k (.fn 2000000000 [.ptr 2 1 0 0])], .map 98 (.st .GFeed_key) (.ls (.i .u8))] }
abbrev OK:Tm:={ sl:=[(8, .k (.ptr 0 1 0 0)),(14, .k (.ptr 1 5 0 0)),(16, .k (.ptr 2 1 0 0)),(19, .t (.i .i64))],ob:=[.box [.k (.fn 2000000000 [.ptr 3 1 0 0])], .box [.t (.st .GDocument)], .box [.k (.fn 2000000000 [.ptr 4 1 0 0])], .map 98 (.st .GFeed_key) (.ls (.i .u8)), .map 98 (.st .GFeed_key) (.ls (.i .u8))] }
abbrev LD:Tm:={ sl:=[(8, .k (.ptr 0 1 0 0)),(14, .k (.ptr 1 5 0 0)),(16, .k (.ptr 2 1 0 0)),(19, .t (.i .i64)),(20, .t (.i .i64))],ob:=[.box [.k (.fn 2000000000 [.ptr 3 1 0 0])], .box [.t (.st .GDocument)], .box [.k (.fn 2000000000 [.ptr 4 1 0 0])], .map 98 (.st .GFeed_key) (.ls (.i .u8)), .map 98 (.st .GFeed_key) (.ls (.i .u8))] }
noncomputable def f4:FI:={ fid:=4,fn:=Tryz.f4,c:=ah Tryz.f4,ins:={ sl:=[(0, .t (.ls (.st .GPensionlaw31_Raw))),(1, .t (.ls (.i .i64))),(2, .t (.i .i64))] },out:=.new (.t (.b)),cuts:=[(506,QA),(65530,OK),(4193939,LD)] }
abbrev HO:Tm:={ sl:=[(0, .dp (.st .GPensionref31_Feeds)),(1, .t (.i .i64)),(5, .t (.i .i64))],ob:=[] }
noncomputable def f54:FI:={ fid:=54,fn:=Tryz.f54,c:=ah Tryz.f54,ins:={ sl:=[(0, .dp (.st .GPensionref31_Feeds)),(1, .t (.i .i64))] },out:=.new (.t (.i .i64)),cuts:=[(14,HO)] }
abbrev Q0:Tm:={ sl:=[(0, .dp (.st .GPensionref31_Feeds)),(1, .t (.i .i64)),(2, .t (.i .i64)),(7, .k (.row 0 1)),(8, .t (.i .i64))],ob:=[.row 5 (.i .u8)] }
noncomputable def f55:FI:={ fid:=55,fn:=Tryz.f55,c:=ah Tryz.f55,ins:={ sl:=[(0, .dp (.st .GPensionref31_Feeds)),(1, .t (.i .i64)),(2, .t (.i .i64))] },out:=.new (.t (.i .u32)),cuts:=[(58,Q0)] }
abbrev Q7:Tm:={ sl:=[(0, .k (.ptr 0 1 0 0)),(1, .t (.ls (.i .u8))),(6, .t (.i .i64)),(1000000, .k (.ptr 0 1 0 0))],ob:=[.box [.t (.st .GPensionref31_Feeds)]] }
abbrev Qs:Tm:={ sl:=[(0, .k (.ptr 0 1 0 0)),(1, .t (.ls (.i .u8))),(7, .k (.row 1 1)),(8, .t (.i .i64)),(1000000, .k (.ptr 0 1 0 0))],ob:=[.box [.t (.st .GPensionref31_Feeds)], .row 32 (.ls (.i .u8))] }
noncomputable def f26:FI:={ fid:=26,fn:=Tryz.f26,c:=ah Tryz.f26,ins:={ sl:=[(0, .k (.ptr 0 1 0 0)),(1, .t (.ls (.i .u8))),(1000000, .k (.ptr 0 1 0 0))],ob:=[.box [.t (.st .GPensionref31_Feeds)]] },out:=.gen ({ sl:=[(1000000, .k (.ptr 0 1 0 0)),(2000000, .tp [.tp [.t (.ls (.ls (.i .u8))), .t (.i .i64)]])],ob:=[.box [.t (.st .GPensionref31_Feeds)]] }),cuts:=[(58,Q7),(250,Qs)] }
abbrev Q4:Tm:={ sl:=[(0, .t (.ls (.ls (.i .u8)))),(1, .t (.ls (.ls (.i .u8)))),(5, .t (.i .i64))],ob:=[] }
noncomputable def f27:FI:={ fid:=27,fn:=Tryz.f27,c:=ah Tryz.f27,ins:={ sl:=[(0, .t (.ls (.ls (.i .u8)))),(1, .t (.ls (.ls (.i .u8))))] },out:=.new (.t (.b)),cuts:=[(58,Q4)] }
noncomputable def f5:FI:={ fid:=5,fn:=Tryz.f5,c:=ah Tryz.f5,ins:={ sl:=[(0, .t (.ls (.st .GPensionlaw31_Raw))),(1, .t (.ls (.st .GPensionlaw31_Raw))),(2, .t (.ls (.i .i64))),(3, .t (.ls (.i .u8)))] },out:=.new (.t (.b)),cuts:=[] }
abbrev Q3:Tm:={ sl:=[(5, .k (.ptr 0 1 0 0)),(8, .k (.ptr 1 1 0 0)),(11, .t (.i .i64))],ob:=[.box [.k (.fn 2000000000 [.ptr 2 1 0 0])], .box [.k (.fn 2000000000 [.ptr 3 1 0 0])], .map 98 (.st .GFeed_key) (.ls (.i .u8)), .map 98 (.st .GFeed_key) (.ls (.i .u8))] }
abbrev NM:Tm:={ sl:=[(5, .k (.ptr 0 1 0 0)),(8, .k (.ptr 1 1 0 0)),(11, .t (.i .i64)),(12, .t (.ls (.ls (.i .u8)))),(14, .t (.ls (.ls (.i .u8)))),(16, .t (.i .i64))],ob:=[.box [.k (.fn 2000000000 [.ptr 2 1 0 0])], .box [.k (.fn 2000000000 [.ptr 3 1 0 0])], .map 98 (.st .GFeed_key) (.ls (.i .u8)), .map 98 (.st .GFeed_key) (.ls (.i .u8))] }
abbrev Nc:Tm:={ sl:=[(5, .k (.ptr 0 1 0 0)),(8, .k (.ptr 1 1 0 0)),(11, .t (.i .i64)),(14, .t (.ls (.ls (.i .u8)))),(17, .t (.i .i64))],ob:=[.box [.k (.fn 2000000000 [.ptr 2 1 0 0])], .box [.k (.fn 2000000000 [.ptr 3 1 0 0])], .map 98 (.st .GFeed_key) (.ls (.i .u8)), .map 98 (.st .GFeed_key) (.ls (.i .u8))] }
noncomputable def f6:FI:={ fid:=6,fn:=Tryz.f6,c:=ah Tryz.f6,ins:={ sl:=[(0, .t (.ls (.st .GPensionlaw31_Raw))),(1, .t (.ls (.st .GPensionlaw31_Raw)))] },out:=.new (.t (.b)),cuts:=[(250,Q3),(256314,NM),(256318,Nc)] }
noncomputable def f59:FI:={ fid:=59,fn:=Tryz.f59,c:=ah Tryz.f59,ins:={ sl:=[(0, .t (.ls (.i .u8))),(1, .t (.ls (.i .u8)))] },out:=.new (.t (.b)),cuts:=[] }
abbrev HR:Tm:={ sl:=[(1, .k (.fn 2000000000 [.ptr 0 1 0 0])),(2, .fn 59 []),(17, .k (.ptr 1 1 0 0)),(1000000, .k (.fn 2000000000 [.ptr 2 1 0 0])),(1000001, .k (.fn 2000000000 [.ptr 0 1 0 0]))],ob:=[.map 98 (.st .GFeed_key) (.ls (.i .u8)), .iter (.k (.fn 2000000000 [.ptr 2 1 0 0])), .map 98 (.st .GFeed_key) (.ls (.i .u8))] }
noncomputable def f58:FI:={ fid:=58,fn:=Tryz.f58,c:=ah Tryz.f58,ins:={ sl:=[(0, .k (.fn 2000000000 [.ptr 0 1 0 0])),(1, .k (.fn 2000000000 [.ptr 1 1 0 0])),(2, .fn 59 []),(1000000, .k (.fn 2000000000 [.ptr 0 1 0 0])),(1000001, .k (.fn 2000000000 [.ptr 1 1 0 0]))],ob:=[.map 98 (.st .GFeed_key) (.ls (.i .u8)), .map 98 (.st .GFeed_key) (.ls (.i .u8))] },out:=.gen ({ sl:=[(1000000, .k (.fn 2000000000 [.ptr 0 1 0 0])),(1000001, .k (.fn 2000000000 [.ptr 1 1 0 0])),(2000000, .tp [.t (.b)])],ob:=[.map 98 (.st .GFeed_key) (.ls (.i .u8)), .map 98 (.st .GFeed_key) (.ls (.i .u8))] }),cuts:=[(58,HR)] }
abbrev Jy:Tm:={ sl:=[(1, .k (.ptr 0 1 0 0)),(5, .k (.fn 2000000000 [.ptr 1 1 0 0])),(1000000, .k (.ptr 2 1 0 0)),(1000001, .k (.ptr 0 1 0 0))],ob:=[.box [.k (.fn 2000000000 [.ptr 3 1 0 0])], .map 98 (.st .GFeed_key) (.ls (.i .u8)), .box [.k (.fn 2000000000 [.ptr 1 1 0 0])], .map 98 (.st .GFeed_key) (.ls (.i .u8))] }
noncomputable def f29:FI:={ fid:=29,fn:=Tryz.f29,c:=ah Tryz.f29,ins:={ sl:=[(0, .k (.ptr 0 1 0 0)),(1, .k (.ptr 1 1 0 0)),(1000000, .k (.ptr 0 1 0 0)),(1000001, .k (.ptr 1 1 0 0))],ob:=[.box [.k (.fn 2000000000 [.ptr 2 1 0 0])], .box [.k (.fn 2000000000 [.ptr 3 1 0 0])], .map 98 (.st .GFeed_key) (.ls (.i .u8)), .map 98 (.st .GFeed_key) (.ls (.i .u8))] },out:=.gen ({ sl:=[(1000000, .k (.ptr 0 1 0 0)),(1000001, .k (.ptr 1 1 0 0)),(2000000, .tp [.t (.b)])],ob:=[.box [.k (.fn 2000000000 [.ptr 2 1 0 0])], .box [.k (.fn 2000000000 [.ptr 3 1 0 0])], .map 98 (.st .GFeed_key) (.ls (.i .u8)), .map 98 (.st .GFeed_key) (.ls (.i .u8))] }),cuts:=[(15,Jy)] }
abbrev Qx:Tm:={ sl:=[(1, .t (.ls (.i .i64))),(2, .t (.ls (.i .i64))),(7, .k (.row 0 1)),(8, .k (.c .nil)),(9, .k (.c .nil)),(10, .k (.ptr 1 1 0 0)),(11, .k (.ptr 2 1 0 0)),(12, .t (.i .i64))],ob:=[.row 32 (.ls (.i .u8)), .row 53 (.i .i64), .row 53 (.i .i64)] }
abbrev Rg:Tm:={ sl:=[(7, .k (.row 0 1)),(8, .k (.row 1 1)),(9, .k (.row 2 1)),(10, .k (.ptr 3 1 0 0)),(11, .k (.ptr 4 1 0 0)),(13, .t (.i .i64))],ob:=[.row 32 (.ls (.i .u8)), .row 32 (.ls (.i .u8)), .row 32 (.ls (.i .u8)), .row 53 (.i .i64), .row 53 (.i .i64)] }
abbrev OX:Tm:={ sl:=[(1, .t (.ls (.i .i64))),(2, .t (.ls (.i .i64))),(7, .k (.row 0 1)),(8, .k (.c .nil)),(9, .k (.c .nil)),(10, .k (.ptr 1 1 0 0)),(11, .k (.ptr 2 1 0 0)),(12, .t (.i .i64))],ob:=[.row 32 (.ls (.i .u8)), .row 53 (.i .i64), .row 53 (.i .i64)] }
abbrev Oz:Tm:={ sl:=[(7, .k (.row 0 1)),(8, .k (.row 1 1)),(9, .k (.row 2 1)),(10, .k (.ptr 3 1 0 0)),(11, .k (.ptr 4 1 0 0)),(13, .t (.i .i64)),(14, .k (.ptr 5 5 0 0))],ob:=[.row 32 (.ls (.i .u8)), .row 32 (.ls (.i .u8)), .row 32 (.ls (.i .u8)), .row 53 (.i .i64), .row 53 (.i .i64), .box [.t (.st .GDocument)]] }
abbrev OT:Tm:={ sl:=[(16, .k (.ptr 0 1 0 0)),(19, .k (.ptr 1 1 0 0)),(22, .t (.ls (.ls (.i .u8)))),(24, .t (.ls (.ls (.i .u8)))),(26, .t (.i .i64))],ob:=[.box [.k (.fn 2000000000 [.ptr 2 1 0 0])], .box [.k (.fn 2000000000 [.ptr 3 1 0 0])], .map 98 (.st .GFeed_key) (.ls (.i .u8)), .map 98 (.st .GFeed_key) (.ls (.i .u8))] }
abbrev MY:Tm:={ sl:=[(16, .k (.ptr 0 1 0 0)),(19, .k (.ptr 1 1 0 0)),(24, .t (.ls (.ls (.i .u8)))),(27, .t (.i .i64))],ob:=[.box [.k (.fn 2000000000 [.ptr 2 1 0 0])], .box [.k (.fn 2000000000 [.ptr 3 1 0 0])], .map 98 (.st .GFeed_key) (.ls (.i .u8)), .map 98 (.st .GFeed_key) (.ls (.i .u8))] }
noncomputable def f7:FI:={ fid:=7,fn:=Tryz.f7,c:=ah Tryz.f7,ins:={ sl:=[(0, .t (.ls (.st .GPensionlaw31_Raw))),(1, .t (.ls (.i .i64))),(2, .t (.ls (.i .i64)))] },out:=.new (.t (.b)),cuts:=[(250,Qx),(506,Rg),(16019,OX),(64807,Oz),(65530,OT),(131066,MY)] }
abbrev E5:Tm:={ sl:=[(0, .k (.ptr 0 1 0 0)),(1, .t (.i .i64)),(5, .k (.row 1 5)),(6, .t (.i .u32)),(7, .t (.i .i64)),(8, .t (.i .i64)),(1000000, .k (.ptr 0 1 0 0))],ob:=[.box [.t (.st .GPensionref31_Feeds)], .row 41 (.st .GDocument)] }
noncomputable def f60:FI:={ fid:=60,fn:=Tryz.f60,c:=ah Tryz.f60,ins:={ sl:=[(0, .k (.ptr 0 1 0 0)),(1, .t (.i .i64)),(1000000, .k (.ptr 0 1 0 0))],ob:=[.box [.t (.st .GPensionref31_Feeds)]] },out:=.gen ({ sl:=[(1000000, .k (.ptr 0 1 0 0)),(2000000, .tp [.k (.row 1 5)])],ob:=[.box [.t (.st .GPensionref31_Feeds)], .row 41 (.st .GDocument)] }),cuts:=[(250,E5)] }
abbrev zF:Tm:={ sl:=[(0, .dp (.st .GPensionref31_Feeds)),(1, .t (.i .i64)),(5, .k (.row 0 5)),(6, .t (.i .u32)),(7, .t (.i .i64)),(8, .t (.i .i64))],ob:=[.row 41 (.st .GDocument)] }
noncomputable def um:FI:={ fid:=60,fn:=Tryz.f60,c:=ah Tryz.f60,ins:={ sl:=[(0, .dp (.st .GPensionref31_Feeds)),(1, .t (.i .i64))],ob:=[] },out:=.gen ({ sl:=[(2000000, .tp [.k (.row 0 5)])],ob:=[.row 41 (.st .GDocument)] }),cuts:=[(250,zF)] }
noncomputable def f61:FI:={ fid:=61,fn:=Tryz.f61,c:=ah Tryz.f61,ins:={ sl:=[(0, .dp (.st .GPensionref31_Feeds)),(1, .t (.i .i64))] },out:=.new (.t (.i .i64)),cuts:=[] }
noncomputable def f126:FI:={ fid:=126,fn:=Tryz.f126,c:=ah Tryz.f126,ins:={ sl:=[(0, .t (.st .GSpan))] },out:=.new (.t (.st .GSpan)),cuts:=[] }
abbrev QP:Tm:={ sl:=[(3, .k (.ptr 0 1 0 0)),(10, .t (.ls (.st .GSpan))),(11, .t (.i .i64)),(12, .t (.i .i64))],ob:=[.box [.k (.row 1 2)], .row 105 (.st .GSpan)] }
abbrev P6:Tm:={ sl:=[(6, .k (.row 0 2)),(32, .k (.row 1 2)),(33, .t (.i .i64)),(34, .t (.i .i64))],ob:=[.row 105 (.st .GSpan), .row 105 (.st .GSpan)] }
noncomputable def f98:FI:={ fid:=98,fn:=Tryz.f98,c:=ah Tryz.f98,ins:={ sl:=[(0, .t (.ls (.st .GSpan)))] },out:=.own true 105 (.st .GSpan),cuts:=[(58,QP),(506,P6)] }
abbrev Qy:Tm:={ sl:=[(5, .k (.row 0 2)),(10, .k (.row 1 1)),(11, .t (.i .i64)),(12, .t (.i .i64)),(1000000, .k (.ptr 2 1 0 0))],ob:=[.row 105 (.st .GSpan), .row 3 (.i .i64), .box [.k (.fn 2000000000 [.ptr 3 1 0 0])], .map 98 (.st .GFeed_key) (.ls (.i .u8))] }
noncomputable def f63:FI:={ fid:=63,fn:=Tryz.f63,c:=ah Tryz.f63,ins:={ sl:=[(0, .k (.ptr 0 1 0 0)),(1, .t (.i .i64)),(1000000, .k (.ptr 0 1 0 0))],ob:=[.box [.k (.fn 2000000000 [.ptr 1 1 0 0])], .map 98 (.st .GFeed_key) (.ls (.i .u8))] },out:=.gen ({ sl:=[(1000000, .k (.ptr 0 1 0 0)),(2000000, .tp [.k (.row 1 2)])],ob:=[.box [.k (.fn 2000000000 [.ptr 2 1 0 0])], .row 105 (.st .GSpan), .map 98 (.st .GFeed_key) (.ls (.i .u8))] }),cuts:=[(58,Qy)] }
abbrev Ri:Tm:={ sl:=[(0, .dp (.st .GPensionref31_Feeds)),(1, .t (.i .i64)),(5, .k (.row 0 2)),(6, .t (.i .i64))],ob:=[.row 105 (.st .GSpan)] }
noncomputable def f64:FI:={ fid:=64,fn:=Tryz.f64,c:=ah Tryz.f64,ins:={ sl:=[(0, .dp (.st .GPensionref31_Feeds)),(1, .t (.i .i64))] },out:=.own true 105 (.st .GSpan),cuts:=[(58,Ri)] }
abbrev QF:Tm:={ sl:=[(0, .t (.ls (.st .GSpan))),(1, .t (.ls (.st .GSpan))),(5, .t (.i .i64))],ob:=[] }
noncomputable def f62:FI:={ fid:=62,fn:=Tryz.f62,c:=ah Tryz.f62,ins:={ sl:=[(0, .t (.ls (.st .GSpan))),(1, .t (.ls (.st .GSpan)))] },out:=.new (.t (.b)),cuts:=[(58,QF)] }
abbrev Qz:Tm:={ sl:=[(0, .dp (.st .GPensionref31_Feeds)),(3, .k (.row 0 1)),(4, .t (.i .i64))],ob:=[.row 5 (.i .u8)] }
noncomputable def f66:FI:={ fid:=66,fn:=Tryz.f66,c:=ah Tryz.f66,ins:={ sl:=[(0, .dp (.st .GPensionref31_Feeds))] },out:=.own true 5 (.i .u8),cuts:=[(58,Qz)] }
noncomputable def f65:FI:={ fid:=65,fn:=Tryz.f65,c:=ah Tryz.f65,ins:={ sl:=[(0, .t (.st .GDocument)),(1, .t (.st .GDocument))] },out:=.new (.t (.b)),cuts:=[] }
abbrev Qu:Tm:={ sl:=[(0, .k (.ptr 0 1 0 0)),(1, .k (.ptr 1 1 0 0)),(5, .t (.i .i64)),(1000000, .k (.ptr 0 1 0 0)),(1000001, .k (.ptr 1 1 0 0))],ob:=[.box [.k (.fn 2000000000 [.ptr 2 1 0 0])], .box [.t (.st .GPensionref31_Feeds)], .map 98 (.st .GFeed_key) (.ls (.i .u8))] }
abbrev OE:Tm:={ sl:=[(0, .k (.ptr 0 1 0 0)),(1, .k (.ptr 1 1 0 0)),(5, .t (.i .i64)),(6, .k (.row 2 5)),(7, .k (.row 3 5)),(8, .t (.i .i64)),(27, .k (.ptr 0 1 0 0)),(28, .t (.i .i64)),(29, .t (.i .i64)),(30, .k (.ptr 1 1 0 0)),(31, .t (.i .i64)),(32, .t (.i .i64)),(33, .t (.b)),(36, .k (.ptr 0 1 0 0)),(37, .t (.i .i64)),(38, .k (.row 4 2)),(39, .k (.ptr 1 1 0 0)),(40, .t (.i .i64)),(41, .k (.row 5 2)),(42, .t (.b)),(43, .t (.b)),(46, .k (.row 2 5)),(47, .t (.i .i64)),(48, .k (.row 3 5)),(49, .t (.i .i64)),(50, .t (.b)),(1000000, .k (.ptr 0 1 0 0)),(1000001, .k (.ptr 1 1 0 0))],ob:=[.box [.k (.fn 2000000000 [.ptr 6 1 0 0])], .box [.t (.st .GPensionref31_Feeds)], .row 41 (.st .GDocument), .row 41 (.st .GDocument), .row 105 (.st .GSpan), .row 105 (.st .GSpan), .map 98 (.st .GFeed_key) (.ls (.i .u8))] }
noncomputable def f30:FI:={ fid:=30,fn:=Tryz.f30,c:=ah Tryz.f30,ins:={ sl:=[(0, .k (.ptr 0 1 0 0)),(1, .k (.ptr 1 1 0 0)),(1000000, .k (.ptr 0 1 0 0)),(1000001, .k (.ptr 1 1 0 0))],ob:=[.box [.k (.fn 2000000000 [.ptr 2 1 0 0])], .box [.t (.st .GPensionref31_Feeds)], .map 98 (.st .GFeed_key) (.ls (.i .u8))] },out:=.gen ({ sl:=[(1000000, .k (.ptr 0 1 0 0)),(1000001, .k (.ptr 1 1 0 0)),(2000000, .tp [.t (.b)])],ob:=[.box [.k (.fn 2000000000 [.ptr 2 1 0 0])], .box [.t (.st .GPensionref31_Feeds)], .map 98 (.st .GFeed_key) (.ls (.i .u8))] }),cuts:=[(26,Qu),(6734,OE)] }
noncomputable def f8:FI:={ fid:=8,fn:=Tryz.f8,c:=ah Tryz.f8,ins:={ sl:=[(0, .t (.ls (.st .GPensionlaw31_Raw))),(1, .t (.ls (.i .i64)))] },out:=.new (.t (.b)),cuts:=[] }
noncomputable def f9:FI:={ fid:=9,fn:=Tryz.f9,c:=ah Tryz.f9,ins:={ sl:=[(0, .t (.ls (.st .GPensionlaw31_Raw))),(1, .t (.ls (.i .u8))),(2, .t (.i .i64)),(3, .t (.i .i64))] },out:=.new (.t (.b)),cuts:=[] }
noncomputable def f145:FI:={ fid:=145,fn:=Tryz.f145,c:=ah Tryz.f145,ins:={ sl:=[(0, .t (.i .i64))] },out:=.new (.t (.b)),cuts:=[] }
noncomputable def f112:FI:={ fid:=112,fn:=Tryz.f112,c:=ah Tryz.f112,ins:={ sl:=[(0, .t (.i .i64)),(1, .t (.i .i64))] },out:=.new (.t (.i .i64)),cuts:=[] }
abbrev ES:Tm:={ sl:=[(3, .t (.i .i64)),(6, .t (.ls (.i .i64))),(7, .t (.i .i64)),(8, .t (.i .i64))],ob:=[] }
noncomputable def f111:FI:={ fid:=111,fn:=Tryz.f111,c:=ah Tryz.f111,ins:={ sl:=[(0, .t (.ls (.i .i64)))] },out:=.new (.t (.i .i64)),cuts:=[(58,ES)] }
noncomputable def f102:FI:={ fid:=102,fn:=Tryz.f102,c:=ah Tryz.f102,ins:={ sl:=[(0, .t (.st .GFact)),(1, .t (.st .GFact))] },out:=.new (.t (.i .i64)),cuts:=[] }
abbrev Ql:Tm:={ sl:=[(0, .k (.row 0 1)),(1, .t (.i .i64)),(10, .t (.ls (.i .i64))),(11, .t (.i .i64)),(12, .t (.i .i64))],ob:=[.row 5 (.i .u8)] }
abbrev Nn:Tm:={ sl:=[(0, .k (.row 0 1)),(1, .t (.i .i64)),(8, .t (.i .i64)),(9, .t (.i .i64)),(10, .t (.ls (.i .i64))),(11, .t (.i .i64)),(12, .t (.i .i64))],ob:=[.row 5 (.i .u8)] }
noncomputable def f201:FI:={ fid:=201,fn:=Tryz.f201,c:=ah Tryz.f201,ins:={ sl:=[(0, .k (.c .nil)),(1, .t (.i .i64)),(2, .t (.ls (.i .i64)))],ob:=[] },out:=.gen ({ sl:=[(2000000, .tp [.k (.row 0 1)])],ob:=[.row 5 (.i .u8)] }),cuts:=[(26,Ql),(6758,Nn)] }
abbrev zK:Tm:={ sl:=[(0, .k (.row 0 1)),(1, .t (.i .i64)),(10, .t (.ls (.i .i64))),(11, .t (.i .i64)),(12, .t (.i .i64))],ob:=[.row 5 (.i .u8)] }
abbrev u4:Tm:={ sl:=[(0, .k (.row 0 1)),(1, .t (.i .i64)),(8, .t (.i .i64)),(9, .t (.i .i64)),(10, .t (.ls (.i .i64))),(11, .t (.i .i64)),(12, .t (.i .i64))],ob:=[.row 5 (.i .u8)] }
noncomputable def mv:FI:={ fid:=201,fn:=Tryz.f201,c:=ah Tryz.f201,ins:={ sl:=[(0, .k (.row 0 1)),(1, .t (.i .i64)),(2, .t (.ls (.i .i64)))],ob:=[.row 5 (.i .u8)] },out:=.gen ({ sl:=[(2000000, .tp [.k (.row 0 1)])],ob:=[.row 5 (.i .u8)] }),cuts:=[(26,zK),(6758,u4)] }
abbrev Fm:Tm:={ sl:=[(1, .k (.ptr 0 14 0 0)),(3, .t (.i .i64))],ob:=[.box [.t (.st .GFact)]] }
abbrev yD:Tm:={ sl:=[(1, .k (.ptr 0 14 0 0)),(4, .k (.row 1 1)),(34, .k (.ptr 2 1 0 0))],ob:=[.box [.t (.st .GFact)], .row 5 (.i .u8), .str] }
noncomputable def f171:FI:={ fid:=171,fn:=Tryz.f171,c:=ah Tryz.f171,ins:={ sl:=[(0, .t (.st .GFact))] },out:=.own true 5 (.i .u8),cuts:=[(31,Fm),(2042,yD)] }
noncomputable def f132:FI:={ fid:=132,fn:=Tryz.f132,c:=ah Tryz.f132,ins:={ sl:=[(0, .t (.st .GFact)),(1, .t (.st .GFact))] },out:=.new (.t (.b)),cuts:=[] }
noncomputable def f103:FI:={ fid:=103,fn:=Tryz.f103,c:=ah Tryz.f103,ins:={ sl:=[(0, .t (.st .GFact)),(1, .t (.st .GFact))] },out:=.new (.t (.st .GFact)),cuts:=[] }
abbrev EJ:Tm:={ sl:=[(0, .t (.ls (.st .GFact))),(1, .t (.ls (.st .GFact))),(2, .fn 102 []),(3, .fn 103 []),(9, .k (.row 0 14))],ob:=[.row 110 (.st .GFact)] }
noncomputable def f100:FI:={ fid:=100,fn:=Tryz.f100,c:=ah Tryz.f100,ins:={ sl:=[(0, .t (.ls (.st .GFact))),(1, .t (.ls (.st .GFact))),(2, .fn 102 []),(3, .fn 103 [])] },out:=.own true 110 (.st .GFact),cuts:=[(28,EJ)] }
abbrev E4:Tm:={ sl:=[(3, .k (.row 0 14)),(6, .t (.ls (.st .GFact))),(7, .t (.i .i64)),(8, .t (.i .i64))],ob:=[.row 110 (.st .GFact)] }
noncomputable def f101:FI:={ fid:=101,fn:=Tryz.f101,c:=ah Tryz.f101,ins:={ sl:=[(0, .t (.ls (.st .GFact)))] },out:=.own true 110 (.st .GFact),cuts:=[(58,E4)] }
noncomputable def f68:FI:={ fid:=68,fn:=Tryz.f68,c:=ah Tryz.f68,ins:={ sl:=[(0, .t (.ls (.st .GFact))),(1, .t (.ls (.st .GFact)))] },out:=.own true 110 (.st .GFact),cuts:=[] }
abbrev Jq:Tm:={ sl:=[(0, .k (.ptr 0 1 0 0)),(3, .k (.row 1 14)),(9, .t (.i .i64)),(1000000, .k (.ptr 0 1 0 0))],ob:=[.box [.k (.fn 2000000000 [.ptr 2 1 0 0])], .row 110 (.st .GFact), .map 98 (.st .GFeed_key) (.ls (.i .u8))] }
abbrev zJ:Tm:={ sl:=[(0, .k (.ptr 0 1 0 0)),(3, .k (.row 1 14)),(9, .t (.i .i64)),(14, .k (.row 2 5)),(15, .t (.i .i64)),(16, .t (.i .i64)),(1000000, .k (.ptr 0 1 0 0))],ob:=[.box [.k (.fn 2000000000 [.ptr 3 1 0 0])], .row 110 (.st .GFact), .row 41 (.st .GDocument), .map 98 (.st .GFeed_key) (.ls (.i .u8))] }
noncomputable def f33:FI:={ fid:=33,fn:=Tryz.f33,c:=ah Tryz.f33,ins:={ sl:=[(0, .k (.ptr 0 1 0 0)),(1000000, .k (.ptr 0 1 0 0))],ob:=[.box [.k (.fn 2000000000 [.ptr 1 1 0 0])], .map 98 (.st .GFeed_key) (.ls (.i .u8))] },out:=.gen ({ sl:=[(1000000, .k (.ptr 0 1 0 0)),(2000000, .tp [.k (.row 1 14)])],ob:=[.box [.k (.fn 2000000000 [.ptr 2 1 0 0])], .row 110 (.st .GFact), .map 98 (.st .GFeed_key) (.ls (.i .u8))] }),cuts:=[(58,Jq),(14950,zJ)] }
abbrev Ja:Tm:={ sl:=[(0, .dp (.st .GPensionref31_Feeds)),(3, .k (.row 0 5)),(4, .t (.i .i64))],ob:=[.row 41 (.st .GDocument)] }
noncomputable def f69:FI:={ fid:=69,fn:=Tryz.f69,c:=ah Tryz.f69,ins:={ sl:=[(0, .dp (.st .GPensionref31_Feeds))],ob:=[] },out:=.gen ({ sl:=[(2000000, .tp [.k (.row 0 5)])],ob:=[.row 41 (.st .GDocument)] }),cuts:=[(58,Ja)] }
noncomputable def f106:FI:={ fid:=106,fn:=Tryz.f106,c:=ah Tryz.f106,ins:={ sl:=[(0, .t (.st .GFact)),(1, .t (.st .GFact))] },out:=.new (.t (.i .i64)),cuts:=[] }
noncomputable def f107:FI:={ fid:=107,fn:=Tryz.f107,c:=ah Tryz.f107,ins:={ sl:=[(0, .t (.st .GFact)),(1, .t (.st .GFact))] },out:=.new (.t (.b)),cuts:=[] }
abbrev Jp:Tm:={ sl:=[(0, .t (.ls (.st .GFact))),(1, .t (.ls (.st .GFact))),(5, .k (.row 0 14)),(6, .t (.i .i64))],ob:=[.row 110 (.st .GFact)] }
abbrev BE:Tm:={ sl:=[(0, .t (.ls (.st .GFact))),(1, .t (.ls (.st .GFact))),(5, .k (.row 0 14)),(6, .t (.i .i64)),(7, .k (.ptr 1 14 0 0))],ob:=[.row 110 (.st .GFact), .box [.t (.st .GFact)]] }
abbrev zM:Tm:={ sl:=[(0, .t (.ls (.st .GFact))),(1, .t (.ls (.st .GFact))),(5, .k (.row 0 14)),(6, .t (.i .i64)),(7, .k (.ptr 1 14 0 0)),(8, .t (.i .i64))],ob:=[.row 110 (.st .GFact), .box [.t (.st .GFact)]] }
noncomputable def f71:FI:={ fid:=71,fn:=Tryz.f71,c:=ah Tryz.f71,ins:={ sl:=[(0, .t (.ls (.st .GFact))),(1, .t (.ls (.st .GFact)))] },out:=.own true 110 (.st .GFact),cuts:=[(58,Jp),(3731,BE),(59708,zM)] }
abbrev Et:Tm:={ sl:=[(3, .k (.row 0 5)),(4, .k (.row 1 14)),(5, .t (.i .i64))],ob:=[.row 41 (.st .GDocument), .row 110 (.st .GFact)] }
noncomputable def f34:FI:={ fid:=34,fn:=Tryz.f34,c:=ah Tryz.f34,ins:={ sl:=[(0, .dp (.st .GPensionref31_Feeds))] },out:=.own true 110 (.st .GFact),cuts:=[(122,Et)] }
abbrev Jw:Tm:={ sl:=[(0, .t (.ls (.st .GFact))),(1, .t (.ls (.st .GFact))),(5, .t (.i .i64))],ob:=[] }
noncomputable def f32:FI:={ fid:=32,fn:=Tryz.f32,c:=ah Tryz.f32,ins:={ sl:=[(0, .t (.ls (.st .GFact))),(1, .t (.ls (.st .GFact)))] },out:=.new (.t (.b)),cuts:=[(58,Jw)] }
abbrev Br:Tm:={ sl:=[(0, .k (.row 0 6)),(3, .t (.i .i64))],ob:=[.row 64 (.st .GClaim)] }
abbrev uH:Tm:={ sl:=[(0, .k (.row 0 6)),(3, .t (.i .i64)),(4, .sb 0 6),(5, .t (.i .i64))],ob:=[.row 64 (.st .GClaim)] }
noncomputable def pE:FI:={ fid:=75,fn:=Tryz.f75,c:=ah Tryz.f75,ins:={ sl:=[(0, .k (.row 0 6))],ob:=[.row 64 (.st .GClaim)] },out:=.gen ({ sl:=[(2000000, .tp [.t (.ls (.st .GClaim))])],ob:=[] }),cuts:=[(58,Br),(59690,uH)] }
abbrev Id:Tm:={ sl:=[(0, .k (.ptr 0 1 0 0)),(3, .k (.row 1 6)),(9, .t (.i .i64)),(1000000, .k (.ptr 0 1 0 0))],ob:=[.box [.k (.fn 2000000000 [.ptr 2 1 0 0])], .row 64 (.st .GClaim), .map 98 (.st .GFeed_key) (.ls (.i .u8))] }
abbrev za:Tm:={ sl:=[(0, .k (.ptr 0 1 0 0)),(3, .k (.row 1 6)),(9, .t (.i .i64)),(14, .k (.row 2 5)),(15, .t (.i .i64)),(16, .t (.i .i64)),(1000000, .k (.ptr 0 1 0 0))],ob:=[.box [.k (.fn 2000000000 [.ptr 3 1 0 0])], .row 64 (.st .GClaim), .row 41 (.st .GDocument), .map 98 (.st .GFeed_key) (.ls (.i .u8))] }
noncomputable def f36:FI:={ fid:=36,fn:=Tryz.f36,c:=ah Tryz.f36,ins:={ sl:=[(0, .k (.ptr 0 1 0 0)),(1000000, .k (.ptr 0 1 0 0))],ob:=[.box [.k (.fn 2000000000 [.ptr 1 1 0 0])], .map 98 (.st .GFeed_key) (.ls (.i .u8))] },out:=.gen ({ sl:=[(1000000, .k (.ptr 0 1 0 0)),(2000000, .tp [.t (.ls (.st .GClaim))])],ob:=[.box [.k (.fn 2000000000 [.ptr 1 1 0 0])], .map 98 (.st .GFeed_key) (.ls (.i .u8))] }),cuts:=[(58,Id),(14950,za)] }
abbrev Bw:Tm:={ sl:=[(0, .k (.ptr 0 1 0 0)),(3, .k (.row 1 5)),(4, .t (.i .i64)),(1000000, .k (.ptr 0 1 0 0))],ob:=[.box [.t (.st .GPensionref31_Feeds)], .row 41 (.st .GDocument)] }
noncomputable def ue:FI:={ fid:=69,fn:=Tryz.f69,c:=ah Tryz.f69,ins:={ sl:=[(0, .k (.ptr 0 1 0 0)),(1000000, .k (.ptr 0 1 0 0))],ob:=[.box [.t (.st .GPensionref31_Feeds)]] },out:=.gen ({ sl:=[(1000000, .k (.ptr 0 1 0 0)),(2000000, .tp [.k (.row 1 5)])],ob:=[.box [.t (.st .GPensionref31_Feeds)], .row 41 (.st .GDocument)] }),cuts:=[(58,Bw)] }
abbrev BQ:Tm:={ sl:=[(5, .k (.ptr 0 1 0 0)),(6, .k (.ptr 1 1 0 0)),(7, .t (.i .i64))],ob:=[.row 53 (.i .i64), .row 53 (.i .i64)] }
noncomputable def f113:FI:={ fid:=113,fn:=Tryz.f113,c:=ah Tryz.f113,ins:={ sl:=[(0, .t (.st .GClaim)),(1, .t (.st .GClaim))] },out:=.new (.t (.b)),cuts:=[(122,BQ)] }
abbrev Ix:Tm:={ sl:=[(0, .t (.ls (.st .GClaim))),(3, .k (.ptr 0 6 0 0)),(5, .t (.i .i64))],ob:=[.box [.t (.st .GClaim)]] }
noncomputable def f77:FI:={ fid:=77,fn:=Tryz.f77,c:=ah Tryz.f77,ins:={ sl:=[(0, .t (.ls (.st .GClaim))),(1, .t (.st .GClaim))] },out:=.data (.t (.ls (.st .GClaim))),cuts:=[(28,Ix)] }
abbrev EN:Tm:={ sl:=[(3, .k (.row 0 5)),(4, .t (.ls (.st .GClaim))),(5, .t (.i .i64)),(1000000, .k (.ptr 1 1 0 0))],ob:=[.row 41 (.st .GDocument), .box [.t (.st .GPensionref31_Feeds)]] }
noncomputable def f37:FI:={ fid:=37,fn:=Tryz.f37,c:=ah Tryz.f37,ins:={ sl:=[(0, .k (.ptr 0 1 0 0)),(1000000, .k (.ptr 0 1 0 0))],ob:=[.box [.t (.st .GPensionref31_Feeds)]] },out:=.gen ({ sl:=[(1000000, .k (.ptr 0 1 0 0)),(2000000, .tp [.t (.ls (.st .GClaim))])],ob:=[.box [.t (.st .GPensionref31_Feeds)]] }),cuts:=[(122,EN)] }
abbrev IQ:Tm:={ sl:=[(0, .t (.ls (.st .GClaim))),(1, .t (.ls (.st .GClaim))),(5, .t (.i .i64))],ob:=[] }
noncomputable def f35:FI:={ fid:=35,fn:=Tryz.f35,c:=ah Tryz.f35,ins:={ sl:=[(0, .t (.ls (.st .GClaim))),(1, .t (.ls (.st .GClaim)))] },out:=.new (.t (.b)),cuts:=[(58,IQ)] }
noncomputable def f10:FI:={ fid:=10,fn:=Tryz.f10,c:=ah Tryz.f10,ins:={ sl:=[(0, .t (.ls (.st .GPensionlaw31_Raw))),(1, .t (.ls (.i .i64)))] },out:=.new (.t (.b)),cuts:=[] }
noncomputable def f12:FI:={ fid:=12,fn:=Tryz.f12,c:=ah Tryz.f12,ins:={ sl:=[(0, .t (.ls (.st .GPensionlaw31_Raw))),(1, .t (.ls (.i .i64))),(2, .t (.ls (.i .i64)))] },out:=.new (.t (.b)),cuts:=[] }
noncomputable def QJ:XT→HP f45.ins.tys→Option (HP f45.out.tys):=fun _ (a:List Int)=>zC a
noncomputable def OU:XT→HP f215.ins.tys→Option (HP f215.out.tys):=fun _ (a:ByteArray × Int)=>some (Go.firstIdx a.1 a.2.toNat.toUInt8)
noncomputable def Rc:XT→HP f97.ins.tys→Option (HP f97.out.tys):=fun _ (a:List Int × List Int)=>some (dm a.1 a.2)
noncomputable def Tb:jT:={ P:=Tryz.prog,fs:=[(16,[f16]),(50,[f50]),(41,[f41]),(115,[f115]),(116,[f116]),(80,[f80]),(172,[f172]),(134,[f134]),(105,[f105]),(146,[qc,f146]),(117,[f117]),(81,[f81]),(118,[f118]),(119,[f119]),(89,[f89]),(88,[f88]),(82,[f82]),(84,[f84]),(120,[f120]),(83,[f83]),(85,[f85]),(86,[f86]),(42,[f42]),(133,[f133]),(104,[f104]),(70,[f70]),(76,[f76]),(147,[f147]),(148,[f148]),(149,[f149]),(121,[f121]),(87,[f87]),(90,[f90]),(43,[f43]),(21,[f21]),(15,[f15]),(14,[mI,f14]),(40,[f40]),(96,[f96]),(124,[f124]),(94,[f94]),(122,[f122]),(129,[f129]),(130,[f130]),(168,[f168]),(211,[f211]),(209,[f209]),(200,[f200]),(167,[f167]),(166,[f166]),(169,[f169]),(170,[f170]),(131,[f131]),(99,[f99]),(67,[f67]),(108,[f108]),(72,[f72]),(91,[f91]),(150,[f150]),(178,[f178]),(151,[f151]),(179,[f179]),(152,[f152]),(123,[f123]),(93,[f93]),(56,[f56]),(57,[f57]),(28,[f28]),(23,[f23]),(46,[f46]),(31,[f31]),(13,[f13]),(44,[f44]),(17,[f17]),(18,[f18]),(92,[tX,f92]),(47,[f47]),(48,[f48]),(79,[f79]),(39,[f39]),(22,[f22]),(49,[f49]),(52,[f52]),(25,[f25]),(51,[f51]),(53,[f53]),(24,[f24]),(20,[f20]),(19,[f19]),(3,[f3]),(4,[f4]),(54,[f54]),(55,[f55]),(26,[f26]),(27,[f27]),(5,[f5]),(6,[f6]),(59,[f59]),(58,[f58]),(29,[f29]),(7,[f7]),(60,[f60,um]),(61,[f61]),(126,[f126]),(98,[f98]),(63,[f63]),(64,[f64]),(62,[f62]),(66,[f66]),(65,[f65]),(30,[f30]),(8,[f8]),(9,[f9]),(145,[f145]),(112,[f112]),(111,[f111]),(102,[f102]),(201,[mv,f201]),(171,[f171]),(132,[f132]),(103,[f103]),(100,[f100]),(101,[f101]),(68,[f68]),(33,[f33]),(69,[ue,f69]),(106,[f106]),(107,[f107]),(71,[f71]),(34,[f34]),(32,[f32]),(75,[pE]),(36,[f36]),(113,[f113]),(77,[f77]),(37,[f37]),(35,[f35]),(10,[f10]),(12,[f12])],sp:=(fun f=>(bif Nat.beq f 97 then .hand f97 Rc else (bif Nat.beq f 215 then .hand f215 OU else (bif Nat.beq f 45 then .hand f45 QJ else (bif Nat.beq f 127 then .mut (fun _=>qZ 106 128 105 (.st .GSpan) IF) else (bif Nat.beq f 95 then .mut (fun _=>G6) else (bif Nat.beq f 73 then .mut (fun _=>Am 74 64 (.st .GClaim) qf) else .none))))))) }
theorem al:iK Tb:=⟨fun f=>(.cnd (.h _) (.cnd (.h _) (.cnd (.h _) (.cnd (.m _) (.cnd (.m _) (.cnd (.m _) trivial))))))⟩
noncomputable def fN (b:List Int):Option (List Int):=QJ (Xc Tb) b
noncomputable def tl (t0:ByteArray) (t1:Int):Option Int:=OU (Xc Tb) (t0,t1)
noncomputable def DE (t0:List Int) (t1:List Int):Option Int:=Rc (Xc Tb) (t0,t1)
noncomputable def ax (n:Int) (m:Int):Option Int:=Xf Tb f16 1 f16.ins (n,m)
noncomputable def cb (b:List Int):Option Int:=Xf Tb f50 1 f50.ins b
noncomputable def gK (b:List Int) (v:Int) (i:Int):Option Int:=Xf Tb f50 58 JU (b,v,i)
noncomputable def iv (b:List Int):Option Int:=Xf Tb f41 1 f41.ins b
noncomputable def u5 (n:Int):Option Int:=Xf Tb f115 1 f115.ins n
noncomputable def jN (kind:Int):Option ByteArray:=Xf Tb f116 1 f116.ins kind
noncomputable def zA (r:GPensionhand_Fact):Option GFact:=Xf Tb f80 1 f80.ins r
noncomputable def fU (xfrom:Int) (to:Int) (r:GPensionhand_Fact) (t2:GFact) (f:GFact):Option GFact:=Xf Tb f80 127 EE (xfrom,to,r,t2,f)
noncomputable def kg (xfrom:Int) (to:Int) (u:ByteArray) (i:Int) (r:GPensionhand_Fact) (t2:GFact) (f:GFact):Option GFact:=Xf Tb f80 2042 BP (xfrom,to,u,i,r,t2,f)
noncomputable def bP (xfrom:Int) (to:Int) (u:ByteArray) (i:Int) (r:GPensionhand_Fact) (t2:GFact) (f:GFact):Option GFact:=Xf Tb f80 16339 yP (xfrom,to,u,i,r,t2,f)
noncomputable def wP (kind:Int) (c:Int):Option Bool:=Xf Tb f172 1 f172.ins (kind,c)
noncomputable def ep (c:Int) (s:ByteArray) (i:Int):Option Bool:=Xf Tb f172 58 Ez (c,s,i)
noncomputable def bZ (kind:Int) (c:Int) (n:Int) (least:Int) (most:Int):Option Bool:=Xf Tb f134 1 f134.ins (kind,c,n,least,most)
noncomputable def iF (f:GFact):Option Bool:=Xf Tb f105 1 f105.ins f
noncomputable def aP (n:Int) (size:Int) (b:List Int):Option (List Int):=Xf Tb qc 1 qc.ins (n,size,b)
noncomputable def en (n:Int) (i:Int) (b:List Int):Option (List Int):=Xf Tb qc 26 ze (n,i,b)
noncomputable def jZ (f:GFact):Option (List Int):=Xf Tb f117 1 f117.ins f
noncomputable def ko (gone:Int) (f:GFact):Option (List Int):=Xf Tb f117 31 DP (gone,f)
noncomputable def cG (s:ByteArray) (i:Int) (f:GFact) (b:List Int):Option (List Int):=Xf Tb f117 1018 zH (s,i,f,b)
noncomputable def bU (s:ByteArray) (i:Int) (f:GFact) (b:List Int):Option (List Int):=Xf Tb f117 8147 zG (s,i,f,b)
noncomputable def sG (f:GFact):Option (List Int × Bool):=Xf Tb f81 1 f81.ins f
noncomputable def bd (n:Int) (least:Int) (most:Int):Option Bool:=Xf Tb f118 1 f118.ins (n,least,most)
noncomputable def qK (day:Int):Option Bool:=Xf Tb f119 1 f119.ins day
noncomputable def aQ (v:Int) (n:Int):Option (List Int):=Xf Tb f89 1 f89.ins (v,n)
noncomputable def gG (v:Int) (i:Int) (out:List Int):Option (List Int):=Xf Tb f89 58 G9 (v,i,out)
noncomputable def it (l:List (List Int)):Option (List Int):=Xf Tb f88 1 f88.ins l
noncomputable def lN (l:List (List Int)) (i:Int) (out:List Int):Option (List Int):=Xf Tb f88 58 HY (l,i,out)
noncomputable def my (c:GClaim):Option (List Int × Bool):=Xf Tb f82 1 f82.ins c
noncomputable def eR (n:Int):Option Int:=Xf Tb f84 1 f84.ins n
noncomputable def hU (month:Int):Option Bool:=Xf Tb f120 1 f120.ins month
noncomputable def kr (r:GRequest):Option (List Int × Bool):=Xf Tb f83 1 f83.ins r
noncomputable def hY (r:GRemittance):Option (List Int × Bool):=Xf Tb f85 1 f85.ins r
noncomputable def lH (n:GNotice):Option (List Int × Bool):=Xf Tb f86 1 f86.ins n
noncomputable def rB (r:GPensionlaw31_Raw) (kind:Int) (sender:Int):Option (List Int):=Xf Tb f42 1 f42.ins (r,kind,sender)
noncomputable def cw (b:List Int):Option Int:=Xf Tb f133 1 f133.ins b
noncomputable def eh (b:List Int) (n:Int) (i:Int):Option Int:=Xf Tb f133 58 D1 (b,n,i)
noncomputable def rg (b:List Int):Option (GFact × Int × Bool):=Xf Tb f104 1 f104.ins b
noncomputable def cL (b:List Int) (xat:Int) (s:ByteArray) (i:Int) (t2:GFact) (f:GFact):Option (GFact × Int × Bool):=Xf Tb f104 506 Ce (b,xat,s,i,t2,f)
noncomputable def dY (b:List Int) (xat:Int) (s:ByteArray) (i:Int) (size:Int) (t2:GFact) (f:GFact):Option (GFact × Int × Bool):=Xf Tb f104 32403 wJ (b,xat,s,i,size,t2,f)
noncomputable def bH (b:List Int) (xat:Int) (s:ByteArray) (i:Int) (size:Int) (t2:GFact) (f:GFact):Option (GFact × Int × Bool):=Xf Tb f104 259231 uC (b,xat,s,i,size,t2,f)
noncomputable def rH (b:List Int):Option (GFact × Bool):=Xf Tb f70 1 f70.ins b
noncomputable def pX (b:List Int):Option (GClaim × Bool):=Xf Tb f76 1 f76.ins b
noncomputable def qJ (b:List Int):Option (GRequest × Bool):=Xf Tb f147 1 f147.ins b
noncomputable def mW (b:List Int):Option (GRemittance × Bool):=Xf Tb f148 1 f148.ins b
noncomputable def sq (b:List Int):Option (GNotice × Bool):=Xf Tb f149 1 f149.ins b
noncomputable def rQ (kind:Int) (sender:Int) (b:List Int):Option Bool:=Xf Tb f121 1 f121.ins (kind,sender,b)
noncomputable def j7 (d:GDocument):Option Bool:=Xf Tb f87 1 f87.ins d
noncomputable def ph (b:List Int):Option Int:=Xf Tb f90 1 f90.ins b
noncomputable def bO (b:List Int) (c:Int) (i:Int):Option Int:=Xf Tb f90 58 I8 (b,c,i)
noncomputable def cm (b:List Int) (c:Int) (i:Int) (k:Int):Option Int:=Xf Tb f90 7462 BH (b,c,i,k)
noncomputable def gq (d:GDocument):Option (List Int × Int):=Xf Tb f43 1 f43.ins d
noncomputable def sD (l:List GPensionlaw31_Raw):Option (List (List Int)):=Xf Tb f21 1 f21.ins l
noncomputable def fq (l:List GPensionlaw31_Raw) (i:Int) (out:List (List Int)) (count:List Int) (last:List (List Int)):Option (List (List Int)):=Xf Tb f21 250 Eo (l,i,out,count,last)
noncomputable def gu (l:List GPensionlaw31_Raw) (i:Int) (s:Int) (out:List (List Int)) (count:List Int) (last:List (List Int)) (d:GDocument):Option (List (List Int)):=Xf Tb f21 32039 zy (l,i,s,out,count,last,d)
noncomputable def mu (l:List GPensionlaw31_Raw):Option (List (List Int)):=Xf Tb f15 1 f15.ins l
noncomputable def ij (l:List GPensionlaw31_Raw) (i:Int) (out:List (List Int)):Option (List (List Int)):=Xf Tb f15 58 HX (l,i,out)
noncomputable def iO (l:List GPensionlaw31_Raw) (i:Int) (s:Int) (out:List (List Int)) (d:GDocument):Option (List (List Int)):=Xf Tb f15 7463 Cc (l,i,s,out,d)
noncomputable def gF (l:List (List Int)) (xby:List Int):Option (List (List Int)):=Xf Tb f14 1 f14.ins (l,xby)
noncomputable def iq (xby:List Int) (i:Int) (rest:List (List Int)) (out:List (List Int)):Option (List (List Int)):=Xf Tb f14 122 DO (xby,i,rest,out)
noncomputable def gv (xby:List Int) (i:Int) (n:Int) (rest:List (List Int)) (out:List (List Int)):Option (List (List Int)):=Xf Tb f14 7827 Bj (xby,i,n,rest,out)
noncomputable def fJ (xby:List Int) (i:Int) (k:Int) (rest:List (List Int)) (out:List (List Int)):Option (List (List Int)):=Xf Tb f14 62623 yB (xby,i,k,rest,out)
noncomputable def wm:Option (List GFeed_key × List (List Int)):=Xf Tb f40 1 f40.ins ()
noncomputable def aq (n:Int) (b:GDocument_reader):Option (Int × GDocument_reader):=Xf Tb f96 1 f96.ins (n,b)
noncomputable def bY (n:Int) (v:Int) (t13:List Int) (t14:Int) (t15:Int) (b:GDocument_reader):Option (Int × GDocument_reader):=Xf Tb f96 58 Hl (n,v,t13,t14,t15,b)
noncomputable def o9:Option (List Int):=Xf Tb f124 1 f124.ins ()
noncomputable def eV (t4:Int) (t0:List Int) (out:List Int):Option (List Int):=Xf Tb f124 58 EL (t4,t0,out)
noncomputable def bX (i:Int) (v:Int) (t4:Int) (t9:Int) (t0:List Int) (out:List Int):Option (List Int):=Xf Tb f124 59802 xf (i,v,t4,t9,t0,out)
noncomputable def fu (b:List Int):Option Int:=Xf Tb f94 1 f94.ins b
noncomputable def ba (v:Int) (t8:List Int) (t9:Int) (t10:Int) (t:List Int):Option Int:=Xf Tb f94 122 El (v,t8,t9,t10,t)
noncomputable def aU (v:Int) (low:Int) (high:Int):Option Bool:=Xf Tb f122 1 f122.ins (v,low,high)
noncomputable def ao (size:Int) (r:GFact_reader):Option (Int × GFact_reader):=Xf Tb f129 1 f129.ins (size,r)
noncomputable def cO (size:Int) (x:Int) (t23:List Int) (t24:Int) (t25:Int) (r:GFact_reader):Option (Int × GFact_reader):=Xf Tb f129 122 BL (size,x,t23,t24,t25,r)
noncomputable def eJ (kind:Int):Option ByteArray:=Xf Tb f130 1 f130.ins kind
noncomputable def o8 (t3:Int) (t6:Bool):Option ByteArray:=Xf Tb f130 215 Bl (t3,t6)
noncomputable def gV (t3:Int) (t11:Bool):Option ByteArray:=Xf Tb f130 3455 zD (t3,t11)
noncomputable def iN (t3:Int) (t20:Bool):Option ByteArray:=Xf Tb f130 221183 uV (t3,t20)
noncomputable def iG (x:Int) (low:Int) (high:Int):Option Bool:=Xf Tb f168 1 f168.ins (x,low,high)
noncomputable def nt (s:ByteArray) (c:Int):Option Int:=Xf Tb f211 1 f211.ins (s,c)
noncomputable def qV (s:ByteArray) (substr:ByteArray):Option Int:=Xf Tb f209 1 f209.ins (s,substr)
noncomputable def xS (s:ByteArray) (substr:ByteArray):Option Int:=Xf Tb f200 1 f200.ins (s,substr)
noncomputable def su (s:ByteArray) (substr:ByteArray):Option Bool:=Xf Tb f167 1 f167.ins (s,substr)
noncomputable def eL (letter:ByteArray) (t1:ByteArray):Option Bool:=Xf Tb f166 1 f166.ins (letter,t1)
noncomputable def ic (used:Bool) (x:Int) (low:Int) (high:Int):Option Bool:=Xf Tb f169 1 f169.ins (used,x,low,high)
noncomputable def pm (s:GSpan):Option Bool:=Xf Tb f170 1 f170.ins s
noncomputable def jJ (f:GFact):Option Bool:=Xf Tb f131 1 f131.ins f
noncomputable def gi (t89:Int) (t97:Bool) (f:GFact):Option Bool:=Xf Tb f131 2007 yF (t89,t97,f)
noncomputable def yV (b:List Int):Option (GFact × Int × Bool):=Xf Tb f99 1 f99.ins b
noncomputable def aJ (b:List Int) (withdrawn:Int) (f:GFact) (r:GFact_reader) (s2:ByteArray) (s2p:Int):Option (GFact × Int × Bool):=Xf Tb f99 1018 B3 (b,withdrawn,f,r,s2,s2p)
noncomputable def mD (b:List Int):Option (GFact × Bool):=Xf Tb f67 1 f67.ins b
noncomputable def kd (c:GClaim):Option Bool:=Xf Tb f108 1 f108.ins c
noncomputable def lD (b:List Int):Option (GClaim × Bool):=Xf Tb f72 1 f72.ins b
noncomputable def e8 (r:GRequest):Option Bool:=Xf Tb f91 1 f91.ins r
noncomputable def mU (b:List Int):Option (GRequest × Bool):=Xf Tb f150 1 f150.ins b
noncomputable def fY (r:GRemittance):Option Bool:=Xf Tb f178 1 f178.ins r
noncomputable def j8 (b:List Int):Option (GRemittance × Bool):=Xf Tb f151 1 f151.ins b
noncomputable def jw (n:GNotice):Option Bool:=Xf Tb f179 1 f179.ins n
noncomputable def oq (b:List Int):Option (GNotice × Bool):=Xf Tb f152 1 f152.ins b
noncomputable def im (d:GDocument):Option Bool:=Xf Tb f123 1 f123.ins d
noncomputable def fP (d:GDocument):Option Bool:=Xf Tb f93 1 f93.ins d
noncomputable def iA (b:List Int):Option (GDocument × Int):=Xf Tb f56 1 f56.ins b
noncomputable def gI (a:List Int) (b:List Int):Option Int:=Xf Tb f57 1 f57.ins (a,b)
noncomputable def iW (b:List Int) (kept_k:List GFeed_key) (kept_v:List (List Int)):Option (Int × List GFeed_key × List (List Int)):=Xf Tb f28 1 f28.ins (b,kept_k,kept_v)
noncomputable def sX (b:List Int):Option (GDocument × Int):=Xf Tb f23 1 f23.ins b
noncomputable def dD (f:GPensionref31_Feeds) (sender:Int) (number:Int):Option (Int × Bool):=Xf Tb f46 1 f46.ins (f,sender,number)
noncomputable def dc (f:GPensionref31_Feeds) (sender:Int) (number:Int) (i:Int):Option (Int × Bool):=Xf Tb f46 26 ID (f,sender,number,i)
noncomputable def nT (b:List Int) (L:GPensionref31_Feeds):Option (Int × GPensionref31_Feeds):=Xf Tb f31 1 f31.ins (b,L)
noncomputable def fI (b:List Int) (i:Int) (rest:Int) (L:GPensionref31_Feeds) (d:GDocument):Option (Int × GPensionref31_Feeds):=Xf Tb f31 255 EB (b,i,rest,L,d)
noncomputable def jH (l:List (List Int)):Option (Bool × List (List Int) × GPensionref31_Feeds × List GFeed_key × List (List Int)):=Xf Tb f13 1 f13.ins l
noncomputable def iU (i:Int) (l:List (List Int)) (L:GPensionref31_Feeds) (kept_k:List GFeed_key) (kept_v:List (List Int)):Option (Bool × List (List Int) × GPensionref31_Feeds × List GFeed_key × List (List Int)):=Xf Tb f13 58 JG (i,l,L,kept_k,kept_v)
noncomputable def em (sender:Int) (number:Int) (kept_k:List GFeed_key) (kept_v:List (List Int)):Option (List Int × Bool × List GFeed_key × List (List Int)):=Xf Tb f44 1 f44.ins (sender,number,kept_k,kept_v)
noncomputable def o4 (sender:Int) (number:Int) (kept_k:List GFeed_key) (kept_v:List (List Int)):Option (List Int × Bool × List GFeed_key × List (List Int)):=Xf Tb f17 1 f17.ins (sender,number,kept_k,kept_v)
noncomputable def aS (v:Int) (n:Int) (b:List Int):Option (List Int):=Xf Tb tX 1 tX.ins (v,n,b)
noncomputable def cE (v:Int) (n:Int) (b:List Int):Option (List Int):=Xf Tb tX 26 BA (v,n,b)
noncomputable def ln (r:GRequest):Option (List Int × Bool):=Xf Tb f47 1 f47.ins r
noncomputable def kz (d:GDocument):Option (List Int × Int):=Xf Tb f48 1 f48.ins d
noncomputable def mz (b:List Int):Option Int:=Xf Tb f79 1 f79.ins b
noncomputable def dP (sender:Int) (kept_k:List GFeed_key) (kept_v:List (List Int)):Option (List GDocument × List GFeed_key × List (List Int)):=Xf Tb f39 1 f39.ins (sender,kept_k,kept_v)
noncomputable def cX (sender:Int) (prev:Int) (n:Int) (out:List GDocument) (kept_k:List GFeed_key) (kept_v:List (List Int)):Option (List GDocument × List GFeed_key × List (List Int)):=Xf Tb f39 62 Iw (sender,prev,n,out,kept_k,kept_v)
noncomputable def lQ (sender:Int) (kept_k:List GFeed_key) (kept_v:List (List Int)):Option (Int × List GFeed_key × List (List Int)):=Xf Tb f22 1 f22.ins (sender,kept_k,kept_v)
noncomputable def fB (sender:Int) (kept_k:List GFeed_key) (kept_v:List (List Int)):Option (Int × List GFeed_key × List (List Int)):=Xf Tb f49 1 f49.ins (sender,kept_k,kept_v)
noncomputable def fc (sender:Int) (p:Int) (kept_k:List GFeed_key) (kept_v:List (List Int)):Option (Int × List GFeed_key × List (List Int)):=Xf Tb f49 14 HW (sender,p,kept_k,kept_v)
noncomputable def fo (sender:Int) (p:Int) (kept_k:List GFeed_key) (kept_v:List (List Int)):Option (Int × List GFeed_key × List (List Int)):=Xf Tb f52 1 f52.ins (sender,p,kept_k,kept_v)
noncomputable def ff (sender:Int) (p:Int) (n:Int) (all:List Int) (kept_k:List GFeed_key) (kept_v:List (List Int)):Option (Int × List GFeed_key × List (List Int)):=Xf Tb f52 58 HL (sender,p,n,all,kept_k,kept_v)
noncomputable def db (kept_k:List GFeed_key) (kept_v:List (List Int)):Option (List Int × List GFeed_key × List (List Int)):=Xf Tb f25 1 f25.ins (kept_k,kept_v)
noncomputable def dV (t8:Int) (out:List Int) (kept_k:List GFeed_key) (kept_v:List (List Int)):Option (List Int × List GFeed_key × List (List Int)):=Xf Tb f25 58 JP (t8,out,kept_k,kept_v)
noncomputable def rS (inventory:List Int) (sender:Int):Option (Int × Int):=Xf Tb f51 1 f51.ins (inventory,sender)
noncomputable def gY (sender:Int) (kept_k:List GFeed_key) (kept_v:List (List Int)):Option (List Int × List GFeed_key × List (List Int)):=Xf Tb f53 1 f53.ins (sender,kept_k,kept_v)
noncomputable def dh (sender:Int) (out:List Int) (w1s:Int) (w1l:List Int) (kept_k:List GFeed_key) (kept_v:List (List Int)):Option (List Int × List GFeed_key × List (List Int)):=Xf Tb f53 234 Ej (sender,out,w1s,w1l,kept_k,kept_v)
noncomputable def lh (inventory:List Int) (kept_k:List GFeed_key) (kept_v:List (List Int)):Option (List (List Int) × Int × List GFeed_key × List (List Int)):=Xf Tb f24 1 f24.ins (inventory,kept_k,kept_v)
noncomputable def d9 (inventory:List Int) (t29:Int) (kept_k:List GFeed_key) (kept_v:List (List Int)):Option (List (List Int) × Int × List GFeed_key × List (List Int)):=Xf Tb f24 122 ER (inventory,t29,kept_k,kept_v)
noncomputable def dg (inventory:List Int) (t41:Int) (out:List (List Int)) (kept_k:List GFeed_key) (kept_v:List (List Int)):Option (List (List Int) × Int × List GFeed_key × List (List Int)):=Xf Tb f24 506 Fj (inventory,t41,out,kept_k,kept_v)
noncomputable def aM (inventory:List Int) (sender:Int) (p:Int) (differ:Bool) (t41:Int) (t66:Int) (t67:Int) (out:List (List Int)) (t65:List Int) (kept_k:List GFeed_key) (kept_v:List (List Int)):Option (List (List Int) × Int × List GFeed_key × List (List Int)):=Xf Tb f24 518558 w4 (inventory,sender,p,differ,t41,t66,t67,out,t65,kept_k,kept_v)
noncomputable def mh (a:List Int) (b:List Int):Option Bool:=Xf Tb f20 1 f20.ins (a,b)
noncomputable def pF:Option Bool:=Xf Tb f19 1 f19.ins ()
noncomputable def sJ (xby:List Int) (l:List (List Int)):Option (List (List Int) × List (List Int)):=Xf Tb mI 1 mI.ins (xby,l)
noncomputable def eW (xby:List Int) (i:Int) (rest:List (List Int)) (out:List (List Int)) (t1000000:List (List Int)):Option (List (List Int) × List (List Int)):=Xf Tb mI 122 yZ (xby,i,rest,out,t1000000)
noncomputable def eA (xby:List Int) (i:Int) (n:Int) (rest:List (List Int)) (out:List (List Int)) (t1000000:List (List Int)):Option (List (List Int) × List (List Int)):=Xf Tb mI 7827 wC (xby,i,n,rest,out,t1000000)
noncomputable def d8 (xby:List Int) (i:Int) (k:Int) (rest:List (List Int)) (out:List (List Int)) (t1000000:List (List Int)):Option (List (List Int) × List (List Int)):=Xf Tb mI 62623 uK (xby,i,k,rest,out,t1000000)
noncomputable def gM (f:GPensionref31_Feeds) (sender:Int):Option Int:=Xf Tb f54 1 f54.ins (f,sender)
noncomputable def eD (f:GPensionref31_Feeds) (sender:Int) (p:Int):Option Int:=Xf Tb f54 14 HO (f,sender,p)
noncomputable def pP (a:List Int) (b:List Int):Option Bool:=Xf Tb f59 1 f59.ins (a,b)
noncomputable def vN (m1_k:List GFeed_key) (m1_v:List (List Int)) (m2_k:List GFeed_key) (m2_v:List (List Int)):Option (Bool × List GFeed_key × List (List Int) × List GFeed_key × List (List Int)):=Xf Tb f58 1 f58.ins (m1_k,m1_v,m2_k,m2_v)
noncomputable def ir (m2_k:List GFeed_key) (m2_v:List (List Int)) (w1s:Int) (w1l:List Int) (t1000000_k:List GFeed_key) (t1000000_v:List (List Int)):Option (Bool × List GFeed_key × List (List Int) × List GFeed_key × List (List Int)):=Xf Tb f58 58 HR (m2_k,m2_v,w1s,w1l,t1000000_k,t1000000_v)
noncomputable def mP (kept_k:List GFeed_key) (kept_v:List (List Int)) (kept_k2:List GFeed_key) (kept_v2:List (List Int)):Option (Bool × List GFeed_key × List (List Int) × List GFeed_key × List (List Int)):=Xf Tb f29 1 f29.ins (kept_k,kept_v,kept_k2,kept_v2)
noncomputable def ot (a_k:List GFeed_key) (a_v:List (List Int)) (kept_k:List GFeed_key) (kept_v:List (List Int)):Option (Bool × List GFeed_key × List (List Int) × List GFeed_key × List (List Int)):=Xf Tb f29 15 Jy (a_k,a_v,kept_k,kept_v)
noncomputable def iZ (sender:Int) (L:GPensionref31_Feeds):Option (GPensionref31_Feeds × List GDocument):=Xf Tb f60 1 f60.ins (sender,L)
noncomputable def dB (sender:Int) (prev:Int) (p:Int) (n:Int) (L:GPensionref31_Feeds) (out:List GDocument):Option (GPensionref31_Feeds × List GDocument):=Xf Tb f60 250 E5 (sender,prev,p,n,L,out)
noncomputable def fW (f:GPensionref31_Feeds) (sender:Int):Option (List GDocument):=Xf Tb um 1 um.ins (f,sender)
noncomputable def cP (f:GPensionref31_Feeds) (sender:Int) (prev:Int) (p:Int) (n:Int) (out:List GDocument):Option (List GDocument):=Xf Tb um 250 zF (f,sender,prev,p,n,out)
noncomputable def ub (x:Int):Option Bool:=Xf Tb f145 1 f145.ins x
noncomputable def pY (x:Int) (y:Int):Option Int:=Xf Tb f112 1 f112.ins (x,y)
noncomputable def IH (vals:List Int):Option Int:=Xf Tb f111 1 f111.ins vals
noncomputable def rb (zero:Int) (t6:List Int) (t7:Int) (t8:Int):Option Int:=Xf Tb f111 58 ES (zero,t6,t7,t8)
noncomputable def iR (a:GFact) (b:GFact):Option Int:=Xf Tb f102 1 f102.ins (a,b)
noncomputable def aD (size:Int) (numbers:List Int) (b:List Int):Option (List Int):=Xf Tb mv 1 mv.ins (size,numbers,b)
noncomputable def bR (size:Int) (t10:List Int) (t11:Int) (t12:Int) (b:List Int):Option (List Int):=Xf Tb mv 26 zK (size,t10,t11,t12,b)
noncomputable def bp (size:Int) (x:Int) (i:Int) (t10:List Int) (t11:Int) (t12:Int) (b:List Int):Option (List Int):=Xf Tb mv 6758 u4 (size,x,i,t10,t11,t12,b)
noncomputable def rP (f:GFact):Option (List Int):=Xf Tb f171 1 f171.ins f
noncomputable def lE (withdrawn:Int) (f:GFact):Option (List Int):=Xf Tb f171 31 Fm (withdrawn,f)
noncomputable def bj (f:GFact) (b:List Int) (s2:ByteArray) (s2p:Int):Option (List Int):=Xf Tb f171 2042 yD (f,b,s2,s2p)
noncomputable def yx (a:GFact) (b:GFact):Option Bool:=Xf Tb f132 1 f132.ins (a,b)
noncomputable def lC (a:GFact) (b:GFact):Option GFact:=Xf Tb f103 1 f103.ins (a,b)
noncomputable def ow (a:List GFact) (b:List GFact):Option (List GFact):=Xf Tb f100 1 f100.ins (a,b)
noncomputable def dE (a:List GFact) (b:List GFact) (out:List GFact):Option (List GFact):=Xf Tb f100 28 EJ (a,b,out)
noncomputable def jp (l:List GFact):Option (List GFact):=Xf Tb f101 1 f101.ins l
noncomputable def dW (t6:List GFact) (t7:Int) (t8:Int) (out:List GFact):Option (List GFact):=Xf Tb f101 58 E4 (t6,t7,t8,out)
noncomputable def sI (a:List GFact) (b:List GFact):Option (List GFact):=Xf Tb f68 1 f68.ins (a,b)
noncomputable def gr (kept_k:List GFeed_key) (kept_v:List (List Int)):Option (List GFact × List GFeed_key × List (List Int)):=Xf Tb f33 1 f33.ins (kept_k,kept_v)
noncomputable def dQ (t9:Int) (out:List GFact) (kept_k:List GFeed_key) (kept_v:List (List Int)):Option (List GFact × List GFeed_key × List (List Int)):=Xf Tb f33 58 Jq (t9,out,kept_k,kept_v)
noncomputable def bh (t9:Int) (t15:Int) (t16:Int) (out:List GFact) (t14:List GDocument) (kept_k:List GFeed_key) (kept_v:List (List Int)):Option (List GFact × List GFeed_key × List (List Int)):=Xf Tb f33 14950 zJ (t9,t15,t16,out,t14,kept_k,kept_v)
noncomputable def nY (f:GPensionref31_Feeds):Option (List GDocument):=Xf Tb f69 1 f69.ins f
noncomputable def gw (f:GPensionref31_Feeds) (s:Int) (out:List GDocument):Option (List GDocument):=Xf Tb f69 58 Ja (f,s,out)
noncomputable def o5 (a:GFact) (b:GFact):Option Int:=Xf Tb f106 1 f106.ins (a,b)
noncomputable def qY (a:GFact) (b:GFact):Option Bool:=Xf Tb f107 1 f107.ins (a,b)
noncomputable def uO (a:List GFact) (b:List GFact):Option (List GFact):=Xf Tb f71 1 f71.ins (a,b)
noncomputable def bf (a:List GFact) (b:List GFact) (i:Int) (out:List GFact):Option (List GFact):=Xf Tb f71 58 Jp (a,b,i,out)
noncomputable def iJ (a:List GFact) (b:List GFact) (i:Int) (out:List GFact) (f:GFact):Option (List GFact):=Xf Tb f71 3731 BE (a,b,i,out,f)
noncomputable def gO (a:List GFact) (b:List GFact) (i:Int) (xat:Int) (out:List GFact) (f:GFact):Option (List GFact):=Xf Tb f71 59708 zM (a,b,i,xat,out,f)
noncomputable def l6 (f:GPensionref31_Feeds):Option (List GFact):=Xf Tb f34 1 f34.ins f
noncomputable def dw (i:Int) (l:List GDocument) (out:List GFact):Option (List GFact):=Xf Tb f34 122 Et (i,l,out)
noncomputable def ky (a:List GFact) (b:List GFact):Option Bool:=Xf Tb f32 1 f32.ins (a,b)
noncomputable def cK (a:List GFact) (b:List GFact) (i:Int):Option Bool:=Xf Tb f32 58 Jw (a,b,i)
noncomputable def oW (s:List GClaim):Option (List GClaim):=Xf Tb pE 1 pE.ins s
noncomputable def ig (k:Int) (s:List GClaim):Option (List GClaim):=Xf Tb pE 58 Br (k,s)
noncomputable def dI (k:Int) (s2_o:Int) (s2_n:Int) (k2:Int) (s:List GClaim):Option (List GClaim):=Xf Tb pE 59690 uH (k,s2_o,s2_n,k2,s)
noncomputable def fy (kept_k:List GFeed_key) (kept_v:List (List Int)):Option (List GClaim × List GFeed_key × List (List Int)):=Xf Tb f36 1 f36.ins (kept_k,kept_v)
noncomputable def dH (t9:Int) (out:List GClaim) (kept_k:List GFeed_key) (kept_v:List (List Int)):Option (List GClaim × List GFeed_key × List (List Int)):=Xf Tb f36 58 Id (t9,out,kept_k,kept_v)
noncomputable def be (t9:Int) (t15:Int) (t16:Int) (out:List GClaim) (t14:List GDocument) (kept_k:List GFeed_key) (kept_v:List (List Int)):Option (List GClaim × List GFeed_key × List (List Int)):=Xf Tb f36 14950 za (t9,t15,t16,out,t14,kept_k,kept_v)
noncomputable def lc (L:GPensionref31_Feeds):Option (GPensionref31_Feeds × List GDocument):=Xf Tb ue 1 ue.ins L
noncomputable def eC (s:Int) (L:GPensionref31_Feeds) (out:List GDocument):Option (GPensionref31_Feeds × List GDocument):=Xf Tb ue 58 Bw (s,L,out)
noncomputable def og (a:GClaim) (b:GClaim):Option Bool:=Xf Tb f113 1 f113.ins (a,b)
noncomputable def ck (i:Int) (x:List Int) (y:List Int):Option Bool:=Xf Tb f113 122 BQ (i,x,y)
noncomputable def pc (l:List GClaim) (c:GClaim):Option (List GClaim):=Xf Tb f77 1 f77.ins (l,c)
noncomputable def gQ (l:List GClaim) (k:Int) (c:GClaim):Option (List GClaim):=Xf Tb f77 28 Ix (l,k,c)
noncomputable def kO (L:GPensionref31_Feeds):Option (List GClaim × GPensionref31_Feeds):=Xf Tb f37 1 f37.ins L
noncomputable def di (out:List GClaim) (i:Int) (l:List GDocument) (L:GPensionref31_Feeds):Option (List GClaim × GPensionref31_Feeds):=Xf Tb f37 122 EN (out,i,l,L)
noncomputable def mG (a:List GClaim) (b:List GClaim):Option Bool:=Xf Tb f35 1 f35.ins (a,b)
noncomputable def dt (a:List GClaim) (b:List GClaim) (i:Int):Option Bool:=Xf Tb f35 58 IQ (a,b,i)
noncomputable def nM (l:List GPensionlaw31_Raw) (xby:List Int):Option Bool:=Xf Tb f10 1 f10.ins (l,xby)
noncomputable def l9 (l:List GPensionlaw31_Raw) (xby:List Int) (again:List Int):Option Bool:=Xf Tb f12 1 f12.ins (l,xby,again)
end Go.Ax
