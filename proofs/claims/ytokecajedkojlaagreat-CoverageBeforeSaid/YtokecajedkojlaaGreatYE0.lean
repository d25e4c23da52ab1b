import Derived.Test.YtokecajedkojlaaGreatYHd
import Derived.Test.YtokecajedkojlaaGreatRows
set_option linter.all false
set_option maxRecDepth 100000
set_option maxHeartbeats 0
namespace Go.Ax
open Go.Proofs Go.Proofs.YtokecajedkojlaaGreat
/- pension/pensionmade.Pick -/
noncomputable def f10:FI:={ fid:=10,fn:=Tryz.f10,c:=ai Tryz.f10,ins:={ sl:=[(0, .t (.i .i64)),(1, .t (.i .i64))] },out:=.new (.t (.i .i64)),cuts:=[] }
noncomputable def f38:FI:={ fid:=38,fn:=Tryz.f38,c:=ai Tryz.f38,ins:={ sl:=[(0, .t (.i .i64)),(1, .t (.i .i64))] },out:=.new (.t (.i .i64)),cuts:=[] }
noncomputable def f39:FI:={ fid:=39,fn:=Tryz.f39,c:=ai Tryz.f39,ins:={ sl:=[(0, .t (.ls (.i .i64))),(1, .t (.i .i64))] },out:=.new (.t (.i .i64)),cuts:=[] }
abbrev Gd:Tm:={ sl:=[(0, .t (.ls (.i .i64))),(3, .k (.row 0 14)),(4, .t (.i .i64))],ob:=[.row 61 (.st .GFact)] }
noncomputable def f26:FI:={ fid:=26,fn:=Tryz.f26,c:=ai Tryz.f26,ins:={ sl:=[(0, .t (.ls (.i .i64)))] },out:=.own true 61 (.st .GFact),cuts:=[(58,Gd)] }
abbrev GY:Tm:={ sl:=[(0, .t (.ls (.st .GFact))),(1, .t (.i .i64)),(5, .k (.row 0 14)),(6, .t (.i .i64))],ob:=[.row 61 (.st .GFact)] }
noncomputable def f25:FI:={ fid:=25,fn:=Tryz.f25,c:=ai Tryz.f25,ins:={ sl:=[(0, .t (.ls (.st .GFact))),(1, .t (.i .i64))] },out:=.own true 61 (.st .GFact),cuts:=[(58,GY)] }
noncomputable def f74:FI:={ fid:=74,fn:=Tryz.f74,c:=ai Tryz.f74,ins:={ sl:=[(0, .t (.i .i64))] },out:=.new (.t (.s)),cuts:=[] }
abbrev DC:Tm:={ sl:=[(1, .t (.i .u8)),(5, .t (.s)),(6, .t (.i .i64))],ob:=[] }
noncomputable def f203:FI:={ fid:=203,fn:=Tryz.f203,c:=ai Tryz.f203,ins:={ sl:=[(0, .t (.i .i64)),(1, .t (.i .u8))] },out:=.new (.t (.b)),cuts:=[(58,DC)] }
noncomputable def f152:FI:={ fid:=152,fn:=Tryz.f152,c:=ai Tryz.f152,ins:={ sl:=[(0, .t (.i .i64)),(1, .t (.i .u8)),(2, .t (.i .i64)),(3, .t (.i .i64)),(4, .t (.i .i64))] },out:=.new (.t (.b)),cuts:=[] }
noncomputable def f75:FI:={ fid:=75,fn:=Tryz.f75,c:=ai Tryz.f75,ins:={ sl:=[(0, .t (.st .GFact))] },out:=.new (.t (.b)),cuts:=[] }
noncomputable def f76:FI:={ fid:=76,fn:=Tryz.f76,c:=ai Tryz.f76,ins:={ sl:=[(0, .t (.st .GFact)),(1, .t (.st .GFact))] },out:=.new (.t (.i .i64)),cuts:=[] }
abbrev N1:Tm:={ sl:=[(0, .k (.row 0 1)),(1, .t (.i .i64)),(7, .t (.i .i64))],ob:=[.row 5 (.i .u8)] }
noncomputable def f204:FI:={ fid:=204,fn:=Tryz.f204,c:=ai Tryz.f204,ins:={ sl:=[(0, .k (.c .nil)),(1, .t (.i .i64)),(2, .t (.i .i64))],ob:=[] },out:=.gen ({ sl:=[(2000000, .tp [.k (.row 0 1)])],ob:=[.row 5 (.i .u8)] }),cuts:=[(26,N1)] }
abbrev wl:Tm:={ sl:=[(0, .k (.row 0 1)),(1, .t (.i .i64)),(7, .t (.i .i64))],ob:=[.row 5 (.i .u8)] }
noncomputable def ot:FI:={ fid:=204,fn:=Tryz.f204,c:=ai Tryz.f204,ins:={ sl:=[(0, .k (.row 0 1)),(1, .t (.i .i64)),(2, .t (.i .i64))],ob:=[.row 5 (.i .u8)] },out:=.gen ({ sl:=[(2000000, .tp [.k (.row 0 1)])],ob:=[.row 5 (.i .u8)] }),cuts:=[(26,wl)] }
abbrev CJ:Tm:={ sl:=[(1, .k (.ptr 0 14 0 0)),(3, .t (.i .i64))],ob:=[.box [.t (.st .GFact)]] }
abbrev ww:Tm:={ sl:=[(1, .k (.ptr 0 14 0 0)),(4, .k (.row 1 1)),(5, .t (.s)),(6, .t (.i .i64))],ob:=[.box [.t (.st .GFact)], .row 5 (.i .u8)] }
abbrev wd:Tm:={ sl:=[(1, .k (.ptr 0 14 0 0)),(4, .k (.row 1 1)),(5, .t (.s)),(6, .t (.i .i64))],ob:=[.box [.t (.st .GFact)], .row 5 (.i .u8)] }
noncomputable def f153:FI:={ fid:=153,fn:=Tryz.f153,c:=ai Tryz.f153,ins:={ sl:=[(0, .t (.st .GFact))] },out:=.own true 5 (.i .u8),cuts:=[(31,CJ),(1018,ww),(8147,wd)] }
noncomputable def f77:FI:={ fid:=77,fn:=Tryz.f77,c:=ai Tryz.f77,ins:={ sl:=[(0, .t (.st .GFact)),(1, .t (.st .GFact))] },out:=.new (.t (.b)),cuts:=[] }
abbrev Gf:Tm:={ sl:=[(0, .t (.ls (.st .GFact))),(1, .t (.ls (.st .GFact))),(5, .k (.row 0 14)),(6, .t (.i .i64))],ob:=[.row 61 (.st .GFact)] }
abbrev zO:Tm:={ sl:=[(0, .t (.ls (.st .GFact))),(1, .t (.ls (.st .GFact))),(5, .k (.row 0 14)),(6, .t (.i .i64)),(7, .k (.ptr 1 14 0 0))],ob:=[.row 61 (.st .GFact), .box [.t (.st .GFact)]] }
abbrev wQ:Tm:={ sl:=[(0, .t (.ls (.st .GFact))),(1, .t (.ls (.st .GFact))),(5, .k (.row 0 14)),(6, .t (.i .i64)),(7, .k (.ptr 1 14 0 0)),(8, .t (.i .i64))],ob:=[.row 61 (.st .GFact), .box [.t (.st .GFact)]] }
noncomputable def f27:FI:={ fid:=27,fn:=Tryz.f27,c:=ai Tryz.f27,ins:={ sl:=[(0, .t (.ls (.st .GFact))),(1, .t (.ls (.st .GFact)))] },out:=.own true 61 (.st .GFact),cuts:=[(58,Gf),(3731,zO),(59708,wQ)] }
noncomputable def f73:FI:={ fid:=73,fn:=Tryz.f73,c:=ai Tryz.f73,ins:={ sl:=[(0, .t (.i .i64))] },out:=.new (.t (.i .i64)),cuts:=[] }
abbrev Df:Tm:={ sl:=[(1, .k (.ptr 0 13 0 0)),(2, .k (.ptr 1 14 0 0)),(3, .k (.ptr 2 14 0 0)),(4, .t (.i .i64)),(5, .t (.i .i64))],ob:=[.box [.t (.st .GPensionhand_Fact)], .box [.t (.st .GFact)], .box [.t (.st .GFact)]] }
abbrev zm:Tm:={ sl:=[(1, .k (.ptr 0 13 0 0)),(2, .k (.ptr 1 14 0 0)),(3, .k (.ptr 2 14 0 0)),(4, .t (.i .i64)),(5, .t (.i .i64)),(6, .t (.s)),(7, .t (.i .i64))],ob:=[.box [.t (.st .GPensionhand_Fact)], .box [.t (.st .GFact)], .box [.t (.st .GFact)]] }
abbrev wi:Tm:={ sl:=[(1, .k (.ptr 0 13 0 0)),(2, .k (.ptr 1 14 0 0)),(3, .k (.ptr 2 14 0 0)),(4, .t (.i .i64)),(5, .t (.i .i64)),(6, .t (.s)),(7, .t (.i .i64))],ob:=[.box [.t (.st .GPensionhand_Fact)], .box [.t (.st .GFact)], .box [.t (.st .GFact)]] }
noncomputable def f24:FI:={ fid:=24,fn:=Tryz.f24,c:=ai Tryz.f24,ins:={ sl:=[(0, .t (.st .GPensionhand_Fact))] },out:=.new (.t (.st .GFact)),cuts:=[(127,Df),(2042,zm),(16339,wi)] }
abbrev Kq:Tm:={ sl:=[(0, .t (.ls (.st .GPensionhand_Fact))),(1, .t (.ls (.i .i64))),(5, .k (.row 0 14)),(6, .t (.i .i64))],ob:=[.row 61 (.st .GFact)] }
abbrev B9:Tm:={ sl:=[(0, .t (.ls (.st .GPensionhand_Fact))),(1, .t (.ls (.i .i64))),(5, .k (.row 0 14)),(6, .t (.i .i64)),(7, .k (.ptr 1 13 0 0))],ob:=[.row 61 (.st .GFact), .box [.t (.st .GPensionhand_Fact)]] }
noncomputable def f7:FI:={ fid:=7,fn:=Tryz.f7,c:=ai Tryz.f7,ins:={ sl:=[(0, .t (.ls (.st .GPensionhand_Fact))),(1, .t (.ls (.i .i64)))] },out:=.own true 61 (.st .GFact),cuts:=[(58,Kq),(7463,B9)] }
abbrev H4:Tm:={ sl:=[(0, .t (.i .i64)),(3, .t (.s))],ob:=[] }
noncomputable def f92:FI:={ fid:=92,fn:=Tryz.f92,c:=ai Tryz.f92,ins:={ sl:=[(0, .t (.i .i64))] },out:=.new (.t (.s)),cuts:=[(28,H4)] }
noncomputable def f167:FI:={ fid:=167,fn:=Tryz.f167,c:=ai Tryz.f167,ins:={ sl:=[(0, .t (.i .i64))] },out:=.new (.t (.s)),cuts:=[] }
abbrev Hf:Tm:={ sl:=[(1, .t (.ls (.i .i64))),(2, .t (.i .i64)),(7, .t (.s)),(8, .t (.s))],ob:=[] }
abbrev Co:Tm:={ sl:=[(1, .t (.ls (.i .i64))),(2, .t (.i .i64)),(7, .t (.s)),(8, .t (.s))],ob:=[] }
abbrev CM:Tm:={ sl:=[(1, .t (.ls (.i .i64))),(2, .t (.i .i64)),(7, .t (.s)),(8, .t (.s))],ob:=[] }
abbrev Ae:Tm:={ sl:=[(1, .t (.ls (.i .i64))),(2, .t (.i .i64)),(8, .t (.s))],ob:=[] }
abbrev xl:Tm:={ sl:=[(1, .t (.ls (.i .i64))),(2, .t (.i .i64)),(8, .t (.s))],ob:=[] }
noncomputable def f93:FI:={ fid:=93,fn:=Tryz.f93,c:=ai Tryz.f93,ins:={ sl:=[(0, .t (.s)),(1, .t (.ls (.i .i64))),(2, .t (.i .i64))] },out:=.new (.t (.s)),cuts:=[(31,Hf),(127,Co),(255,CM),(8191,Ae),(65535,xl)] }
abbrev Gw:Tm:={ sl:=[(0, .t (.i .i64)),(1, .t (.ls (.i .i64))),(6, .t (.s))],ob:=[] }
noncomputable def f37:FI:={ fid:=37,fn:=Tryz.f37,c:=ai Tryz.f37,ins:={ sl:=[(0, .t (.i .i64)),(1, .t (.ls (.i .i64)))] },out:=.new (.t (.s)),cuts:=[(31,Gw)] }
abbrev DI:Tm:={ sl:=[(0, .t (.s)),(1, .t (.i .i64)),(5, .t (.b))],ob:=[] }
noncomputable def f259:FI:={ fid:=259,fn:=Tryz.f259,c:=ai Tryz.f259,ins:={ sl:=[(0, .t (.s)),(1, .t (.i .i64))] },out:=.new (.t (.i .i64)),cuts:=[(28,DI)] }
noncomputable def f260:FI:={ fid:=260,fn:=Tryz.f260,c:=ai Tryz.f260,ins:={ sl:=[(0, .t (.i .u8))] },out:=.new (.t (.b)),cuts:=[] }
noncomputable def f262:FI:={ fid:=262,fn:=Tryz.f262,c:=ai Tryz.f262,ins:={ sl:=[(0, .t (.i .u8))] },out:=.new (.t (.b)),cuts:=[] }
abbrev Cr:Tm:={ sl:=[(0, .t (.s)),(1, .t (.i .i64)),(2, .t (.b)),(7, .t (.i .i64))],ob:=[] }
noncomputable def f261:FI:={ fid:=261,fn:=Tryz.f261,c:=ai Tryz.f261,ins:={ sl:=[(0, .t (.s)),(1, .t (.i .i64)),(2, .t (.b))] },out:=.new (.t (.i .i64)),cuts:=[(28,Cr)] }
abbrev B0:Tm:={ sl:=[(0, .t (.s)),(6, .t (.i .i64))],ob:=[] }
abbrev zH:Tm:={ sl:=[(0, .t (.s)),(6, .t (.i .i64)),(8, .t (.i .i64)),(9, .t (.i .i64))],ob:=[] }
abbrev zB:Tm:={ sl:=[(6, .t (.i .i64)),(10, .t (.s)),(11, .t (.s))],ob:=[] }
abbrev xz:Tm:={ sl:=[(6, .t (.i .i64)),(10, .t (.s)),(11, .t (.s)),(12, .t (.i .i64))],ob:=[] }
noncomputable def f208:FI:={ fid:=208,fn:=Tryz.f208,c:=ai Tryz.f208,ins:={ sl:=[(0, .t (.s))] },out:=.new (.tp [.t (.s), .t (.s), .t (.i .i64), .t (.b)]),cuts:=[(15,B0),(250,zH),(255,zB),(2042,xz)] }
abbrev B4:Tm:={ sl:=[(0, .t (.s)),(4, .t (.i .i64)),(5, .t (.i .i64))],ob:=[] }
noncomputable def f264:FI:={ fid:=264,fn:=Tryz.f264,c:=ai Tryz.f264,ins:={ sl:=[(0, .t (.s))] },out:=.new (.tp [.t (.i .i64), .t (.b)]),cuts:=[(58,B4)] }
noncomputable def f258:FI:={ fid:=258,fn:=Tryz.f258,c:=ai Tryz.f258,ins:={ sl:=[(0, .t (.i .i64))] },out:=.new (.t (.b)),cuts:=[] }
noncomputable def f201:FI:={ fid:=201,fn:=Tryz.f201,c:=ai Tryz.f201,ins:={ sl:=[(0, .t (.i .i64)),(1, .t (.i .i64))] },out:=.new (.t (.i .i64)),cuts:=[] }
abbrev DD:Tm:={ sl:=[(0, .t (.i .i64)),(3, .t (.i .i64)),(4, .t (.i .i64))],ob:=[] }
noncomputable def f144:FI:={ fid:=144,fn:=Tryz.f144,c:=ai Tryz.f144,ins:={ sl:=[(0, .t (.i .i64))] },out:=.new (.t (.i .i64)),cuts:=[(58,DD)] }
noncomputable def f265:FI:={ fid:=265,fn:=Tryz.f265,c:=ai Tryz.f265,ins:={ sl:=[(0, .t (.i .i64)),(1, .t (.i .i64)),(2, .t (.i .i64))] },out:=.new (.tp [.t (.i .i64), .t (.b)]),cuts:=[] }
noncomputable def f209:FI:={ fid:=209,fn:=Tryz.f209,c:=ai Tryz.f209,ins:={ sl:=[(0, .t (.s))] },out:=.new (.tp [.t (.i .i64), .t (.b)]),cuts:=[] }
abbrev H6:Tm:={ sl:=[(0, .t (.s)),(1, .t (.i .i64))],ob:=[] }
abbrev zC:Tm:={ sl:=[(29, .t (.b))],ob:=[] }
noncomputable def f263:FI:={ fid:=263,fn:=Tryz.f263,c:=ai Tryz.f263,ins:={ sl:=[(0, .t (.s)),(1, .t (.i .i64))] },out:=.new (.t (.i .i64)),cuts:=[(7,H6),(117,zC)] }
abbrev zG:Tm:={ sl:=[(0, .t (.s)),(1, .t (.i .i64)),(4, .k (.ptr 0 3 0 0)),(7, .t (.i .i64)),(8, .t (.i .i64)),(9, .t (.b))],ob:=[.box [.t (.st .GToken)]] }
noncomputable def f205:FI:={ fid:=205,fn:=Tryz.f205,c:=ai Tryz.f205,ins:={ sl:=[(0, .t (.s)),(1, .t (.i .i64))] },out:=.new (.tp [.t (.st .GToken), .t (.i .i64), .t (.i .i64)]),cuts:=[(127,zG)] }
abbrev Ca:Tm:={ sl:=[(0, .t (.s)),(5, .k (.row 0 3)),(6, .t (.i .i64))],ob:=[.row 236 (.st .GToken)] }
noncomputable def f157:FI:={ fid:=157,fn:=Tryz.f157,c:=ai Tryz.f157,ins:={ sl:=[(0, .t (.s))] },out:=.new (.tp [.t (.ls (.st .GToken)), .t (.i .i64), .t (.i .i64)]),cuts:=[(62,Ca)] }
noncomputable def f84:FI:={ fid:=84,fn:=Tryz.f84,c:=ai Tryz.f84,ins:={ sl:=[(0, .t (.s))],ob:=[] },out:=.gen2 ({ sl:=[(2000000, .tp [.tp [.k (.c (.lit (.pointer none))), .t (.i .i64), .t (.i .i64)]])],ob:=[] }) ({ sl:=[(2000000, .tp [.tp [.k (.ptr 0 4 0 0), .t (.i .i64), .t (.i .i64)]])],ob:=[.box [.t (.st .GPensionref5_reader)]] }),cuts:=[] }
noncomputable def f162:FI:={ fid:=162,fn:=Tryz.f162,c:=ai Tryz.f162,ins:={ sl:=[(0, .dp (.st .GPensionref5_reader)),(1, .t (.s))] },out:=.new (.t (.b)),cuts:=[] }
noncomputable def f88:FI:={ fid:=88,fn:=Tryz.f88,c:=ai Tryz.f88,ins:={ sl:=[(0, .k (.ptr 0 4 0 0)),(1, .t (.s)),(1000000, .k (.ptr 0 4 0 0))],ob:=[.box [.t (.st .GPensionref5_reader)]] },out:=.gen ({ sl:=[(1000000, .k (.ptr 0 4 0 0)),(2000000, .tp [.t (.b)])],ob:=[.box [.t (.st .GPensionref5_reader)]] }),cuts:=[] }
noncomputable def f158:FI:={ fid:=158,fn:=Tryz.f158,c:=ai Tryz.f158,ins:={ sl:=[(0, .k (.ptr 0 4 0 0)),(1000000, .k (.ptr 0 4 0 0))],ob:=[.box [.t (.st .GPensionref5_reader)]] },out:=.gen ({ sl:=[(1000000, .k (.ptr 0 4 0 0)),(2000000, .tp [.tp []])],ob:=[.box [.t (.st .GPensionref5_reader)]] }),cuts:=[] }
noncomputable def f85:FI:={ fid:=85,fn:=Tryz.f85,c:=ai Tryz.f85,ins:={ sl:=[(0, .k (.ptr 0 4 0 0)),(1, .t (.s)),(1000000, .k (.ptr 0 4 0 0))],ob:=[.box [.t (.st .GPensionref5_reader)]] },out:=.gen ({ sl:=[(1000000, .k (.ptr 0 4 0 0)),(2000000, .tp [.tp []])],ob:=[.box [.t (.st .GPensionref5_reader)]] }),cuts:=[] }
noncomputable def f159:FI:={ fid:=159,fn:=Tryz.f159,c:=ai Tryz.f159,ins:={ sl:=[(0, .dp (.st .GPensionref5_reader)),(1, .t (.i .i64))] },out:=.new (.t (.b)),cuts:=[] }
abbrev Cf:Tm:={ sl:=[(0, .t (.s)),(3, .t (.i .i64))],ob:=[] }
noncomputable def f206:FI:={ fid:=206,fn:=Tryz.f206,c:=ai Tryz.f206,ins:={ sl:=[(0, .t (.s))] },out:=.new (.t (.b)),cuts:=[(26,Cf)] }
abbrev DA:Tm:={ sl:=[(4, .t (.b))],ob:=[] }
noncomputable def f207:FI:={ fid:=207,fn:=Tryz.f207,c:=ai Tryz.f207,ins:={ sl:=[(0, .t (.s))] },out:=.new (.t (.b)),cuts:=[(53,DA)] }
noncomputable def f160:FI:={ fid:=160,fn:=Tryz.f160,c:=ai Tryz.f160,ins:={ sl:=[(0, .t (.s))] },out:=.new (.t (.b)),cuts:=[] }
noncomputable def f86:FI:={ fid:=86,fn:=Tryz.f86,c:=ai Tryz.f86,ins:={ sl:=[(0, .k (.ptr 0 4 0 0)),(1000000, .k (.ptr 0 4 0 0))],ob:=[.box [.t (.st .GPensionref5_reader)]] },out:=.gen ({ sl:=[(1000000, .k (.ptr 0 4 0 0)),(2000000, .tp [.t (.s)])],ob:=[.box [.t (.st .GPensionref5_reader)]] }),cuts:=[] }
noncomputable def f149:FI:={ fid:=149,fn:=Tryz.f149,c:=ai Tryz.f149,ins:={ sl:=[(0, .t (.i .i64))] },out:=.new (.t (.i .u64)),cuts:=[] }
abbrev ON:Tm:={ sl:=[(0, .t (.i .u64)),(2, .t (.i .i64))],ob:=[] }
abbrev NT:Tm:={ sl:=[(0, .t (.i .u64)),(2, .t (.i .i64))],ob:=[] }
noncomputable def f234:FI:={ fid:=234,fn:=Tryz.f234,c:=ai Tryz.f234,ins:={ sl:=[(0, .t (.i .u64))] },out:=.new (.t (.i .i64)),cuts:=[(7,ON),(15,NT)] }
noncomputable def f256:FI:={ fid:=256,fn:=Tryz.f256,c:=ai Tryz.f256,ins:={ sl:=[(0, .t (.i .u64))] },out:=.new (.t (.i .i64)),cuts:=[] }
abbrev Hg:Tm:={ sl:=[(0, .t (.i .u64)),(1, .t (.i .u64)),(2, .t (.i .u64))],ob:=[] }
abbrev BV:Tm:={ sl:=[(0, .t (.i .u64)),(1, .t (.i .u64)),(2, .t (.i .u64))],ob:=[] }
abbrev Kc:Tm:={ sl:=[(2, .t (.i .u64)),(8, .t (.i .u64)),(9, .t (.i .u64)),(10, .t (.i .u64)),(11, .t (.i .u64)),(13, .t (.i .u64)),(14, .t (.i .u64)),(15, .t (.i .u64))],ob:=[] }
abbrev yM:Tm:={ sl:=[(2, .t (.i .u64)),(8, .t (.i .u64)),(9, .t (.i .u64)),(10, .t (.i .u64)),(11, .t (.i .u64)),(13, .t (.i .u64)),(14, .t (.i .u64)),(15, .t (.i .u64)),(16, .t (.i .u64))],ob:=[] }
abbrev Hh:Tm:={ sl:=[(2, .t (.i .u64)),(8, .t (.i .u64)),(14, .t (.i .u64)),(15, .t (.i .u64)),(17, .t (.i .u64)),(18, .t (.i .u64))],ob:=[] }
abbrev GH:Tm:={ sl:=[(2, .t (.i .u64)),(8, .t (.i .u64)),(9, .t (.i .u64)),(10, .t (.i .u64)),(14, .t (.i .u64)),(15, .t (.i .u64)),(16, .t (.i .u64)),(17, .t (.i .u64)),(18, .t (.i .u64))],ob:=[] }
noncomputable def f192:FI:={ fid:=192,fn:=Tryz.f192,c:=ai Tryz.f192,ins:={ sl:=[(0, .t (.i .u64)),(1, .t (.i .u64)),(2, .t (.i .u64))] },out:=.new (.tp [.t (.i .u64), .t (.i .u64)]),cuts:=[(7,Hg),(15,BV),(65535,Kc),(131068,yM),(1048575,Hh),(2097148,GH)] }
noncomputable def f202:FI:={ fid:=202,fn:=Tryz.f202,c:=ai Tryz.f202,ins:={ sl:=[(0, .t (.st .GPensionref1_wide)),(1, .t (.i .u64))] },out:=.new (.tp [.t (.st .GPensionref1_wide), .t (.i .u64)]),cuts:=[] }
abbrev Du:Tm:={ sl:=[(0, .t (.i .u64)),(1, .t (.i .u64))],ob:=[] }
noncomputable def f199:FI:={ fid:=199,fn:=Tryz.f199,c:=ai Tryz.f199,ins:={ sl:=[(0, .t (.i .u64)),(1, .t (.i .u64))] },out:=.new (.t (.i .u64)),cuts:=[(12,Du)] }
noncomputable def f168:FI:={ fid:=168,fn:=Tryz.f168,c:=ai Tryz.f168,ins:={ sl:=[(0, .t (.b)),(1, .t (.st .GPensionref1_wide)),(2, .t (.i .u64))] },out:=.new (.tp [.t (.st .GFraction), .t (.i .i64)]),cuts:=[] }
noncomputable def f94:FI:={ fid:=94,fn:=Tryz.f94,c:=ai Tryz.f94,ins:={ sl:=[(0, .t (.i .i64)),(1, .t (.i .i64))] },out:=.new (.tp [.t (.st .GFraction), .t (.i .i64)]),cuts:=[] }
abbrev yT:Tm:={ sl:=[(2, .k (.ptr 0 2 0 0)),(5, .t (.s)),(6, .t (.s)),(7, .t (.i .i64)),(9, .t (.i .i64)),(10, .t (.i .i64)),(11, .t (.i .i64))],ob:=[.box [.t (.st .GFraction)]] }
noncomputable def f161:FI:={ fid:=161,fn:=Tryz.f161,c:=ai Tryz.f161,ins:={ sl:=[(0, .t (.s))] },out:=.new (.tp [.t (.st .GFraction), .t (.i .i64), .t (.b)]),cuts:=[(250,yT)] }
noncomputable def f87:FI:={ fid:=87,fn:=Tryz.f87,c:=ai Tryz.f87,ins:={ sl:=[(0, .k (.ptr 0 4 0 0)),(1, .t (.i .i64)),(2, .t (.i .i64)),(1000000, .k (.ptr 0 4 0 0))],ob:=[.box [.t (.st .GPensionref5_reader)]] },out:=.gen ({ sl:=[(1000000, .k (.ptr 0 4 0 0)),(2000000, .tp [.t (.i .i64)])],ob:=[.box [.t (.st .GPensionref5_reader)]] }),cuts:=[] }
noncomputable def f163:FI:={ fid:=163,fn:=Tryz.f163,c:=ai Tryz.f163,ins:={ sl:=[(0, .t (.s))] },out:=.new (.t (.i .i64)),cuts:=[] }
noncomputable def f210:FI:={ fid:=210,fn:=Tryz.f210,c:=ai Tryz.f210,ins:={ sl:=[(0, .t (.s))] },out:=.new (.t (.i .i64)),cuts:=[] }
noncomputable def f211:FI:={ fid:=211,fn:=Tryz.f211,c:=ai Tryz.f211,ins:={ sl:=[(0, .t (.s))] },out:=.new (.t (.i .i64)),cuts:=[] }
noncomputable def f212:FI:={ fid:=212,fn:=Tryz.f212,c:=ai Tryz.f212,ins:={ sl:=[(0, .t (.s))] },out:=.new (.t (.i .i64)),cuts:=[] }
noncomputable def f164:FI:={ fid:=164,fn:=Tryz.f164,c:=ai Tryz.f164,ins:={ sl:=[(0, .k (.ptr 0 4 0 0)),(1, .t (.i .i64)),(1000000, .k (.ptr 0 4 0 0))],ob:=[.box [.t (.st .GPensionref5_reader)]] },out:=.gen ({ sl:=[(1000000, .k (.ptr 0 4 0 0)),(2000000, .tp [.t (.i .i64)])],ob:=[.box [.t (.st .GPensionref5_reader)]] }),cuts:=[] }
noncomputable def f269:FI:={ fid:=269,fn:=Tryz.f269,c:=ai Tryz.f269,ins:={ sl:=[(0, .t (.i .i64))] },out:=.new (.t (.i .i64)),cuts:=[] }
noncomputable def f287:FI:={ fid:=287,fn:=Tryz.f287,c:=ai Tryz.f287,ins:={ sl:=[(0, .k (.ptr 0 4 0 0)),(1, .t (.i .i64)),(1000000, .k (.ptr 0 4 0 0))],ob:=[.box [.t (.st .GPensionref5_reader)]] },out:=.gen ({ sl:=[(1000000, .k (.ptr 0 4 0 0)),(2000000, .tp [.t (.st .GExpr)])],ob:=[.box [.t (.st .GPensionref5_reader)]] }),cuts:=[] }
noncomputable def f266:FI:={ fid:=266,fn:=Tryz.f266,c:=ai Tryz.f266,ins:={ sl:=[(0, .k (.ptr 0 4 0 0)),(1000000, .k (.ptr 0 4 0 0))],ob:=[.box [.t (.st .GPensionref5_reader)]] },out:=.gen ({ sl:=[(1000000, .k (.ptr 0 4 0 0)),(2000000, .tp [.t (.st .GExpr)])],ob:=[.box [.t (.st .GPensionref5_reader)]] }),cuts:=[] }
abbrev tI:Tm:={ sl:=[(3, .t (.i .i64)),(12, .t (.b))],ob:=[] }
noncomputable def f288:FI:={ fid:=288,fn:=Tryz.f288,c:=ai Tryz.f288,ins:={ sl:=[(0, .t (.i .i64))] },out:=.new (.t (.i .i64)),cuts:=[(13823,tI)] }
noncomputable def f289:FI:={ fid:=289,fn:=Tryz.f289,c:=ai Tryz.f289,ins:={ sl:=[(0, .t (.i .i64))] },out:=.new (.t (.s)),cuts:=[] }
abbrev DK:Tm:={ sl:=[(0, .dp (.st .GPensionref5_reader)),(1, .t (.i .i64)),(5, .t (.i .i64))],ob:=[] }
noncomputable def f267:FI:={ fid:=267,fn:=Tryz.f267,c:=ai Tryz.f267,ins:={ sl:=[(0, .dp (.st .GPensionref5_reader)),(1, .t (.i .i64))] },out:=.new (.t (.i .i64)),cuts:=[(26,DK)] }
abbrev zQ:Tm:={ sl:=[(0, .k (.ptr 0 4 0 0)),(1, .t (.i .i64)),(4, .k (.ptr 1 6 0 0)),(8, .k (.ptr 2 6 0 0)),(1000000, .k (.ptr 0 4 0 0))],ob:=[.box [.t (.st .GPensionref5_reader)], .box [.t (.i .i64), .t (.st .GFraction), .t (.i .i64), .t (.s), .k (.c .nil)], .box [.t (.i .i64), .t (.st .GFraction), .t (.i .i64), .t (.s), .t (.ls (.st .GExpr))]] }
noncomputable def f213:FI:={ fid:=213,fn:=Tryz.f213,c:=ai Tryz.f213,ins:={ sl:=[(0, .k (.ptr 0 4 0 0)),(1, .t (.i .i64)),(1000000, .k (.ptr 0 4 0 0))],ob:=[.box [.t (.st .GPensionref5_reader)]] },out:=.gen ({ sl:=[(1000000, .k (.ptr 0 4 0 0)),(2000000, .tp [.t (.st .GExpr)])],ob:=[.box [.t (.st .GPensionref5_reader)]] }),cuts:=[(124,zQ)] }
abbrev zq:Tm:={ sl:=[(0, .k (.ptr 0 4 0 0)),(1000000, .k (.ptr 0 4 0 0)),(1000001, .k (.ptr 1 8 0 0))],ob:=[.box [.t (.st .GPensionref5_reader)], .box [.t (.i .i64), .t (.st .GRounding), .k (.row 2 2), .k (.row 3 3), .k (.row 4 7), .k (.row 5 13), .k (.row 6 7)], .row 130 (.st .GCredit), .row 182 (.st .GIndex), .row 189 (.st .GLet), .row 193 (.st .GGrant), .row 195 (.st .GReduce)] }
abbrev xg:Tm:={ sl:=[(0, .k (.ptr 0 4 0 0)),(1, .k (.ptr 1 8 0 0)),(4, .k (.ptr 2 2 0 0)),(1000000, .k (.ptr 0 4 0 0)),(1000001, .k (.ptr 1 8 0 0))],ob:=[.box [.t (.st .GPensionref5_reader)], .box [.t (.i .i64), .t (.st .GRounding), .k (.row 3 2), .k (.row 4 3), .k (.row 5 7), .k (.row 6 13), .k (.row 7 7)], .box [.t (.st .GCredit)], .row 130 (.st .GCredit), .row 182 (.st .GIndex), .row 189 (.st .GLet), .row 193 (.st .GGrant), .row 195 (.st .GReduce)] }
abbrev uN:Tm:={ sl:=[(0, .k (.ptr 0 4 0 0)),(1, .k (.ptr 1 8 0 0)),(6, .k (.ptr 2 3 0 0)),(1000000, .k (.ptr 0 4 0 0)),(1000001, .k (.ptr 1 8 0 0))],ob:=[.box [.t (.st .GPensionref5_reader)], .box [.t (.i .i64), .t (.st .GRounding), .k (.row 3 2), .k (.row 4 3), .k (.row 5 7), .k (.row 6 13), .k (.row 7 7)], .box [.t (.st .GIndex)], .row 130 (.st .GCredit), .row 182 (.st .GIndex), .row 189 (.st .GLet), .row 193 (.st .GGrant), .row 195 (.st .GReduce)] }
abbrev ut:Tm:={ sl:=[(0, .k (.ptr 0 4 0 0)),(1, .k (.ptr 1 8 0 0)),(6, .k (.ptr 2 3 0 0)),(1000000, .k (.ptr 0 4 0 0)),(1000001, .k (.ptr 1 8 0 0))],ob:=[.box [.t (.st .GPensionref5_reader)], .box [.t (.i .i64), .t (.st .GRounding), .k (.row 3 2), .k (.row 4 3), .k (.row 5 7), .k (.row 6 13), .k (.row 7 7)], .box [.t (.st .GIndex)], .row 130 (.st .GCredit), .row 182 (.st .GIndex), .row 189 (.st .GLet), .row 193 (.st .GGrant), .row 195 (.st .GReduce)] }
noncomputable def fQ:FI:={ fid:=165,fn:=Tryz.f165,c:=ai Tryz.f165,ins:={ sl:=[(0, .k (.ptr 0 4 0 0)),(1, .k (.ptr 1 8 0 0)),(1000000, .k (.ptr 0 4 0 0)),(1000001, .k (.ptr 1 8 0 0))],ob:=[.box [.t (.st .GPensionref5_reader)], .box [.t (.i .i64), .t (.st .GRounding), .k (.row 2 2), .k (.row 3 3), .k (.row 4 7), .k (.row 5 13), .k (.row 6 7)], .row 130 (.st .GCredit), .row 182 (.st .GIndex), .row 189 (.st .GLet), .row 193 (.st .GGrant), .row 195 (.st .GReduce)] },out:=.gen ({ sl:=[(1000000, .k (.ptr 0 4 0 0)),(1000001, .k (.ptr 1 8 0 0)),(2000000, .tp [.tp []])],ob:=[.box [.t (.st .GPensionref5_reader)], .box [.t (.i .i64), .t (.st .GRounding), .k (.row 2 2), .k (.row 3 3), .k (.row 4 7), .k (.row 5 13), .k (.row 6 7)], .row 130 (.st .GCredit), .row 182 (.st .GIndex), .row 189 (.st .GLet), .row 193 (.st .GGrant), .row 195 (.st .GReduce)] }),cuts:=[(3,zq),(75,xg),(315,uN),(631,ut)] }
abbrev FQ:Tm:={ sl:=[(0, .k (.ptr 0 4 0 0)),(2, .k (.ptr 1 8 0 0)),(3, .k (.ptr 2 8 0 0)),(1000000, .k (.ptr 0 4 0 0))],ob:=[.box [.t (.st .GPensionref5_reader)], .box [.t (.i .i64), .t (.st .GRounding), .k (.c .nil), .k (.c .nil), .k (.c .nil), .k (.c .nil), .k (.c .nil)], .box [.t (.i .i64), .t (.st .GRounding), .k (.c .nil), .k (.c .nil), .k (.c .nil), .k (.c .nil), .k (.c .nil)]] }
abbrev Ab:Tm:={ sl:=[(0, .k (.ptr 0 4 0 0)),(2, .k (.ptr 1 8 0 0)),(3, .k (.ptr 2 8 0 0)),(1000000, .k (.ptr 0 4 0 0))],ob:=[.box [.t (.st .GPensionref5_reader)], .box [.t (.i .i64), .t (.st .GRounding), .k (.c .nil), .k (.c .nil), .k (.c .nil), .k (.c .nil), .k (.c .nil)], .box [.t (.i .i64), .t (.st .GRounding), .k (.row 3 2), .k (.row 4 3), .k (.row 5 7), .k (.row 6 13), .k (.row 7 7)], .row 130 (.st .GCredit), .row 182 (.st .GIndex), .row 189 (.st .GLet), .row 193 (.st .GGrant), .row 195 (.st .GReduce)] }
noncomputable def f89:FI:={ fid:=89,fn:=Tryz.f89,c:=ai Tryz.f89,ins:={ sl:=[(0, .k (.ptr 0 4 0 0)),(1000000, .k (.ptr 0 4 0 0))],ob:=[.box [.t (.st .GPensionref5_reader)]] },out:=.gen ({ sl:=[(1000000, .k (.ptr 0 4 0 0)),(2000000, .tp [.t (.st .GVersion)])],ob:=[.box [.t (.st .GPensionref5_reader)]] }),cuts:=[(31,FQ),(4092,Ab)] }
noncomputable def f90:FI:={ fid:=90,fn:=Tryz.f90,c:=ai Tryz.f90,ins:={ sl:=[(0, .dp (.st .GPensionref5_reader))] },out:=.new (.t (.i .i64)),cuts:=[] }
noncomputable def f78:FI:={ fid:=78,fn:=Tryz.f78,c:=ai Tryz.f78,ins:={ sl:=[(0, .t (.i .i64))] },out:=.new (.t (.b)),cuts:=[] }
noncomputable def f147:FI:={ fid:=147,fn:=Tryz.f147,c:=ai Tryz.f147,ins:={ sl:=[(0, .t (.st .GRounding))] },out:=.new (.t (.b)),cuts:=[] }
abbrev Cg:Tm:={ sl:=[(0, .t (.i .i64)),(1, .t (.i .i64)),(5, .k (.row 0 1)),(6, .t (.i .i64))],ob:=[.row 9 (.s)] }
noncomputable def f214:FI:={ fid:=214,fn:=Tryz.f214,c:=ai Tryz.f214,ins:={ sl:=[(0, .t (.i .i64)),(1, .t (.i .i64))] },out:=.new (.t (.s)),cuts:=[(58,Cg)] }
noncomputable def f140:FI:={ fid:=140,fn:=Tryz.f140,c:=ai Tryz.f140,ins:={ sl:=[(0, .t (.st .GFraction))] },out:=.new (.t (.b)),cuts:=[] }
abbrev CI:Tm:={ sl:=[(0, .t (.i .i64)),(1, .t (.i .i64)),(5, .t (.s))],ob:=[] }
noncomputable def f290:FI:={ fid:=290,fn:=Tryz.f290,c:=ai Tryz.f290,ins:={ sl:=[(0, .t (.i .i64)),(1, .t (.i .i64))] },out:=.new (.t (.s)),cuts:=[(28,CI)] }
abbrev CT:Tm:={ sl:=[(1, .k (.ptr 0 2 0 0)),(3, .t (.s))],ob:=[.box [.t (.st .GFraction)]] }
noncomputable def f268:FI:={ fid:=268,fn:=Tryz.f268,c:=ai Tryz.f268,ins:={ sl:=[(0, .t (.st .GFraction))] },out:=.new (.t (.s)),cuts:=[(31,CT)] }
abbrev xb:Tm:={ sl:=[(1, .t (.i .i64)),(7, .t (.s)),(8, .t (.i .i64)),(9, .t (.i .i64))],ob:=[] }
noncomputable def f215:FI:={ fid:=215,fn:=Tryz.f215,c:=ai Tryz.f215,ins:={ sl:=[(0, .t (.st .GFraction)),(1, .t (.i .i64))] },out:=.new (.tp [.t (.s), .t (.b)]),cuts:=[(2042,xb)] }
abbrev Cp:Tm:={ sl:=[(1, .k (.ptr 0 6 0 0)),(3, .t (.i .i64)),(4, .t (.i .i64))],ob:=[.box [.t (.i .i64), .t (.st .GFraction), .t (.i .i64), .t (.s), .t (.ls (.st .GExpr))]] }
noncomputable def f218:FI:={ fid:=218,fn:=Tryz.f218,c:=ai Tryz.f218,ins:={ sl:=[(0, .t (.st .GExpr))] },out:=.data (.t (.i .i64)),cuts:=[(58,Cp)] }
abbrev Ck:Tm:={ sl:=[(1, .k (.ptr 0 6 0 0)),(3, .t (.i .i64)),(4, .t (.i .i64))],ob:=[.box [.t (.i .i64), .t (.st .GFraction), .t (.i .i64), .t (.s), .t (.ls (.st .GExpr))]] }
noncomputable def f219:FI:={ fid:=219,fn:=Tryz.f219,c:=ai Tryz.f219,ins:={ sl:=[(0, .t (.st .GExpr))] },out:=.data (.t (.i .i64)),cuts:=[(58,Ck)] }
abbrev zx:Tm:={ sl:=[(1, .k (.ptr 0 6 0 0)),(3, .t (.b)),(6, .t (.i .i64))],ob:=[.box [.t (.i .i64), .t (.st .GFraction), .t (.i .i64), .t (.s), .t (.ls (.st .GExpr))]] }
noncomputable def f220:FI:={ fid:=220,fn:=Tryz.f220,c:=ai Tryz.f220,ins:={ sl:=[(0, .t (.st .GExpr))] },out:=.new (.t (.b)),cuts:=[(250,zx)] }
noncomputable def f170:FI:={ fid:=170,fn:=Tryz.f170,c:=ai Tryz.f170,ins:={ sl:=[(0, .t (.st .GExpr))] },out:=.new (.t (.b)),cuts:=[] }
abbrev B1:Tm:={ sl:=[(1, .k (.ptr 0 8 0 0)),(3, .t (.i .i64))],ob:=[.box [.t (.i .i64), .t (.st .GRounding), .t (.ls (.st .GCredit)), .t (.ls (.st .GIndex)), .t (.ls (.st .GLet)), .t (.ls (.st .GGrant)), .t (.ls (.st .GReduce))]] }
abbrev zW:Tm:={ sl:=[(1, .k (.ptr 0 8 0 0)),(4, .t (.i .i64))],ob:=[.box [.t (.i .i64), .t (.st .GRounding), .t (.ls (.st .GCredit)), .t (.ls (.st .GIndex)), .t (.ls (.st .GLet)), .t (.ls (.st .GGrant)), .t (.ls (.st .GReduce))]] }
abbrev zo:Tm:={ sl:=[(1, .k (.ptr 0 8 0 0)),(7, .t (.i .i64))],ob:=[.box [.t (.i .i64), .t (.st .GRounding), .t (.ls (.st .GCredit)), .t (.ls (.st .GIndex)), .t (.ls (.st .GLet)), .t (.ls (.st .GGrant)), .t (.ls (.st .GReduce))]] }
abbrev zT:Tm:={ sl:=[(1, .k (.ptr 0 8 0 0)),(8, .t (.i .i64))],ob:=[.box [.t (.i .i64), .t (.st .GRounding), .t (.ls (.st .GCredit)), .t (.ls (.st .GIndex)), .t (.ls (.st .GLet)), .t (.ls (.st .GGrant)), .t (.ls (.st .GReduce))]] }
abbrev wR:Tm:={ sl:=[(1, .k (.ptr 0 8 0 0)),(9, .t (.i .i64))],ob:=[.box [.t (.i .i64), .t (.st .GRounding), .t (.ls (.st .GCredit)), .t (.ls (.st .GIndex)), .t (.ls (.st .GLet)), .t (.ls (.st .GGrant)), .t (.ls (.st .GReduce))]] }
noncomputable def f166:FI:={ fid:=166,fn:=Tryz.f166,c:=ai Tryz.f166,ins:={ sl:=[(0, .t (.st .GVersion))] },out:=.new (.t (.b)),cuts:=[(58,B1),(122,zW),(250,zo),(506,zT),(1018,wR)] }
abbrev F8:Tm:={ sl:=[(1, .k (.ptr 0 3 0 0)),(3, .t (.i .i64))],ob:=[.box [.t (.s), .t (.i .i64), .t (.ls (.st .GVersion))]] }
noncomputable def f91:FI:={ fid:=91,fn:=Tryz.f91,c:=ai Tryz.f91,ins:={ sl:=[(0, .t (.st .GStatute))] },out:=.new (.t (.b)),cuts:=[(58,F8)] }
abbrev zk:Tm:={ sl:=[(2, .k (.ptr 0 3 0 0)),(5, .k (.ptr 1 4 0 0)),(8, .k (.ptr 2 3 0 0)),(9, .t (.b))],ob:=[.box [.t (.s), .t (.i .i64), .k (.c .nil)], .box [.t (.st .GPensionref5_reader)], .box [.t (.s), .t (.i .i64), .k (.row 3 8)], .row 107 (.st .GVersion)] }
noncomputable def f36:FI:={ fid:=36,fn:=Tryz.f36,c:=ai Tryz.f36,ins:={ sl:=[(0, .t (.s))] },out:=.data (.tp [.t (.st .GStatute), .t (.i .i64), .t (.i .i64)]),cuts:=[(4090,zk)] }
abbrev JS:Tm:={ sl:=[(0, .t (.ls (.i .i64))),(2, .k (.ptr 0 3 0 0)),(3, .k (.ptr 1 3 0 0)),(4, .t (.i .i64))],ob:=[.box [.k (.c .nil), .k (.c .nil), .k (.c .nil)], .box [.k (.row 2 4), .k (.c .nil), .k (.row 3 4)], .row 97 (.st .GState), .row 89 (.st .GRate)] }
noncomputable def f9:FI:={ fid:=9,fn:=Tryz.f9,c:=ai Tryz.f9,ins:={ sl:=[(0, .t (.ls (.i .i64)))],ob:=[] },out:=.gen ({ sl:=[(2000000, .tp [.ag [.k (.row 0 4), .k (.row 1 5), .k (.row 2 4)]])],ob:=[.row 97 (.st .GState), .row 76 (.st .GRules), .row 89 (.st .GRate)] }),cuts:=[(58,JS)] }
abbrev Di:Tm:={ sl:=[(0, .t (.ls (.st .GRules))),(3, .t (.i .i64))],ob:=[] }
abbrev wZ:Tm:={ sl:=[(0, .t (.ls (.st .GRules))),(3, .t (.i .i64)),(4, .k (.ptr 0 5 0 0)),(5, .t (.i .i64))],ob:=[.box [.t (.st .GRules)]] }
noncomputable def f28:FI:={ fid:=28,fn:=Tryz.f28,c:=ai Tryz.f28,ins:={ sl:=[(0, .t (.ls (.st .GRules)))] },out:=.new (.t (.i .i64)),cuts:=[(122,Di),(31310,wZ)] }
abbrev HX:Tm:={ sl:=[(0, .t (.ls (.st .GFact))),(3, .k (.row 0 14)),(4, .t (.i .i64))],ob:=[.row 61 (.st .GFact)] }
noncomputable def f29:FI:={ fid:=29,fn:=Tryz.f29,c:=ai Tryz.f29,ins:={ sl:=[(0, .t (.ls (.st .GFact)))] },out:=.own true 61 (.st .GFact),cuts:=[(58,HX)] }
abbrev yY:Tm:={ sl:=[(1, .t (.i .i64)),(6, .k (.row 0 14)),(7, .t (.i .i64)),(8, .t (.b)),(9, .t (.i .i64))],ob:=[.row 61 (.st .GFact)] }
noncomputable def f154:FI:={ fid:=154,fn:=Tryz.f154,c:=ai Tryz.f154,ins:={ sl:=[(0, .t (.ls (.st .GFact))),(1, .t (.i .i64))] },out:=.new (.tp [.t (.i .i64), .t (.b)]),cuts:=[(122,yY)] }
noncomputable def f80:FI:={ fid:=80,fn:=Tryz.f80,c:=ai Tryz.f80,ins:={ sl:=[(0, .t (.ls (.st .GFact)))] },out:=.new (.tp [.t (.i .i64), .t (.b)]),cuts:=[] }
noncomputable def f81:FI:={ fid:=81,fn:=Tryz.f81,c:=ai Tryz.f81,ins:={ sl:=[(0, .t (.ls (.st .GFact)))] },out:=.new (.tp [.t (.i .i64), .t (.b)]),cuts:=[] }
noncomputable def f31:FI:={ fid:=31,fn:=Tryz.f31,c:=ai Tryz.f31,ins:={ sl:=[(0, .t (.ls (.st .GFact)))] },out:=.new (.t (.st .GSpan)),cuts:=[] }
noncomputable def f180:FI:={ fid:=180,fn:=Tryz.f180,c:=ai Tryz.f180,ins:={ sl:=[(0, .t (.st .GSpan))] },out:=.new (.tp [.t (.st .GSpan), .t (.b)]),cuts:=[] }
abbrev GA:Tm:={ sl:=[(0, .t (.ls (.i .i64))),(1, .t (.i .i64)),(5, .t (.i .i64))],ob:=[] }
noncomputable def f32:FI:={ fid:=32,fn:=Tryz.f32,c:=ai Tryz.f32,ins:={ sl:=[(0, .t (.ls (.i .i64))),(1, .t (.i .i64))] },out:=.data (.t (.ls (.i .i64))),cuts:=[(28,GA)] }
abbrev BU:Tm:={ sl:=[(0, .t (.ls (.ls (.st .GSpan)))),(3, .t (.ls (.i .i64))),(4, .t (.i .i64))],ob:=[] }
abbrev wk:Tm:={ sl:=[(0, .t (.ls (.ls (.st .GSpan)))),(3, .t (.ls (.i .i64))),(4, .t (.i .i64)),(5, .t (.i .i64))],ob:=[] }
noncomputable def f111:FI:={ fid:=111,fn:=Tryz.f111,c:=ai Tryz.f111,ins:={ sl:=[(0, .t (.ls (.ls (.st .GSpan))))] },out:=.data (.t (.ls (.i .i64))),cuts:=[(58,BU),(3730,wk)] }
abbrev CO:Tm:={ sl:=[(0, .t (.ls (.st .GSpan))),(1, .t (.i .i64)),(5, .t (.i .i64))],ob:=[] }
noncomputable def f112:FI:={ fid:=112,fn:=Tryz.f112,c:=ai Tryz.f112,ins:={ sl:=[(0, .t (.ls (.st .GSpan))),(1, .t (.i .i64))] },out:=.new (.t (.b)),cuts:=[(26,CO)] }
noncomputable def f113:FI:={ fid:=113,fn:=Tryz.f113,c:=ai Tryz.f113,ins:={ sl:=[(0, .t (.ls (.st .GSpan))),(1, .t (.st .GSpan))] },out:=.own true 50 (.st .GSpan),cuts:=[] }
abbrev Dj:Tm:={ sl:=[(0, .t (.ls (.st .GSpan))),(1, .t (.ls (.st .GSpan))),(2, .t (.i .i64)),(7, .t (.ls (.i .i64))),(8, .k (.row 0 2)),(9, .t (.i .i64))],ob:=[.row 50 (.st .GSpan)] }
noncomputable def f55:FI:={ fid:=55,fn:=Tryz.f55,c:=ai Tryz.f55,ins:={ sl:=[(0, .t (.ls (.st .GSpan))),(1, .t (.ls (.st .GSpan))),(2, .t (.i .i64))] },out:=.own true 50 (.st .GSpan),cuts:=[(122,Dj)] }
noncomputable def f18:FI:={ fid:=18,fn:=Tryz.f18,c:=ai Tryz.f18,ins:={ sl:=[(0, .t (.ls (.st .GSpan))),(1, .t (.st .GSpan))] },out:=.own true 50 (.st .GSpan),cuts:=[] }
abbrev Hm:Tm:={ sl:=[(0, .t (.ls (.st .GPosting))),(3, .k (.ptr 0 4 0 0)),(5, .t (.i .i64))],ob:=[.box [.t (.st .GPosting)]] }
noncomputable def f79:FI:={ fid:=79,fn:=Tryz.f79,c:=ai Tryz.f79,ins:={ sl:=[(0, .t (.ls (.st .GPosting))),(1, .t (.st .GPosting))] },out:=.own true 78 (.st .GPosting),cuts:=[(28,Hm)] }
abbrev CR:Tm:={ sl:=[(0, .t (.ls (.st .GFact))),(3, .k (.row 0 14)),(4, .k (.row 1 4)),(5, .t (.i .i64))],ob:=[.row 61 (.st .GFact), .row 78 (.st .GPosting)] }
abbrev zD:Tm:={ sl:=[(0, .t (.ls (.st .GFact))),(3, .k (.row 0 14)),(4, .k (.row 1 4)),(5, .t (.i .i64)),(6, .t (.i .i64))],ob:=[.row 61 (.st .GFact), .row 78 (.st .GPosting)] }
abbrev sk:Tm:={ sl:=[(0, .t (.ls (.st .GFact))),(3, .k (.row 0 14)),(4, .k (.row 1 4)),(5, .t (.i .i64)),(6, .t (.i .i64)),(7, .k (.row 2 2)),(8, .t (.i .i64))],ob:=[.row 61 (.st .GFact), .row 78 (.st .GPosting), .row 50 (.st .GSpan)] }
abbrev sj:Tm:={ sl:=[(0, .t (.ls (.st .GFact))),(3, .k (.row 0 14)),(4, .k (.row 1 4)),(5, .t (.i .i64)),(6, .t (.i .i64)),(7, .k (.row 2 2)),(9, .t (.i .i64))],ob:=[.row 61 (.st .GFact), .row 78 (.st .GPosting), .row 50 (.st .GSpan)] }
noncomputable def f30:FI:={ fid:=30,fn:=Tryz.f30,c:=ai Tryz.f30,ins:={ sl:=[(0, .t (.ls (.st .GFact)))] },out:=.own true 78 (.st .GPosting),cuts:=[(122,CR),(7826,zD),(2003530,sk),(4007070,sj)] }
abbrev Hs:Tm:={ sl:=[(0, .t (.ls (.st .GRules))),(1, .t (.i .i64)),(4, .k (.ptr 0 5 0 0)),(6, .t (.i .i64))],ob:=[.box [.t (.st .GRules)]] }
noncomputable def f33:FI:={ fid:=33,fn:=Tryz.f33,c:=ai Tryz.f33,ins:={ sl:=[(0, .t (.ls (.st .GRules))),(1, .t (.i .i64))] },out:=.new (.tp [.t (.st .GRules), .t (.b)]),cuts:=[(26,Hs)] }
noncomputable def f34:FI:={ fid:=34,fn:=Tryz.f34,c:=ai Tryz.f34,ins:={ sl:=[(0, .t (.st .GSpan)),(1, .t (.i .i64))] },out:=.new (.t (.b)),cuts:=[] }
abbrev Ds:Tm:={ sl:=[(0, .t (.ls (.st .GFact))),(1, .t (.i .i64)),(4, .k (.ptr 0 1 0 0)),(5, .k (.ptr 1 1 0 0)),(6, .t (.i .i64))],ob:=[.row 230 (.i .i64), .row 230 (.i .i64)] }
noncomputable def f155:FI:={ fid:=155,fn:=Tryz.f155,c:=ai Tryz.f155,ins:={ sl:=[(0, .t (.ls (.st .GFact))),(1, .t (.i .i64))] },out:=.new (.t (.arr 6 (.i .i64))),cuts:=[(58,Ds)] }
abbrev CB:Tm:={ sl:=[(0, .t (.ls (.st .GFact))),(1, .t (.i .i64)),(6, .k (.row 0 14)),(7, .t (.i .i64)),(8, .t (.i .i64))],ob:=[.row 61 (.st .GFact)] }
noncomputable def f83:FI:={ fid:=83,fn:=Tryz.f83,c:=ai Tryz.f83,ins:={ sl:=[(0, .t (.ls (.st .GFact))),(1, .t (.i .i64))] },out:=.new (.tp [.t (.i .i64), .t (.b)]),cuts:=[(122,CB)] }
abbrev Dk:Tm:={ sl:=[(0, .t (.ls (.st .GFact))),(1, .t (.i .i64)),(5, .t (.ls (.i .i64))),(6, .t (.i .i64))],ob:=[] }
noncomputable def f156:FI:={ fid:=156,fn:=Tryz.f156,c:=ai Tryz.f156,ins:={ sl:=[(0, .t (.ls (.st .GFact))),(1, .t (.i .i64))] },out:=.data (.t (.ls (.i .i64))),cuts:=[(58,Dk)] }
abbrev Dy:Tm:={ sl:=[(0, .t (.ls (.st .GFact))),(1, .t (.ls (.st .GFact))),(3, .t (.i .i64)),(6, .k (.ptr 0 5 0 0)),(10, .k (.ptr 1 1 0 0)),(11, .t (.i .i64)),(12, .t (.i .i64)),(13, .t (.i .i64)),(14, .t (.i .i64))],ob:=[.box [.t (.st .GRules)], .row 230 (.i .i64)] }
noncomputable def f82:FI:={ fid:=82,fn:=Tryz.f82,c:=ai Tryz.f82,ins:={ sl:=[(0, .t (.ls (.st .GFact))),(1, .t (.ls (.st .GFact))),(2, .t (.st .GRules)),(3, .t (.i .i64))] },out:=.new (.tp [.t (.i .i64), .t (.b)]),cuts:=[(122,Dy)] }
abbrev F0:Tm:={ sl:=[(0, .t (.ls (.st .GFact))),(1, .t (.ls (.st .GFact))),(2, .t (.ls (.st .GPosting))),(4, .t (.i .i64)),(8, .k (.ptr 0 5 0 0)),(12, .t (.i .i64)),(13, .t (.i .i64))],ob:=[.box [.t (.st .GRules)]] }
abbrev C6:Tm:={ sl:=[(0, .t (.ls (.st .GFact))),(1, .t (.ls (.st .GFact))),(4, .t (.i .i64)),(8, .k (.ptr 0 5 0 0)),(12, .t (.i .i64)),(14, .t (.i .i64))],ob:=[.box [.t (.st .GRules)]] }
abbrev zp:Tm:={ sl:=[(0, .t (.ls (.st .GFact))),(1, .t (.ls (.st .GFact))),(4, .t (.i .i64)),(12, .t (.i .i64)),(17, .t (.i .i64))],ob:=[] }
noncomputable def f35:FI:={ fid:=35,fn:=Tryz.f35,c:=ai Tryz.f35,ins:={ sl:=[(0, .t (.ls (.st .GFact))),(1, .t (.ls (.st .GFact))),(2, .t (.ls (.st .GPosting))),(3, .t (.st .GRules)),(4, .t (.i .i64))] },out:=.new (.tp [.t (.i .i64), .t (.i .i64)]),cuts:=[(58,F0),(250,C6),(2042,zp)] }
abbrev HS:Tm:={ sl:=[(0, .t (.ls (.st .GFact))),(1, .t (.ls (.st .GRules))),(5, .k (.row 0 14)),(6, .k (.row 1 4)),(7, .k (.ptr 2 2 0 0)),(8, .t (.ls (.i .i64))),(9, .t (.i .i64))],ob:=[.row 61 (.st .GFact), .row 78 (.st .GPosting), .box [.t (.st .GSpan)]] }
abbrev Ho:Tm:={ sl:=[(0, .t (.ls (.st .GFact))),(1, .t (.ls (.st .GRules))),(5, .k (.row 0 14)),(6, .k (.row 1 4)),(7, .k (.ptr 2 2 0 0)),(8, .t (.ls (.i .i64))),(10, .t (.i .i64))],ob:=[.row 61 (.st .GFact), .row 78 (.st .GPosting), .box [.t (.st .GSpan)]] }
abbrev Dz:Tm:={ sl:=[(0, .t (.ls (.st .GFact))),(1, .t (.ls (.st .GRules))),(5, .k (.row 0 14)),(6, .k (.row 1 4)),(7, .k (.ptr 2 2 0 0)),(8, .t (.ls (.i .i64))),(12, .t (.i .i64))],ob:=[.row 61 (.st .GFact), .row 78 (.st .GPosting), .box [.t (.st .GSpan)]] }
abbrev Cy:Tm:={ sl:=[(0, .t (.ls (.st .GFact))),(1, .t (.ls (.st .GRules))),(5, .k (.row 0 14)),(6, .k (.row 1 4)),(7, .k (.ptr 2 2 0 0)),(8, .t (.ls (.i .i64))),(13, .k (.row 3 4)),(14, .t (.i .i64))],ob:=[.row 61 (.st .GFact), .row 78 (.st .GPosting), .box [.t (.st .GSpan)], .row 85 (.st .GSegment)] }
abbrev zh:Tm:={ sl:=[(0, .t (.ls (.st .GFact))),(1, .t (.ls (.st .GRules))),(5, .k (.row 0 14)),(6, .k (.row 1 4)),(7, .k (.ptr 2 2 0 0)),(8, .t (.ls (.i .i64))),(10, .t (.i .i64)),(11, .t (.i .i64))],ob:=[.row 61 (.st .GFact), .row 78 (.st .GPosting), .box [.t (.st .GSpan)]] }
noncomputable def f8:FI:={ fid:=8,fn:=Tryz.f8,c:=ai Tryz.f8,ins:={ sl:=[(0, .t (.ls (.st .GFact))),(1, .t (.ls (.st .GRules)))] },out:=.own true 85 (.st .GSegment),cuts:=[(250,HS),(506,Ho),(1018,Dz),(4090,Cy),(64806,zh)] }
noncomputable def f95:FI:={ fid:=95,fn:=Tryz.f95,c:=ai Tryz.f95,ins:={ sl:=[(0, .t (.i .i64))] },out:=.new (.t (.s)),cuts:=[] }
abbrev CU:Tm:={ sl:=[(0, .k (.ptr 0 3 0 0)),(1, .t (.i .i64)),(5, .t (.i .i64)),(1000000, .k (.ptr 0 3 0 0))],ob:=[.box [.t (.st .GPensionmade_source)]] }
noncomputable def f216:FI:={ fid:=216,fn:=Tryz.f216,c:=ai Tryz.f216,ins:={ sl:=[(0, .k (.ptr 0 3 0 0)),(1, .t (.i .i64)),(1000000, .k (.ptr 0 3 0 0))],ob:=[.box [.t (.st .GPensionmade_source)]] },out:=.gen ({ sl:=[(1000000, .k (.ptr 0 3 0 0)),(2000000, .tp [.t (.i .i64)])],ob:=[.box [.t (.st .GPensionmade_source)]] }),cuts:=[(15,CU)] }
noncomputable def f270:FI:={ fid:=270,fn:=Tryz.f270,c:=ai Tryz.f270,ins:={ sl:=[] },out:=.own true 9 (.s),cuts:=[] }
abbrev C7:Tm:={ sl:=[(4, .t (.s)),(5, .t (.b))],ob:=[] }
abbrev ze:Tm:={ sl:=[(4, .t (.s)),(9, .t (.b))],ob:=[] }
noncomputable def f271:FI:={ fid:=271,fn:=Tryz.f271,c:=ai Tryz.f271,ins:={ sl:=[(0, .t (.s))] },out:=.new (.tp [.t (.i .i64), .t (.b)]),cuts:=[(53,C7),(215,ze)] }
abbrev Ai:Tm:={ sl:=[(0, .t (.i .i64)),(3, .k (.row 0 1)),(4, .k (.row 1 1)),(5, .t (.i .i64))],ob:=[.row 9 (.s), .row 9 (.s)] }
noncomputable def f221:FI:={ fid:=221,fn:=Tryz.f221,c:=ai Tryz.f221,ins:={ sl:=[(0, .t (.i .i64))] },out:=.own true 9 (.s),cuts:=[(122,Ai)] }
noncomputable def f222:FI:={ fid:=222,fn:=Tryz.f222,c:=ai Tryz.f222,ins:={ sl:=[(0, .k (.ptr 0 3 0 0)),(1000000, .k (.ptr 0 3 0 0))],ob:=[.box [.t (.st .GPensionmade_source)]] },out:=.gen ({ sl:=[(1000000, .k (.ptr 0 3 0 0)),(2000000, .tp [.t (.st .GFraction)])],ob:=[.box [.t (.st .GPensionmade_source)]] }),cuts:=[] }
abbrev tP:Tm:={ sl:=[(0, .k (.ptr 0 3 0 0)),(1, .t (.i .i64)),(2, .k (.row 1 2)),(6, .k (.ptr 2 6 0 0)),(8, .k (.row 3 1)),(9, .t (.i .i64)),(1000000, .k (.ptr 0 3 0 0)),(1000002, .k (.row 1 2))],ob:=[.box [.t (.st .GPensionmade_source)], .row 191 (.st .GBinding), .box [.t (.i .i64), .t (.st .GFraction), .t (.i .i64), .t (.s), .k (.c .nil)], .row 9 (.s)] }
noncomputable def oe:FI:={ fid:=171,fn:=Tryz.f171,c:=ai Tryz.f171,ins:={ sl:=[(0, .k (.ptr 0 3 0 0)),(1, .t (.i .i64)),(2, .k (.row 1 2)),(1000000, .k (.ptr 0 3 0 0)),(1000002, .k (.row 1 2))],ob:=[.box [.t (.st .GPensionmade_source)], .row 191 (.st .GBinding)] },out:=.gen ({ sl:=[(1000000, .k (.ptr 0 3 0 0)),(1000002, .k (.row 1 2)),(2000000, .tp [.t (.st .GExpr)])],ob:=[.box [.t (.st .GPensionmade_source)], .row 191 (.st .GBinding)] }),cuts:=[(250,tP)] }
abbrev xB:Tm:={ sl:=[(0, .k (.ptr 0 3 0 0)),(2, .t (.i .i64)),(3, .k (.row 1 2)),(4, .t (.ls (.i .i64))),(10, .k (.ptr 2 6 0 0)),(11, .k (.ptr 3 6 0 0)),(12, .t (.i .i64)),(1000000, .k (.ptr 0 3 0 0)),(1000003, .k (.row 1 2))],ob:=[.box [.t (.st .GPensionmade_source)], .row 191 (.st .GBinding), .box [.t (.i .i64), .t (.st .GFraction), .t (.i .i64), .t (.s), .k (.c .nil)], .box [.t (.i .i64), .t (.st .GFraction), .t (.i .i64), .t (.s), .k (.row 4 6)], .row 186 (.st .GExpr)] }
noncomputable def oc:FI:={ fid:=217,fn:=Tryz.f217,c:=ai Tryz.f217,ins:={ sl:=[(0, .k (.ptr 0 3 0 0)),(1, .t (.i .i64)),(2, .t (.i .i64)),(3, .k (.row 1 2)),(4, .t (.ls (.i .i64))),(1000000, .k (.ptr 0 3 0 0)),(1000003, .k (.row 1 2))],ob:=[.box [.t (.st .GPensionmade_source)], .row 191 (.st .GBinding)] },out:=.gen ({ sl:=[(1000000, .k (.ptr 0 3 0 0)),(1000003, .k (.row 1 2)),(2000000, .tp [.t (.st .GExpr)])],ob:=[.box [.t (.st .GPensionmade_source)], .row 191 (.st .GBinding)] }),cuts:=[(58,xB)] }
abbrev sA:Tm:={ sl:=[(0, .k (.ptr 0 3 0 0)),(1, .t (.i .i64)),(2, .t (.i .i64)),(3, .k (.row 1 2)),(8, .k (.ptr 2 6 0 0)),(9, .t (.i .i64)),(84, .t (.i .i64)),(85, .t (.b)),(1000000, .k (.ptr 0 3 0 0)),(1000003, .k (.row 1 2))],ob:=[.box [.t (.st .GPensionmade_source)], .row 191 (.st .GBinding), .box [.t (.i .i64), .t (.st .GFraction), .t (.i .i64), .t (.s), .k (.c .nil)]] }
abbrev sL:Tm:={ sl:=[(0, .k (.ptr 0 3 0 0)),(1, .t (.i .i64)),(2, .t (.i .i64)),(3, .k (.row 1 2)),(8, .k (.ptr 2 6 0 0)),(9, .t (.i .i64)),(36, .t (.i .i64)),(37, .t (.b)),(1000000, .k (.ptr 0 3 0 0)),(1000003, .k (.row 1 2))],ob:=[.box [.t (.st .GPensionmade_source)], .row 191 (.st .GBinding), .box [.t (.i .i64), .t (.st .GFraction), .t (.i .i64), .t (.s), .k (.c .nil)]] }
abbrev oQ:Tm:={ sl:=[(0, .k (.ptr 0 3 0 0)),(1, .t (.i .i64)),(2, .t (.i .i64)),(3, .k (.row 1 2)),(8, .k (.ptr 2 6 0 0)),(61, .t (.b)),(1000000, .k (.ptr 0 3 0 0)),(1000003, .k (.row 1 2))],ob:=[.box [.t (.st .GPensionmade_source)], .row 191 (.st .GBinding), .box [.t (.i .i64), .t (.st .GFraction), .t (.i .i64), .t (.s), .k (.c .nil)]] }
noncomputable def i6:FI:={ fid:=169,fn:=Tryz.f169,c:=ai Tryz.f169,ins:={ sl:=[(0, .k (.ptr 0 3 0 0)),(1, .t (.i .i64)),(2, .t (.i .i64)),(3, .k (.row 1 2)),(1000000, .k (.ptr 0 3 0 0)),(1000003, .k (.row 1 2))],ob:=[.box [.t (.st .GPensionmade_source)], .row 191 (.st .GBinding)] },out:=.gen ({ sl:=[(1000000, .k (.ptr 0 3 0 0)),(1000003, .k (.row 1 2)),(2000000, .tp [.t (.st .GExpr)])],ob:=[.box [.t (.st .GPensionmade_source)], .row 191 (.st .GBinding)] }),cuts:=[(1013,sA),(4005,sL),(256383,oQ)] }
noncomputable def xR:FI:={ fid:=96,fn:=Tryz.f96,c:=ai Tryz.f96,ins:={ sl:=[(0, .t (.ls (.i .i64))),(1, .t (.i .i64)),(2, .k (.row 0 2)),(1000002, .k (.row 0 2))],ob:=[.row 191 (.st .GBinding)] },out:=.gen ({ sl:=[(1000002, .k (.row 0 2)),(2000000, .tp [.t (.st .GExpr)])],ob:=[.row 191 (.st .GBinding)] }),cuts:=[] }
noncomputable def xS:FI:={ fid:=97,fn:=Tryz.f97,c:=ai Tryz.f97,ins:={ sl:=[(0, .k (.ptr 0 8 0 0)),(1, .t (.i .i64)),(1000000, .k (.ptr 0 8 0 0))],ob:=[.box [.t (.i .i64), .t (.st .GRounding), .k (.row 1 2), .k (.row 2 3), .k (.row 3 7), .k (.row 4 13), .k (.row 5 7)], .row 130 (.st .GCredit), .row 182 (.st .GIndex), .row 189 (.st .GLet), .row 193 (.st .GGrant), .row 195 (.st .GReduce)] },out:=.gen ({ sl:=[(1000000, .k (.ptr 0 8 0 0)),(2000000, .tp [.tp []])],ob:=[.box [.t (.i .i64), .t (.st .GRounding), .k (.row 1 2), .k (.row 2 3), .k (.row 3 7), .k (.row 4 13), .k (.row 5 7)], .row 130 (.st .GCredit), .row 182 (.st .GIndex), .row 189 (.st .GLet), .row 193 (.st .GGrant), .row 195 (.st .GReduce)] }),cuts:=[] }
abbrev B8:Tm:={ sl:=[(1, .k (.ptr 0 10 0 0)),(2, .k (.ptr 1 8 0 0)),(3, .k (.ptr 2 8 0 0)),(4, .k (.row 3 1)),(5, .t (.i .i64))],ob:=[.box [.t (.st .GPensionmade_Version)], .box [.t (.i .i64), .t (.st .GRounding), .k (.c .nil), .k (.c .nil), .k (.c .nil), .k (.c .nil), .k (.c .nil)], .box [.t (.i .i64), .t (.st .GRounding), .k (.row 4 2), .k (.c .nil), .k (.c .nil), .k (.c .nil), .k (.c .nil)], .row 3 (.i .i64), .row 130 (.st .GCredit)] }
abbrev CG:Tm:={ sl:=[(1, .k (.ptr 0 10 0 0)),(2, .k (.ptr 1 8 0 0)),(3, .k (.ptr 2 8 0 0)),(7, .t (.i .i64))],ob:=[.box [.t (.st .GPensionmade_Version)], .box [.t (.i .i64), .t (.st .GRounding), .k (.c .nil), .k (.c .nil), .k (.c .nil), .k (.c .nil), .k (.c .nil)], .box [.t (.i .i64), .t (.st .GRounding), .k (.row 3 2), .k (.row 4 3), .k (.c .nil), .k (.c .nil), .k (.c .nil)], .row 130 (.st .GCredit), .row 182 (.st .GIndex)] }
abbrev zy:Tm:={ sl:=[(1, .k (.ptr 0 10 0 0)),(2, .k (.ptr 1 8 0 0)),(3, .k (.ptr 2 8 0 0)),(10, .k (.row 3 2)),(11, .t (.i .i64))],ob:=[.box [.t (.st .GPensionmade_Version)], .box [.t (.i .i64), .t (.st .GRounding), .k (.c .nil), .k (.c .nil), .k (.c .nil), .k (.c .nil), .k (.c .nil)], .box [.t (.i .i64), .t (.st .GRounding), .k (.row 4 2), .k (.row 5 3), .k (.row 6 7), .k (.c .nil), .k (.c .nil)], .row 191 (.st .GBinding), .row 130 (.st .GCredit), .row 182 (.st .GIndex), .row 189 (.st .GLet)] }
abbrev zN:Tm:={ sl:=[(1, .k (.ptr 0 10 0 0)),(2, .k (.ptr 1 8 0 0)),(3, .k (.ptr 2 8 0 0)),(10, .k (.row 3 2)),(13, .t (.i .i64))],ob:=[.box [.t (.st .GPensionmade_Version)], .box [.t (.i .i64), .t (.st .GRounding), .k (.c .nil), .k (.c .nil), .k (.c .nil), .k (.c .nil), .k (.c .nil)], .box [.t (.i .i64), .t (.st .GRounding), .k (.row 4 2), .k (.row 5 3), .k (.row 6 7), .k (.row 7 13), .k (.c .nil)], .row 191 (.st .GBinding), .row 130 (.st .GCredit), .row 182 (.st .GIndex), .row 189 (.st .GLet), .row 193 (.st .GGrant)] }
abbrev Ah:Tm:={ sl:=[(1, .k (.ptr 0 10 0 0)),(2, .k (.ptr 1 8 0 0)),(3, .k (.ptr 2 8 0 0)),(10, .k (.row 3 2)),(16, .t (.i .i64))],ob:=[.box [.t (.st .GPensionmade_Version)], .box [.t (.i .i64), .t (.st .GRounding), .k (.c .nil), .k (.c .nil), .k (.c .nil), .k (.c .nil), .k (.c .nil)], .box [.t (.i .i64), .t (.st .GRounding), .k (.row 4 2), .k (.row 5 3), .k (.row 6 7), .k (.row 7 13), .k (.row 8 7)], .row 191 (.st .GBinding), .row 130 (.st .GCredit), .row 182 (.st .GIndex), .row 189 (.st .GLet), .row 193 (.st .GGrant), .row 195 (.st .GReduce)] }
abbrev uM:Tm:={ sl:=[(1, .k (.ptr 0 10 0 0)),(2, .k (.ptr 1 8 0 0)),(3, .k (.ptr 2 8 0 0)),(10, .k (.row 3 2)),(13, .t (.i .i64)),(14, .k (.ptr 4 13 0 0)),(15, .t (.ls (.i .i64)))],ob:=[.box [.t (.st .GPensionmade_Version)], .box [.t (.i .i64), .t (.st .GRounding), .k (.c .nil), .k (.c .nil), .k (.c .nil), .k (.c .nil), .k (.c .nil)], .box [.t (.i .i64), .t (.st .GRounding), .k (.row 5 2), .k (.row 6 3), .k (.row 7 7), .k (.row 8 13), .k (.c .nil)], .row 191 (.st .GBinding), .box [.t (.i .i64), .t (.i .i64), .t (.st .GFraction), .t (.i .i64), .t (.s), .k (.c .nil), .t (.i .i64), .t (.st .GFraction), .t (.i .i64), .t (.s), .t (.ls (.st .GExpr))], .row 130 (.st .GCredit), .row 182 (.st .GIndex), .row 189 (.st .GLet), .row 193 (.st .GGrant)] }
noncomputable def f40:FI:={ fid:=40,fn:=Tryz.f40,c:=ai Tryz.f40,ins:={ sl:=[(0, .t (.st .GPensionmade_Version))] },out:=.data (.t (.st .GVersion)),cuts:=[(122,B8),(250,CG),(1018,zy),(2042,zN),(4090,Ah),(261415,uM)] }
abbrev FY:Tm:={ sl:=[(0, .t (.ls (.st .GPensionmade_Version))),(1, .t (.i .i64)),(5, .k (.row 0 9)),(6, .t (.i .i64))],ob:=[.row 113 (.st .GScheme)] }
noncomputable def f11:FI:={ fid:=11,fn:=Tryz.f11,c:=ai Tryz.f11,ins:={ sl:=[(0, .t (.ls (.st .GPensionmade_Version))),(1, .t (.i .i64))] },out:=.own false 113 (.st .GScheme),cuts:=[(58,FY)] }
noncomputable def f108:FI:={ fid:=108,fn:=Tryz.f108,c:=ai Tryz.f108,ins:={ sl:=[(0, .t (.st .GSpan))] },out:=.new (.t (.st .GSpan)),cuts:=[] }
abbrev Hy:Tm:={ sl:=[(3, .k (.ptr 0 1 0 0)),(10, .t (.ls (.st .GSpan))),(11, .t (.i .i64)),(12, .t (.i .i64))],ob:=[.box [.k (.row 1 2)], .row 50 (.st .GSpan)] }
abbrev DG:Tm:={ sl:=[(6, .k (.row 0 2)),(32, .k (.row 1 2)),(33, .t (.i .i64)),(34, .t (.i .i64))],ob:=[.row 50 (.st .GSpan), .row 50 (.st .GSpan)] }
noncomputable def f54:FI:={ fid:=54,fn:=Tryz.f54,c:=ai Tryz.f54,ins:={ sl:=[(0, .t (.ls (.st .GSpan)))] },out:=.own true 50 (.st .GSpan),cuts:=[(58,Hy),(506,DG)] }
abbrev HM:Tm:={ sl:=[(1, .t (.i .i64)),(2, .t (.i .i64)),(7, .k (.row 0 2)),(10, .t (.ls (.st .GSegment))),(11, .t (.i .i64)),(12, .t (.i .i64))],ob:=[.row 50 (.st .GSpan)] }
noncomputable def f43:FI:={ fid:=43,fn:=Tryz.f43,c:=ai Tryz.f43,ins:={ sl:=[(0, .t (.ls (.st .GSegment))),(1, .t (.i .i64)),(2, .t (.i .i64))] },out:=.own true 50 (.st .GSpan),cuts:=[(58,HM)] }
abbrev Dr:Tm:={ sl:=[(0, .k (.row 0 2)),(1, .k (.row 1 2)),(5, .k (.row 2 2)),(6, .t (.i .i64)),(7, .t (.i .i64))],ob:=[.row 50 (.st .GSpan), .row 50 (.st .GSpan), .row 50 (.st .GSpan)] }
abbrev zf:Tm:={ sl:=[(0, .k (.row 0 2)),(1, .k (.row 1 2)),(5, .k (.row 2 2)),(6, .t (.i .i64)),(7, .t (.i .i64))],ob:=[.row 50 (.st .GSpan), .row 50 (.st .GSpan), .row 50 (.st .GSpan)] }
noncomputable def f98:FI:={ fid:=98,fn:=Tryz.f98,c:=ai Tryz.f98,ins:={ sl:=[(0, .t (.ls (.st .GSpan))),(1, .t (.ls (.st .GSpan)))] },out:=.own true 50 (.st .GSpan),cuts:=[(122,Dr),(3915,zf)] }
noncomputable def f42:FI:={ fid:=42,fn:=Tryz.f42,c:=ai Tryz.f42,ins:={ sl:=[(0, .t (.ls (.st .GSpan))),(1, .t (.st .GSpan))] },out:=.own true 50 (.st .GSpan),cuts:=[] }
noncomputable def f44:FI:={ fid:=44,fn:=Tryz.f44,c:=ai Tryz.f44,ins:={ sl:=[] },out:=.own true 120 (.st .GAnon120),cuts:=[] }
noncomputable def f100:FI:={ fid:=100,fn:=Tryz.f100,c:=ai Tryz.f100,ins:={ sl:=[(0, .t (.st .GCredit)),(1, .dp (.i .i64))] },out:=.new (.t (.b)),cuts:=[] }
abbrev Hw:Tm:={ sl:=[(0, .t (.ls (.st .GCredit))),(1, .fn 100 [.dp (.i .i64)]),(7, .t (.i .i64)),(8, .t (.i .i64))],ob:=[] }
noncomputable def f99:FI:={ fid:=99,fn:=Tryz.f99,c:=ai Tryz.f99,ins:={ sl:=[(0, .t (.ls (.st .GCredit))),(1, .fn 100 [.dp (.i .i64)])] },out:=.new (.t (.i .i64)),cuts:=[(26,Hw)] }
noncomputable def f45:FI:={ fid:=45,fn:=Tryz.f45,c:=ai Tryz.f45,ins:={ sl:=[(0, .t (.st .GVersion)),(1, .t (.i .i64))] },out:=.new (.tp [.t (.i .i64), .t (.b)]),cuts:=[] }
abbrev zF:Tm:={ sl:=[(3, .t (.i .i64)),(6, .t (.b))],ob:=[] }
abbrev wA:Tm:={ sl:=[(3, .t (.i .i64)),(11, .t (.b))],ob:=[] }
abbrev su:Tm:={ sl:=[(3, .t (.i .i64)),(20, .t (.b))],ob:=[] }
noncomputable def f193:FI:={ fid:=193,fn:=Tryz.f193,c:=ai Tryz.f193,ins:={ sl:=[(0, .t (.i .i64))] },out:=.new (.t (.s)),cuts:=[(215,zF),(3455,wA),(221183,su)] }
noncomputable def f196:FI:={ fid:=196,fn:=Tryz.f196,c:=ai Tryz.f196,ins:={ sl:=[(0, .t (.i .i64)),(1, .t (.i .i64)),(2, .t (.i .i64))] },out:=.new (.t (.b)),cuts:=[] }
noncomputable def f302:FI:={ fid:=302,fn:=Tryz.f302,c:=ai Tryz.f302,ins:={ sl:=[(0, .t (.s)),(1, .t (.i .u8))] },out:=.data (.t (.i .i64)),cuts:=[] }
noncomputable def f297:FI:={ fid:=297,fn:=Tryz.f297,c:=ai Tryz.f297,ins:={ sl:=[(0, .t (.s)),(1, .t (.i .u8))] },out:=.new (.t (.i .i64)),cuts:=[] }
noncomputable def f286:FI:={ fid:=286,fn:=Tryz.f286,c:=ai Tryz.f286,ins:={ sl:=[(0, .t (.s)),(1, .t (.s))] },out:=.new (.t (.i .i64)),cuts:=[] }
noncomputable def f257:FI:={ fid:=257,fn:=Tryz.f257,c:=ai Tryz.f257,ins:={ sl:=[(0, .t (.s)),(1, .t (.s))] },out:=.new (.t (.i .i64)),cuts:=[] }
noncomputable def f195:FI:={ fid:=195,fn:=Tryz.f195,c:=ai Tryz.f195,ins:={ sl:=[(0, .t (.s)),(1, .t (.s))] },out:=.new (.t (.b)),cuts:=[] }
noncomputable def f194:FI:={ fid:=194,fn:=Tryz.f194,c:=ai Tryz.f194,ins:={ sl:=[(0, .t (.s)),(1, .dp (.s))] },out:=.new (.t (.b)),cuts:=[] }
noncomputable def f197:FI:={ fid:=197,fn:=Tryz.f197,c:=ai Tryz.f197,ins:={ sl:=[(0, .t (.b)),(1, .t (.i .i64)),(2, .t (.i .i64)),(3, .t (.i .i64))] },out:=.new (.t (.b)),cuts:=[] }
noncomputable def f198:FI:={ fid:=198,fn:=Tryz.f198,c:=ai Tryz.f198,ins:={ sl:=[(0, .t (.st .GSpan))] },out:=.new (.t (.b)),cuts:=[] }
abbrev wE:Tm:={ sl:=[(1, .k (.ptr 0 14 0 0)),(89, .t (.i .i64)),(97, .t (.b))],ob:=[.box [.t (.st .GFact)]] }
noncomputable def f138:FI:={ fid:=138,fn:=Tryz.f138,c:=ai Tryz.f138,ins:={ sl:=[(0, .t (.st .GFact))] },out:=.new (.t (.b)),cuts:=[(2007,wE)] }
noncomputable def f101:FI:={ fid:=101,fn:=Tryz.f101,c:=ai Tryz.f101,ins:={ sl:=[(0, .t (.st .GFact))] },out:=.new (.t (.b)),cuts:=[] }
abbrev C9:Tm:={ sl:=[(1, .t (.i .i64)),(6, .t (.i .i64)),(7, .t (.b)),(10, .t (.ls (.st .GFact))),(11, .t (.i .i64)),(12, .t (.i .i64))],ob:=[] }
noncomputable def f223:FI:={ fid:=223,fn:=Tryz.f223,c:=ai Tryz.f223,ins:={ sl:=[(0, .t (.ls (.st .GFact))),(1, .t (.i .i64))] },out:=.new (.tp [.t (.i .i64), .t (.b)]),cuts:=[(58,C9)] }
noncomputable def f172:FI:={ fid:=172,fn:=Tryz.f172,c:=ai Tryz.f172,ins:={ sl:=[(0, .t (.ls (.st .GFact)))] },out:=.new (.tp [.t (.i .i64), .t (.b)]),cuts:=[] }
noncomputable def f173:FI:={ fid:=173,fn:=Tryz.f173,c:=ai Tryz.f173,ins:={ sl:=[(0, .t (.ls (.st .GFact)))] },out:=.new (.tp [.t (.i .i64), .t (.b)]),cuts:=[] }
noncomputable def f102:FI:={ fid:=102,fn:=Tryz.f102,c:=ai Tryz.f102,ins:={ sl:=[(0, .t (.ls (.st .GFact)))] },out:=.new (.t (.st .GSpan)),cuts:=[] }
abbrev GF:Tm:={ sl:=[(0, .t (.ls (.st .GFact))),(1, .t (.i .i64)),(2, .t (.i .i64)),(7, .k (.row 0 2)),(10, .t (.ls (.st .GFact))),(11, .t (.i .i64)),(12, .t (.i .i64))],ob:=[.row 50 (.st .GSpan)] }
noncomputable def f46:FI:={ fid:=46,fn:=Tryz.f46,c:=ai Tryz.f46,ins:={ sl:=[(0, .t (.ls (.st .GFact))),(1, .t (.i .i64)),(2, .t (.i .i64))] },out:=.own true 50 (.st .GSpan),cuts:=[(58,GF)] }
abbrev DL:Tm:={ sl:=[(1, .fn 101 []),(5, .k (.row 0 14)),(8, .t (.ls (.st .GFact))),(9, .t (.i .i64)),(10, .t (.i .i64))],ob:=[.row 61 (.st .GFact)] }
noncomputable def f174:FI:={ fid:=174,fn:=Tryz.f174,c:=ai Tryz.f174,ins:={ sl:=[(0, .t (.ls (.st .GFact))),(1, .fn 101 [])] },out:=.own true 61 (.st .GFact),cuts:=[(58,DL)] }
noncomputable def f103:FI:={ fid:=103,fn:=Tryz.f103,c:=ai Tryz.f103,ins:={ sl:=[(0, .t (.ls (.st .GFact)))] },out:=.own true 61 (.st .GFact),cuts:=[] }
abbrev Ge:Tm:={ sl:=[(1, .t (.i .i64)),(5, .k (.row 0 2)),(9, .k (.row 1 2)),(10, .t (.i .i64)),(11, .t (.i .i64))],ob:=[.row 50 (.st .GSpan), .row 50 (.st .GSpan)] }
abbrev wN:Tm:={ sl:=[(1, .t (.i .i64)),(5, .k (.row 0 2)),(7, .k (.ptr 1 2 0 0)),(9, .k (.row 2 2)),(10, .t (.i .i64)),(11, .t (.i .i64))],ob:=[.row 50 (.st .GSpan), .box [.t (.st .GSpan)], .row 50 (.st .GSpan)] }
noncomputable def f48:FI:={ fid:=48,fn:=Tryz.f48,c:=ai Tryz.f48,ins:={ sl:=[(0, .t (.ls (.st .GSpan))),(1, .t (.i .i64))] },out:=.own true 50 (.st .GSpan),cuts:=[(58,Ge),(14951,wN)] }
abbrev HJ:Tm:={ sl:=[(0, .t (.ls (.st .GFact))),(1, .t (.i .i64)),(3, .t (.i .i64)),(6, .k (.ptr 0 2 0 0)),(9, .k (.row 1 2)),(10, .t (.i .i64))],ob:=[.box [.t (.st .GSpan)], .row 50 (.st .GSpan)] }
abbrev vZ:Tm:={ sl:=[(0, .t (.ls (.st .GFact))),(1, .t (.i .i64)),(3, .t (.i .i64)),(6, .k (.ptr 0 2 0 0)),(9, .k (.row 1 2)),(10, .t (.i .i64)),(11, .k (.row 2 2)),(19, .k (.row 3 14)),(20, .t (.i .i64)),(21, .t (.i .i64))],ob:=[.box [.t (.st .GSpan)], .row 50 (.st .GSpan), .row 50 (.st .GSpan), .row 61 (.st .GFact)] }
noncomputable def f47:FI:={ fid:=47,fn:=Tryz.f47,c:=ai Tryz.f47,ins:={ sl:=[(0, .t (.ls (.st .GFact))),(1, .t (.i .i64)),(2, .t (.st .GSpan)),(3, .t (.i .i64))] },out:=.own true 50 (.st .GSpan),cuts:=[(58,HJ),(14922,vZ)] }
abbrev Cm:Tm:={ sl:=[(0, .t (.i .i64)),(2, .k (.ptr 0 1 0 0)),(3, .k (.ptr 1 9 0 0)),(8, .t (.ls (.st .GSpan))),(9, .t (.i .i64)),(10, .t (.i .i64)),(1000002, .k (.ptr 0 1 0 0)),(1000003, .k (.ptr 1 9 0 0))],ob:=[.box [.k (.row 2 4)], .box [.t (.i .i64), .t (.i .i64), .t (.i .i64), .t (.i .i64), .t (.ls (.st .GCredit)), .t (.ls (.st .GIndex)), .t (.ls (.st .GLet)), .t (.ls (.st .GGrant)), .t (.ls (.st .GReduce))], .row 115 (.st .GPeriod)] }
noncomputable def rM:FI:={ fid:=41,fn:=Tryz.f41,c:=ai Tryz.f41,ins:={ sl:=[(0, .t (.i .i64)),(1, .t (.ls (.st .GSpan))),(2, .k (.ptr 0 1 0 0)),(3, .k (.ptr 1 9 0 0)),(1000002, .k (.ptr 0 1 0 0)),(1000003, .k (.ptr 1 9 0 0))],ob:=[.box [.k (.row 2 4)], .box [.t (.i .i64), .t (.i .i64), .t (.st .GRounding), .t (.ls (.st .GCredit)), .t (.ls (.st .GIndex)), .t (.ls (.st .GLet)), .t (.ls (.st .GGrant)), .t (.ls (.st .GReduce))], .row 115 (.st .GPeriod)] },out:=.gen ({ sl:=[(1000002, .k (.ptr 0 1 0 0)),(1000003, .k (.ptr 1 9 0 0)),(2000000, .tp [.tp []])],ob:=[.box [.k (.row 2 4)], .box [.t (.i .i64), .t (.i .i64), .t (.st .GRounding), .t (.ls (.st .GCredit)), .t (.ls (.st .GIndex)), .t (.ls (.st .GLet)), .t (.ls (.st .GGrant)), .t (.ls (.st .GReduce))], .row 115 (.st .GPeriod)] }),cuts:=[(6,Cm)] }
abbrev Hn:Tm:={ sl:=[(0, .t (.ls (.st .GFact))),(1, .t (.ls (.st .GSegment))),(2, .t (.ls (.st .GScheme))),(3, .t (.i .i64)),(28, .t (.ls (.st .GScheme))),(29, .t (.i .i64)),(30, .t (.i .i64))],ob:=[] }
abbrev Cv:Tm:={ sl:=[(0, .t (.ls (.st .GFact))),(1, .t (.ls (.st .GSegment))),(12, .k (.ptr 0 1 0 0)),(13, .k (.ptr 1 2 0 0)),(61, .t (.ls (.st .GScheme))),(62, .t (.i .i64)),(63, .t (.i .i64))],ob:=[.box [.k (.row 2 4)], .box [.t (.st .GSpan)], .row 115 (.st .GPeriod)] }
abbrev uE:Tm:={ sl:=[(0, .t (.ls (.st .GFact))),(1, .t (.ls (.st .GSegment))),(12, .k (.ptr 0 1 0 0)),(13, .k (.ptr 1 2 0 0)),(15, .k (.ptr 2 9 0 0)),(16, .fn 41 [.k (.ptr 0 1 0 0), .k (.ptr 2 9 0 0)]),(61, .t (.ls (.st .GScheme))),(62, .t (.i .i64)),(63, .t (.i .i64)),(76, .k (.row 3 2)),(77, .t (.i .i64)),(78, .t (.i .i64))],ob:=[.box [.k (.row 4 4)], .box [.t (.st .GSpan)], .box [.t (.i .i64), .t (.i .i64), .t (.st .GRounding), .t (.ls (.st .GCredit)), .t (.ls (.st .GIndex)), .t (.ls (.st .GLet)), .t (.ls (.st .GGrant)), .t (.ls (.st .GReduce))], .row 120 (.st .GAnon120), .row 115 (.st .GPeriod)] }
abbrev oX:Tm:={ sl:=[(0, .t (.ls (.st .GFact))),(1, .t (.ls (.st .GSegment))),(12, .k (.ptr 0 1 0 0)),(13, .k (.ptr 1 2 0 0)),(15, .k (.ptr 2 9 0 0)),(16, .fn 41 [.k (.ptr 0 1 0 0), .k (.ptr 2 9 0 0)]),(18, .k (.ptr 3 2 0 0)),(21, .k (.row 4 2)),(61, .t (.ls (.st .GScheme))),(62, .t (.i .i64)),(63, .t (.i .i64)),(76, .k (.row 5 2)),(77, .t (.i .i64)),(78, .t (.i .i64))],ob:=[.box [.k (.row 6 4)], .box [.t (.st .GSpan)], .box [.t (.i .i64), .t (.i .i64), .t (.st .GRounding), .t (.ls (.st .GCredit)), .t (.ls (.st .GIndex)), .t (.ls (.st .GLet)), .t (.ls (.st .GGrant)), .t (.ls (.st .GReduce))], .box [.t (.st .GAnon120)], .row 50 (.st .GSpan), .row 120 (.st .GAnon120), .row 115 (.st .GPeriod)] }
noncomputable def f12:FI:={ fid:=12,fn:=Tryz.f12,c:=ai Tryz.f12,ins:={ sl:=[(0, .t (.ls (.st .GFact))),(1, .t (.ls (.st .GSegment))),(2, .t (.ls (.st .GScheme))),(3, .t (.i .i64))] },out:=.new (.tp [.t (.ls (.st .GPeriod)), .t (.i .i64)]),cuts:=[(58,Hn),(506,Cv),(518558,uE),(531003807,oX)] }
noncomputable def f105:FI:={ fid:=105,fn:=Tryz.f105,c:=ai Tryz.f105,ins:={ sl:=[(0, .t (.ls (.st .GSpan)))] },out:=.own true 50 (.st .GSpan),cuts:=[] }
abbrev OR:Tm:={ sl:=[(0, .t (.ls (.st .GSegment))),(1, .t (.i .i64)),(2, .t (.i .i64)),(7, .k (.row 0 2)),(8, .t (.i .i64))],ob:=[.row 50 (.st .GSpan)] }
noncomputable def f50:FI:={ fid:=50,fn:=Tryz.f50,c:=ai Tryz.f50,ins:={ sl:=[(0, .t (.ls (.st .GSegment))),(1, .t (.i .i64)),(2, .t (.i .i64))] },out:=.own true 50 (.st .GSpan),cuts:=[(58,OR)] }
abbrev MH:Tm:={ sl:=[(1, .t (.i .i64)),(5, .k (.row 0 2)),(6, .k (.row 1 2)),(7, .t (.i .i64))],ob:=[.row 50 (.st .GSpan), .row 50 (.st .GSpan)] }
noncomputable def f104:FI:={ fid:=104,fn:=Tryz.f104,c:=ai Tryz.f104,ins:={ sl:=[(0, .t (.ls (.st .GSpan))),(1, .t (.i .i64))] },out:=.own true 50 (.st .GSpan),cuts:=[(122,MH)] }
noncomputable def f49:FI:={ fid:=49,fn:=Tryz.f49,c:=ai Tryz.f49,ins:={ sl:=[(0, .t (.ls (.st .GSpan))),(1, .t (.i .i64)),(2, .t (.i .i64))] },out:=.own true 50 (.st .GSpan),cuts:=[] }
noncomputable def f106:FI:={ fid:=106,fn:=Tryz.f106,c:=ai Tryz.f106,ins:={ sl:=[(0, .t (.i .i64))] },out:=.new (.t (.i .i64)),cuts:=[] }
abbrev O0:Tm:={ sl:=[(0, .t (.i .i64)),(3, .t (.i .i64))],ob:=[] }
noncomputable def f52:FI:={ fid:=52,fn:=Tryz.f52,c:=ai Tryz.f52,ins:={ sl:=[(0, .t (.i .i64))] },out:=.new (.t (.i .i64)),cuts:=[(26,O0)] }
abbrev OK:Tm:={ sl:=[(1, .t (.i .i64)),(2, .k (.ptr 0 8 0 0)),(6, .t (.i .i64))],ob:=[.box [.t (.i .i64), .t (.st .GRounding), .t (.ls (.st .GCredit)), .t (.ls (.st .GIndex)), .t (.ls (.st .GLet)), .t (.ls (.st .GGrant)), .t (.ls (.st .GReduce))]] }
noncomputable def f51:FI:={ fid:=51,fn:=Tryz.f51,c:=ai Tryz.f51,ins:={ sl:=[(0, .t (.st .GVersion)),(1, .t (.i .i64))] },out:=.new (.tp [.t (.i .i64), .t (.b)]),cuts:=[(26,OK)] }
abbrev Mj:Tm:={ sl:=[(0, .t (.ls (.st .GFact))),(1, .t (.i .i64)),(2, .t (.i .i64)),(7, .k (.row 0 14)),(8, .k (.row 1 2)),(9, .t (.i .i64))],ob:=[.row 61 (.st .GFact), .row 50 (.st .GSpan)] }
noncomputable def f107:FI:={ fid:=107,fn:=Tryz.f107,c:=ai Tryz.f107,ins:={ sl:=[(0, .t (.ls (.st .GFact))),(1, .t (.i .i64)),(2, .t (.i .i64))] },out:=.own true 50 (.st .GSpan),cuts:=[(122,Mj)] }
abbrev NI:Tm:={ sl:=[(0, .t (.ls (.st .GFact))),(2, .t (.i .i64)),(3, .t (.i .i64)),(4, .t (.i .i64)),(11, .k (.row 0 14)),(12, .k (.row 1 2)),(13, .t (.i .i64))],ob:=[.row 61 (.st .GFact), .row 50 (.st .GSpan)] }
abbrev LW:Tm:={ sl:=[(0, .t (.ls (.st .GFact))),(2, .t (.i .i64)),(3, .t (.i .i64)),(4, .t (.i .i64)),(11, .k (.row 0 14)),(12, .k (.row 1 2)),(13, .t (.i .i64)),(14, .k (.row 2 2)),(15, .t (.i .i64))],ob:=[.row 61 (.st .GFact), .row 50 (.st .GSpan), .row 50 (.st .GSpan)] }
noncomputable def f53:FI:={ fid:=53,fn:=Tryz.f53,c:=ai Tryz.f53,ins:={ sl:=[(0, .t (.ls (.st .GFact))),(1, .t (.i .i64)),(2, .t (.i .i64)),(3, .t (.i .i64)),(4, .t (.i .i64))] },out:=.own true 50 (.st .GSpan),cuts:=[(250,NI),(64074,LW)] }
abbrev Oo:Tm:={ sl:=[(0, .t (.ls (.st .GFact))),(1, .t (.ls (.st .GSegment))),(2, .t (.ls (.st .GScheme))),(3, .t (.i .i64)),(10, .t (.i .i64))],ob:=[] }
abbrev NP:Tm:={ sl:=[(0, .t (.ls (.st .GFact))),(1, .t (.ls (.st .GSegment))),(2, .t (.ls (.st .GScheme))),(3, .t (.i .i64)),(12, .k (.row 0 4)),(13, .t (.i .i64))],ob:=[.row 115 (.st .GPeriod)] }
abbrev KT:Tm:={ sl:=[(0, .t (.ls (.st .GFact))),(1, .t (.ls (.st .GSegment))),(2, .t (.ls (.st .GScheme))),(3, .t (.i .i64)),(12, .k (.row 0 4)),(13, .t (.i .i64)),(14, .t (.i .i64)),(15, .t (.i .i64))],ob:=[.row 115 (.st .GPeriod)] }
abbrev IO:Tm:={ sl:=[(0, .t (.ls (.st .GFact))),(1, .t (.ls (.st .GSegment))),(2, .t (.ls (.st .GScheme))),(3, .t (.i .i64)),(12, .k (.row 0 4)),(13, .t (.i .i64)),(14, .t (.i .i64)),(15, .t (.i .i64)),(16, .k (.row 1 2)),(19, .t (.i .i64))],ob:=[.row 115 (.st .GPeriod), .row 50 (.st .GSpan)] }
noncomputable def f13:FI:={ fid:=13,fn:=Tryz.f13,c:=ai Tryz.f13,ins:={ sl:=[(0, .t (.ls (.st .GFact))),(1, .t (.ls (.st .GSegment))),(2, .t (.ls (.st .GScheme))),(3, .t (.i .i64))] },out:=.new (.tp [.t (.ls (.st .GPeriod)), .t (.i .i64)]),cuts:=[(58,Oo),(250,NP),(32038,KT),(8201806,IO)] }
noncomputable def f14:FI:={ fid:=14,fn:=Tryz.f14,c:=ai Tryz.f14,ins:={ sl:=[] },out:=.new (.t (.b)),cuts:=[] }
abbrev O4:Tm:={ sl:=[(0, .t (.ls (.st .GPeriod))),(1, .t (.ls (.st .GPeriod))),(5, .t (.i .i64))],ob:=[] }
noncomputable def f15:FI:={ fid:=15,fn:=Tryz.f15,c:=ai Tryz.f15,ins:={ sl:=[(0, .t (.ls (.st .GPeriod))),(1, .t (.ls (.st .GPeriod)))] },out:=.new (.t (.b)),cuts:=[(58,O4)] }
abbrev Pd:Tm:={ sl:=[(2, .t (.ls (.st .GPensionmade_Version))),(3, .t (.i .i64)),(4, .t (.i .i64)),(11, .k (.row 0 14)),(12, .k (.row 1 4))],ob:=[.row 61 (.st .GFact), .row 85 (.st .GSegment)] }
noncomputable def f3:FI:={ fid:=3,fn:=Tryz.f3,c:=ai Tryz.f3,ins:={ sl:=[(0, .t (.ls (.st .GPensionhand_Fact))),(1, .t (.ls (.i .i64))),(2, .t (.ls (.st .GPensionmade_Version))),(3, .t (.i .i64)),(4, .t (.i .i64))] },out:=.new (.t (.b)),cuts:=[(63,Pd)] }
abbrev F5:Tm:={ sl:=[(1, .t (.i .i64)),(2, .t (.i .i64)),(7, .k (.row 0 2)),(10, .t (.ls (.st .GPeriod))),(11, .t (.i .i64)),(12, .t (.i .i64))],ob:=[.row 50 (.st .GSpan)] }
noncomputable def f16:FI:={ fid:=16,fn:=Tryz.f16,c:=ai Tryz.f16,ins:={ sl:=[(0, .t (.ls (.st .GPeriod))),(1, .t (.i .i64)),(2, .t (.i .i64))] },out:=.own true 50 (.st .GSpan),cuts:=[(58,F5)] }
abbrev FN:Tm:={ sl:=[(0, .t (.ls (.st .GSpan))),(1, .t (.ls (.st .GSpan))),(5, .t (.i .i64))],ob:=[] }
noncomputable def f17:FI:={ fid:=17,fn:=Tryz.f17,c:=ai Tryz.f17,ins:={ sl:=[(0, .t (.ls (.st .GSpan))),(1, .t (.ls (.st .GSpan)))] },out:=.new (.t (.b)),cuts:=[(58,FN)] }
abbrev HN:Tm:={ sl:=[(2, .t (.ls (.st .GPensionmade_Version))),(3, .t (.i .i64)),(4, .t (.i .i64)),(5, .t (.i .i64)),(6, .t (.i .i64)),(15, .k (.row 0 14)),(16, .k (.row 1 4))],ob:=[.row 61 (.st .GFact), .row 85 (.st .GSegment)] }
noncomputable def f4:FI:={ fid:=4,fn:=Tryz.f4,c:=ai Tryz.f4,ins:={ sl:=[(0, .t (.ls (.st .GPensionhand_Fact))),(1, .t (.ls (.i .i64))),(2, .t (.ls (.st .GPensionmade_Version))),(3, .t (.i .i64)),(4, .t (.i .i64)),(5, .t (.i .i64)),(6, .t (.i .i64))] },out:=.new (.t (.b)),cuts:=[(127,HN)] }
noncomputable def Mt:XT→HP f302.ins.tys→Option (HP f302.out.tys):=fun _ (a:ByteArray × Int)=>some (Go.firstIdx a.1 a.2.toNat.toUInt8)
noncomputable def Tb:iQ:={ P:=Tryz.prog,fs:=[(10,[f10]),(38,[f38]),(39,[f39]),(26,[f26]),(25,[f25]),(74,[f74]),(203,[f203]),(152,[f152]),(75,[f75]),(76,[f76]),(204,[ot,f204]),(153,[f153]),(77,[f77]),(27,[f27]),(73,[f73]),(24,[f24]),(7,[f7]),(92,[f92]),(167,[f167]),(93,[f93]),(37,[f37]),(259,[f259]),(260,[f260]),(262,[f262]),(261,[f261]),(208,[f208]),(264,[f264]),(258,[f258]),(201,[f201]),(144,[f144]),(265,[f265]),(209,[f209]),(263,[f263]),(205,[f205]),(157,[f157]),(84,[f84]),(162,[f162]),(88,[f88]),(158,[f158]),(85,[f85]),(159,[f159]),(206,[f206]),(207,[f207]),(160,[f160]),(86,[f86]),(149,[f149]),(234,[f234]),(256,[f256]),(192,[f192]),(202,[f202]),(199,[f199]),(168,[f168]),(94,[f94]),(161,[f161]),(87,[f87]),(163,[f163]),(210,[f210]),(211,[f211]),(212,[f212]),(164,[f164]),(269,[f269]),(287,[f287]),(266,[f266]),(288,[f288]),(289,[f289]),(267,[f267]),(213,[f213]),(165,[fQ]),(89,[f89]),(90,[f90]),(78,[f78]),(147,[f147]),(214,[f214]),(140,[f140]),(290,[f290]),(268,[f268]),(215,[f215]),(218,[f218]),(219,[f219]),(220,[f220]),(170,[f170]),(166,[f166]),(91,[f91]),(36,[f36]),(9,[f9]),(28,[f28]),(29,[f29]),(154,[f154]),(80,[f80]),(81,[f81]),(31,[f31]),(180,[f180]),(32,[f32]),(111,[f111]),(112,[f112]),(113,[f113]),(55,[f55]),(18,[f18]),(79,[f79]),(30,[f30]),(33,[f33]),(34,[f34]),(155,[f155]),(83,[f83]),(156,[f156]),(82,[f82]),(35,[f35]),(8,[f8]),(95,[f95]),(216,[f216]),(270,[f270]),(271,[f271]),(221,[f221]),(222,[f222]),(171,[oe]),(217,[oc]),(169,[i6]),(96,[xR]),(97,[xS]),(40,[f40]),(11,[f11]),(108,[f108]),(54,[f54]),(43,[f43]),(98,[f98]),(42,[f42]),(44,[f44]),(100,[f100]),(99,[f99]),(45,[f45]),(193,[f193]),(196,[f196]),(297,[f297]),(286,[f286]),(257,[f257]),(195,[f195]),(194,[f194]),(197,[f197]),(198,[f198]),(138,[f138]),(101,[f101]),(223,[f223]),(172,[f172]),(173,[f173]),(102,[f102]),(46,[f46]),(174,[f174]),(103,[f103]),(48,[f48]),(47,[f47]),(41,[rM]),(12,[f12]),(105,[f105]),(50,[f50]),(104,[f104]),(49,[f49]),(106,[f106]),(52,[f52]),(51,[f51]),(107,[f107]),(53,[f53]),(13,[f13]),(14,[f14]),(15,[f15]),(3,[f3]),(16,[f16]),(17,[f17]),(4,[f4])],sp:=(fun f=>(bif Nat.beq f 302 then .hand f302 Mt else (bif Nat.beq f 109 then .mut (fun _=>pt 45 110 50 (.st .GSpan) fm) else .none))) }
theorem aj:gG Tb:=⟨fun f=>(.cnd (.h _) (.cnd (.m _) trivial))⟩
noncomputable def qT (t0:ByteArray) (t1:Int):Option Int:=Mt (Xc Tb) (t0,t1)
noncomputable def bK (n:Int) (k:Int):Option Int:=Xf Tb f10 1 f10.ins (n,k)
noncomputable def am (n:Int) (m:Int):Option Int:=Xf Tb f38 1 f38.ins (n,m)
noncomputable def az (n:List Int) (i:Int):Option Int:=Xf Tb f39 1 f39.ins (n,i)
noncomputable def po (n:List Int):Option (List GFact):=Xf Tb f26 1 f26.ins n
noncomputable def ku (n:List Int) (p:Int) (out:List GFact):Option (List GFact):=Xf Tb f26 58 Gd (n,p,out)
noncomputable def uw (l:List GFact) (person:Int):Option (List GFact):=Xf Tb f25 1 f25.ins (l,person)
noncomputable def et (l:List GFact) (person:Int) (i:Int) (out:List GFact):Option (List GFact):=Xf Tb f25 58 GY (l,person,i,out)
noncomputable def kC (kind:Int):Option ByteArray:=Xf Tb f74 1 f74.ins kind
noncomputable def uJ (kind:Int) (c:Int):Option Bool:=Xf Tb f203 1 f203.ins (kind,c)
noncomputable def dU (c:Int) (s:ByteArray) (i:Int):Option Bool:=Xf Tb f203 58 DC (c,s,i)
noncomputable def bQ (kind:Int) (c:Int) (n:Int) (least:Int) (most:Int):Option Bool:=Xf Tb f152 1 f152.ins (kind,c,n,least,most)
noncomputable def gn (f:GFact):Option Bool:=Xf Tb f75 1 f75.ins f
noncomputable def nk (a:GFact) (b:GFact):Option Int:=Xf Tb f76 1 f76.ins (a,b)
noncomputable def aW (n:Int) (size:Int) (b:List Int):Option (List Int):=Xf Tb ot 1 ot.ins (n,size,b)
noncomputable def iJ (n:Int) (i:Int) (b:List Int):Option (List Int):=Xf Tb ot 26 wl (n,i,b)
noncomputable def nG (f:GFact):Option (List Int):=Xf Tb f153 1 f153.ins f
noncomputable def jF (gone:Int) (f:GFact):Option (List Int):=Xf Tb f153 31 CJ (gone,f)
noncomputable def gE (s:ByteArray) (i:Int) (f:GFact) (b:List Int):Option (List Int):=Xf Tb f153 1018 ww (s,i,f,b)
noncomputable def bN (s:ByteArray) (i:Int) (f:GFact) (b:List Int):Option (List Int):=Xf Tb f153 8147 wd (s,i,f,b)
noncomputable def lW (a:GFact) (b:GFact):Option Bool:=Xf Tb f77 1 f77.ins (a,b)
noncomputable def jh (a:List GFact) (b:List GFact):Option (List GFact):=Xf Tb f27 1 f27.ins (a,b)
noncomputable def aO (a:List GFact) (b:List GFact) (i:Int) (out:List GFact):Option (List GFact):=Xf Tb f27 58 Gf (a,b,i,out)
noncomputable def gM (a:List GFact) (b:List GFact) (i:Int) (out:List GFact) (f:GFact):Option (List GFact):=Xf Tb f27 3731 zO (a,b,i,out,f)
noncomputable def fZ (a:List GFact) (b:List GFact) (i:Int) (xat:Int) (out:List GFact) (f:GFact):Option (List GFact):=Xf Tb f27 59708 wQ (a,b,i,xat,out,f)
noncomputable def sf (n:Int):Option Int:=Xf Tb f73 1 f73.ins n
noncomputable def wB (r:GPensionhand_Fact):Option GFact:=Xf Tb f24 1 f24.ins r
noncomputable def fa (xfrom:Int) (to:Int) (r:GPensionhand_Fact) (t2:GFact) (f:GFact):Option GFact:=Xf Tb f24 127 Df (xfrom,to,r,t2,f)
noncomputable def jB (xfrom:Int) (to:Int) (u:ByteArray) (i:Int) (r:GPensionhand_Fact) (t2:GFact) (f:GFact):Option GFact:=Xf Tb f24 2042 zm (xfrom,to,u,i,r,t2,f)
noncomputable def bE (xfrom:Int) (to:Int) (u:ByteArray) (i:Int) (r:GPensionhand_Fact) (t2:GFact) (f:GFact):Option GFact:=Xf Tb f24 16339 wi (xfrom,to,u,i,r,t2,f)
noncomputable def qR (l:List GPensionhand_Fact) (n:List Int):Option (List GFact):=Xf Tb f7 1 f7.ins (l,n)
noncomputable def iz (l:List GPensionhand_Fact) (n:List Int) (i:Int) (out:List GFact):Option (List GFact):=Xf Tb f7 58 Kq (l,n,i,out)
noncomputable def fW (l:List GPensionhand_Fact) (n:List Int) (i:Int) (out:List GFact) (r:GPensionhand_Fact):Option (List GFact):=Xf Tb f7 7463 B9 (l,n,i,out,r)
noncomputable def bj (n:Int):Option ByteArray:=Xf Tb f92 1 f92.ins n
noncomputable def jE (n:Int) (s:ByteArray):Option ByteArray:=Xf Tb f92 28 H4 (n,s)
noncomputable def en (n:Int):Option ByteArray:=Xf Tb f167 1 f167.ins n
noncomputable def jT (xfrom:ByteArray) (n:List Int) (xat:Int):Option ByteArray:=Xf Tb f93 1 f93.ins (xfrom,n,xat)
noncomputable def dS (n:List Int) (xat:Int) (years:ByteArray) (s:ByteArray):Option ByteArray:=Xf Tb f93 31 Hf (n,xat,years,s)
noncomputable def gA (n:List Int) (xat:Int) (years:ByteArray) (s:ByteArray):Option ByteArray:=Xf Tb f93 127 Co (n,xat,years,s)
noncomputable def gF (n:List Int) (xat:Int) (years:ByteArray) (s:ByteArray):Option ByteArray:=Xf Tb f93 255 CM (n,xat,years,s)
noncomputable def gk (n:List Int) (xat:Int) (s:ByteArray):Option ByteArray:=Xf Tb f93 8191 Ae (n,xat,s)
noncomputable def fC (n:List Int) (xat:Int) (s:ByteArray):Option ByteArray:=Xf Tb f93 65535 xl (n,xat,s)
noncomputable def w7 (state:Int) (n:List Int):Option ByteArray:=Xf Tb f37 1 f37.ins (state,n)
noncomputable def k9 (state:Int) (n:List Int) (s:ByteArray):Option ByteArray:=Xf Tb f37 31 Gw (state,n,s)
noncomputable def EG (s:ByteArray) (xat:Int):Option Int:=Xf Tb f259 1 f259.ins (s,xat)
noncomputable def eM (s:ByteArray) (xat:Int) (comment:Bool):Option Int:=Xf Tb f259 28 DI (s,xat,comment)
noncomputable def jj (c:Int):Option Bool:=Xf Tb f260 1 f260.ins c
noncomputable def iC (c:Int):Option Bool:=Xf Tb f262 1 f262.ins c
noncomputable def tG (s:ByteArray) (xat:Int) (point:Bool):Option Int:=Xf Tb f261 1 f261.ins (s,xat,point)
noncomputable def fA (s:ByteArray) (xat:Int) (point:Bool) (n:Int):Option Int:=Xf Tb f261 28 Cr (s,xat,point,n)
noncomputable def pz (s:ByteArray):Option (ByteArray × ByteArray × Int × Bool):=Xf Tb f208 1 f208.ins s
noncomputable def gT (s:ByteArray) (dim:Int):Option (ByteArray × ByteArray × Int × Bool):=Xf Tb f208 15 B0 (s,dim)
noncomputable def fP (s:ByteArray) (dim:Int) (xat:Int) (i:Int):Option (ByteArray × ByteArray × Int × Bool):=Xf Tb f208 250 zH (s,dim,xat,i)
noncomputable def ju (dim:Int) (a:ByteArray) (b:ByteArray):Option (ByteArray × ByteArray × Int × Bool):=Xf Tb f208 255 zB (dim,a,b)
noncomputable def iw (dim:Int) (a:ByteArray) (b:ByteArray) (i:Int):Option (ByteArray × ByteArray × Int × Bool):=Xf Tb f208 2042 xz (dim,a,b,i)
noncomputable def mc (s:ByteArray):Option (Int × Bool):=Xf Tb f264 1 f264.ins s
noncomputable def kj (s:ByteArray) (n:Int) (i:Int):Option (Int × Bool):=Xf Tb f264 58 B4 (s,n,i)
noncomputable def wI (year:Int):Option Bool:=Xf Tb f258 1 f258.ins year
noncomputable def nI (year:Int) (month:Int):Option Int:=Xf Tb f201 1 f201.ins (year,month)
noncomputable def u4 (month:Int):Option Int:=Xf Tb f144 1 f144.ins month
noncomputable def kx (month:Int) (n:Int) (m:Int):Option Int:=Xf Tb f144 58 DD (month,n,m)
noncomputable def z6 (year:Int) (month:Int) (dom:Int):Option (Int × Bool):=Xf Tb f265 1 f265.ins (year,month,dom)
noncomputable def lj (s:ByteArray):Option (Int × Bool):=Xf Tb f209 1 f209.ins s
noncomputable def v8 (s:ByteArray) (xat:Int):Option Int:=Xf Tb f263 1 f263.ins (s,xat)
noncomputable def my (s:ByteArray) (xat:Int):Option Int:=Xf Tb f263 7 H6 (s,xat)
noncomputable def aV (t29:Bool):Option Int:=Xf Tb f263 117 zC t29
noncomputable def wx (s:ByteArray) (xat:Int):Option (GToken × Int × Int):=Xf Tb f205 1 f205.ins (s,xat)
noncomputable def dh (s:ByteArray) (xat:Int) (kind:Int) (n:Int) (ok:Bool) (t4:GToken):Option (GToken × Int × Int):=Xf Tb f205 127 zG (s,xat,kind,n,ok,t4)
noncomputable def Ac (s:ByteArray):Option (List GToken × Int × Int):=Xf Tb f157 1 f157.ins s
noncomputable def md (s:ByteArray) (xat:Int) (out:List GToken):Option (List GToken × Int × Int):=Xf Tb f157 62 Ca (s,xat,out)
noncomputable def tK (s:ByteArray):Option (Bool × Int × Int × Int × Int × GPensionref5_reader):=Xf Tb f84 1 f84.ins s
noncomputable def dK (r:GPensionref5_reader) (s:ByteArray):Option Bool:=Xf Tb f162 1 f162.ins (r,s)
noncomputable def aJ (s:ByteArray) (r:GPensionref5_reader):Option (Bool × GPensionref5_reader):=Xf Tb f88 1 f88.ins (s,r)
noncomputable def aN (r:GPensionref5_reader):Option GPensionref5_reader:=Xf Tb f158 1 f158.ins r
noncomputable def ay (s:ByteArray) (r:GPensionref5_reader):Option GPensionref5_reader:=Xf Tb f85 1 f85.ins (s,r)
noncomputable def cz (r:GPensionref5_reader) (k:Int):Option Bool:=Xf Tb f159 1 f159.ins (r,k)
noncomputable def sK (s:ByteArray):Option Bool:=Xf Tb f206 1 f206.ins s
noncomputable def eF (s:ByteArray) (i:Int):Option Bool:=Xf Tb f206 26 Cf (s,i)
noncomputable def p9 (s:ByteArray):Option Bool:=Xf Tb f207 1 f207.ins s
noncomputable def aw (t4:Bool):Option Bool:=Xf Tb f207 53 DA t4
noncomputable def je (s:ByteArray):Option Bool:=Xf Tb f160 1 f160.ins s
noncomputable def fq (r:GPensionref5_reader):Option (ByteArray × GPensionref5_reader):=Xf Tb f86 1 f86.ins r
noncomputable def lH (n:Int):Option Int:=Xf Tb f149 1 f149.ins n
noncomputable def p6 (x:Int):Option Int:=Xf Tb f256 1 f256.ins x
noncomputable def mu (hi:Int) (lo:Int) (y:Int):Option (Int × Int):=Xf Tb f192 1 f192.ins (hi,lo,y)
noncomputable def ow (hi:Int) (lo:Int) (y:Int):Option (Int × Int):=Xf Tb f192 7 Hg (hi,lo,y)
noncomputable def mH (hi:Int) (lo:Int) (y:Int):Option (Int × Int):=Xf Tb f192 15 BV (hi,lo,y)
noncomputable def qW (y:Int) (s:Int) (yn1:Int) (yn0:Int) (un32:Int) (un1:Int) (un0:Int) (q1:Int) (rhat:Int):Option (Int × Int):=Xf Tb f192 131068 yM (y,s,yn1,yn0,un32,un1,un0,q1,rhat)
noncomputable def kv (w:GPensionref1_wide) (d:Int):Option (GPensionref1_wide × Int):=Xf Tb f202 1 f202.ins (w,d)
noncomputable def zn (a:Int) (b:Int):Option Int:=Xf Tb f199 1 f199.ins (a,b)
noncomputable def mx (a:Int) (b:Int):Option Int:=Xf Tb f199 12 Du (a,b)
noncomputable def sI (negative:Bool) (n:GPensionref1_wide) (d:Int):Option (GFraction × Int):=Xf Tb f168 1 f168.ins (negative,n,d)
noncomputable def eQ (num:Int) (den:Int):Option (GFraction × Int):=Xf Tb f94 1 f94.ins (num,den)
noncomputable def jM (text:ByteArray):Option (GFraction × Int × Bool):=Xf Tb f161 1 f161.ins text
noncomputable def eR (a:ByteArray) (b:ByteArray) (dim:Int) (num:Int) (den:Int) (i:Int) (t2:GFraction):Option (GFraction × Int × Bool):=Xf Tb f161 250 yT (a,b,dim,num,den,i,t2)
noncomputable def cP (least:Int) (most:Int) (r:GPensionref5_reader):Option (Int × GPensionref5_reader):=Xf Tb f87 1 f87.ins (least,most,r)
noncomputable def BK (s:ByteArray):Option Int:=Xf Tb f163 1 f163.ins s
noncomputable def rB (s:ByteArray):Option Int:=Xf Tb f210 1 f210.ins s
noncomputable def jH (s:ByteArray):Option Int:=Xf Tb f211 1 f211.ins s
noncomputable def jW (s:ByteArray):Option Int:=Xf Tb f212 1 f212.ins s
noncomputable def fg (what:Int) (r:GPensionref5_reader):Option (Int × GPensionref5_reader):=Xf Tb f164 1 f164.ins (what,r)
noncomputable def rQ (op:Int):Option Int:=Xf Tb f269 1 f269.ins op
noncomputable def fk (op:Int) (r:GPensionref5_reader):Option (GExpr × GPensionref5_reader):=Xf Tb f287 1 f287.ins (op,r)
noncomputable def jU (r:GPensionref5_reader):Option (GExpr × GPensionref5_reader):=Xf Tb f266 1 f266.ins r
noncomputable def tJ (op:Int):Option Int:=Xf Tb f288 1 f288.ins op
noncomputable def cm (t3:Int) (t12:Bool):Option Int:=Xf Tb f288 13823 tI (t3,t12)
noncomputable def sy (op:Int):Option ByteArray:=Xf Tb f289 1 f289.ins op
noncomputable def jZ (r:GPensionref5_reader) (n:Int):Option Int:=Xf Tb f267 1 f267.ins (r,n)
noncomputable def cZ (r:GPensionref5_reader) (n:Int) (op:Int):Option Int:=Xf Tb f267 26 DK (r,n,op)
noncomputable def aB (n:Int) (r:GPensionref5_reader):Option (GExpr × GPensionref5_reader):=Xf Tb f213 1 f213.ins (n,r)
noncomputable def eA (n:Int) (r:GPensionref5_reader) (Op:Int) (Value:GFraction) (Dim:Int) (Name:ByteArray) (Op2:Int) (Value2:GFraction) (Dim2:Int) (Name2:ByteArray) (Args:List GExpr):Option (GExpr × GPensionref5_reader):=Xf Tb f213 124 zQ (n,r,Op,Value,Dim,Name,Op2,Value2,Dim2,Name2,Args)
noncomputable def kf (r:GPensionref5_reader) (From:Int) (Rounding:GRounding) (Credits:List GCredit) (Series:List GIndex) (Lets:List GLet) (Grants:List GGrant) (Reduces:List GReduce):Option (GPensionref5_reader × Int × GRounding × List GCredit × List GIndex × List GLet × List GGrant × List GReduce):=Xf Tb fQ 1 fQ.ins (r,From,Rounding,Credits,Series,Lets,Grants,Reduces)
noncomputable def bt (r:GPensionref5_reader) (From:Int) (Rounding:GRounding) (Credits:List GCredit) (Series:List GIndex) (Lets:List GLet) (Grants:List GGrant) (Reduces:List GReduce):Option (GPensionref5_reader × Int × GRounding × List GCredit × List GIndex × List GLet × List GGrant × List GReduce):=Xf Tb fQ 3 zq (r,From,Rounding,Credits,Series,Lets,Grants,Reduces)
noncomputable def dX (r:GPensionref5_reader) (From:Int) (Rounding:GRounding) (c:GCredit) (Credits:List GCredit) (Series:List GIndex) (Lets:List GLet) (Grants:List GGrant) (Reduces:List GReduce):Option (GPensionref5_reader × Int × GRounding × List GCredit × List GIndex × List GLet × List GGrant × List GReduce):=Xf Tb fQ 75 xg (r,From,Rounding,c,Credits,Series,Lets,Grants,Reduces)
noncomputable def cO (r:GPensionref5_reader) (From:Int) (Rounding:GRounding) (x:GIndex) (Credits:List GCredit) (Series:List GIndex) (Lets:List GLet) (Grants:List GGrant) (Reduces:List GReduce):Option (GPensionref5_reader × Int × GRounding × List GCredit × List GIndex × List GLet × List GGrant × List GReduce):=Xf Tb fQ 315 uN (r,From,Rounding,x,Credits,Series,Lets,Grants,Reduces)
noncomputable def dE (r:GPensionref5_reader) (From:Int) (Rounding:GRounding) (x:GIndex) (Credits:List GCredit) (Series:List GIndex) (Lets:List GLet) (Grants:List GGrant) (Reduces:List GReduce):Option (GPensionref5_reader × Int × GRounding × List GCredit × List GIndex × List GLet × List GGrant × List GReduce):=Xf Tb fQ 631 ut (r,From,Rounding,x,Credits,Series,Lets,Grants,Reduces)
noncomputable def fB (r:GPensionref5_reader):Option (GVersion × GPensionref5_reader):=Xf Tb f89 1 f89.ins r
noncomputable def dF (r:GPensionref5_reader) (From:Int) (Rounding:GRounding) (From2:Int) (Rounding2:GRounding):Option (GVersion × GPensionref5_reader):=Xf Tb f89 31 FQ (r,From,Rounding,From2,Rounding2)
noncomputable def dj (r:GPensionref5_reader) (From:Int) (Rounding:GRounding) (From2:Int) (Rounding2:GRounding) (Credits:List GCredit) (Series:List GIndex) (Lets:List GLet) (Grants:List GGrant) (Reduces:List GReduce):Option (GVersion × GPensionref5_reader):=Xf Tb f89 4092 Ab (r,From,Rounding,From2,Rounding2,Credits,Series,Lets,Grants,Reduces)
noncomputable def gJ (r:GPensionref5_reader):Option Int:=Xf Tb f90 1 f90.ins r
noncomputable def fK (day:Int):Option Bool:=Xf Tb f78 1 f78.ins day
noncomputable def n9 (r:GRounding):Option Bool:=Xf Tb f147 1 f147.ins r
noncomputable def kT (n:Int) (of:Int):Option ByteArray:=Xf Tb f214 1 f214.ins (n,of)
noncomputable def bz (n:Int) (of:Int) (i:Int) (l:List ByteArray):Option ByteArray:=Xf Tb f214 58 Cg (n,of,i,l)
noncomputable def gm (f:GFraction):Option Bool:=Xf Tb f140 1 f140.ins f
noncomputable def k3 (n:Int) (least:Int):Option ByteArray:=Xf Tb f290 1 f290.ins (n,least)
noncomputable def jy (n:Int) (least:Int) (s:ByteArray):Option ByteArray:=Xf Tb f290 28 CI (n,least,s)
noncomputable def jl (a:GFraction):Option ByteArray:=Xf Tb f268 1 f268.ins a
noncomputable def fG (s:ByteArray) (a:GFraction):Option ByteArray:=Xf Tb f268 31 CT (s,a)
noncomputable def fU (value:GFraction) (dim:Int):Option (ByteArray × Bool):=Xf Tb f215 1 f215.ins (value,dim)
noncomputable def cB (dim:Int) (s:ByteArray) (rest:Int) (k:Int):Option (ByteArray × Bool):=Xf Tb f215 2042 xb (dim,s,rest,k)
noncomputable def pC (e:GExpr):Option Int:=Xf Tb f218 1 f218.ins e
noncomputable def kh (n:Int) (i:Int) (Op:Int) (Value:GFraction) (Dim:Int) (Name:ByteArray) (Args:List GExpr):Option Int:=Xf Tb f218 58 Cp (n,i,Op,Value,Dim,Name,Args)
noncomputable def rH (e:GExpr):Option Int:=Xf Tb f219 1 f219.ins e
noncomputable def k6 (n:Int) (i:Int) (Op:Int) (Value:GFraction) (Dim:Int) (Name:ByteArray) (Args:List GExpr):Option Int:=Xf Tb f219 58 Ck (n,i,Op,Value,Dim,Name,Args)
noncomputable def nX (e:GExpr):Option Bool:=Xf Tb f220 1 f220.ins e
noncomputable def iL (zero:Bool) (i:Int) (Op:Int) (Value:GFraction) (Dim:Int) (Name:ByteArray) (Args:List GExpr):Option Bool:=Xf Tb f220 250 zx (zero,i,Op,Value,Dim,Name,Args)
noncomputable def dQ (e:GExpr):Option Bool:=Xf Tb f170 1 f170.ins e
noncomputable def kP (v:GVersion):Option Bool:=Xf Tb f166 1 f166.ins v
noncomputable def eD (i:Int) (From:Int) (Rounding:GRounding) (Credits:List GCredit) (Series:List GIndex) (Lets:List GLet) (Grants:List GGrant) (Reduces:List GReduce):Option Bool:=Xf Tb f166 58 B1 (i,From,Rounding,Credits,Series,Lets,Grants,Reduces)
noncomputable def dW (i:Int) (From:Int) (Rounding:GRounding) (Credits:List GCredit) (Series:List GIndex) (Lets:List GLet) (Grants:List GGrant) (Reduces:List GReduce):Option Bool:=Xf Tb f166 122 zW (i,From,Rounding,Credits,Series,Lets,Grants,Reduces)
noncomputable def dZ (i:Int) (From:Int) (Rounding:GRounding) (Credits:List GCredit) (Series:List GIndex) (Lets:List GLet) (Grants:List GGrant) (Reduces:List GReduce):Option Bool:=Xf Tb f166 250 zo (i,From,Rounding,Credits,Series,Lets,Grants,Reduces)
noncomputable def ee (i:Int) (From:Int) (Rounding:GRounding) (Credits:List GCredit) (Series:List GIndex) (Lets:List GLet) (Grants:List GGrant) (Reduces:List GReduce):Option Bool:=Xf Tb f166 506 zT (i,From,Rounding,Credits,Series,Lets,Grants,Reduces)
noncomputable def dC (i:Int) (From:Int) (Rounding:GRounding) (Credits:List GCredit) (Series:List GIndex) (Lets:List GLet) (Grants:List GGrant) (Reduces:List GReduce):Option Bool:=Xf Tb f166 1018 wR (i,From,Rounding,Credits,Series,Lets,Grants,Reduces)
noncomputable def lX (x:GStatute):Option Bool:=Xf Tb f91 1 f91.ins x
noncomputable def kz (i:Int) (Name:ByteArray) (Currency:Int) (Versions:List GVersion):Option Bool:=Xf Tb f91 58 F8 (i,Name,Currency,Versions)
noncomputable def ur (s:ByteArray):Option (GStatute × Int × Int):=Xf Tb f36 1 f36.ins s
noncomputable def dN (first:Bool) (Name:ByteArray) (Currency:Int) (r:GPensionref5_reader) (Name2:ByteArray) (Currency2:Int) (Versions:List GVersion):Option (GStatute × Int × Int):=Xf Tb f36 4090 zk (first,Name,Currency,r,Name2,Currency2,Versions)
noncomputable def xi (n:List Int):Option (List GState × List GRules × List GRate):=Xf Tb f9 1 f9.ins n
noncomputable def iZ (n:List Int) (s:Int) (States:List GState) (Rates:List GRate):Option (List GState × List GRules × List GRate):=Xf Tb f9 58 JS (n,s,States,Rates)
noncomputable def sH (t:List GRules):Option Int:=Xf Tb f28 1 f28.ins t
noncomputable def it (t:List GRules) (i:Int):Option Int:=Xf Tb f28 122 Di (t,i)
noncomputable def fY (t:List GRules) (i:Int) (k:Int) (r:GRules):Option Int:=Xf Tb f28 31310 wZ (t,i,k,r)
noncomputable def fL (l:List GFact):Option (List GFact):=Xf Tb f29 1 f29.ins l
noncomputable def cl (l:List GFact) (i:Int) (out:List GFact):Option (List GFact):=Xf Tb f29 58 HX (l,i,out)
noncomputable def nO (l:List GFact) (kind:Int):Option (Int × Bool):=Xf Tb f154 1 f154.ins (l,kind)
noncomputable def cD (kind:Int) (day:Int) (ok:Bool) (i:Int) (c:List GFact):Option (Int × Bool):=Xf Tb f154 122 yY (kind,day,ok,i,c)
noncomputable def sn (l:List GFact):Option (Int × Bool):=Xf Tb f80 1 f80.ins l
noncomputable def si (l:List GFact):Option (Int × Bool):=Xf Tb f81 1 f81.ins l
noncomputable def lY (l:List GFact):Option GSpan:=Xf Tb f31 1 f31.ins l
noncomputable def qE (s:GSpan):Option (GSpan × Bool):=Xf Tb f180 1 f180.ins s
noncomputable def cS (l:List Int) (n:Int):Option (List Int):=Xf Tb f32 1 f32.ins (l,n)
noncomputable def gU (l:List Int) (n:Int) (xat:Int):Option (List Int):=Xf Tb f32 28 GA (l,n,xat)
noncomputable def uo (lists:List (List GSpan)):Option (List Int):=Xf Tb f111 1 f111.ins lists
noncomputable def dV (lists:List (List GSpan)) (out:List Int) (i:Int):Option (List Int):=Xf Tb f111 58 BU (lists,out,i)
noncomputable def cC (lists:List (List GSpan)) (out:List Int) (i:Int) (k:Int):Option (List Int):=Xf Tb f111 3730 wk (lists,out,i,k)
noncomputable def ld (l:List GSpan) (day:Int):Option Bool:=Xf Tb f112 1 f112.ins (l,day)
noncomputable def bO (l:List GSpan) (day:Int) (i:Int):Option Bool:=Xf Tb f112 26 CO (l,day,i)
noncomputable def za (l:List GSpan) (s:GSpan):Option (List GSpan):=Xf Tb f113 1 f113.ins (l,s)
noncomputable def p5 (a:List GSpan) (b:List GSpan) (kind:Int):Option (List GSpan):=Xf Tb f55 1 f55.ins (a,b,kind)
noncomputable def bM (a:List GSpan) (b:List GSpan) (kind:Int) (e:List Int) (i:Int) (out:List GSpan):Option (List GSpan):=Xf Tb f55 122 Dj (a,b,kind,e,i,out)
noncomputable def rE (l:List GSpan) (s:GSpan):Option (List GSpan):=Xf Tb f18 1 f18.ins (l,s)
noncomputable def qP (l:List GPosting) (p:GPosting):Option (List GPosting):=Xf Tb f79 1 f79.ins (l,p)
noncomputable def il (l:List GPosting) (xat:Int) (p:GPosting):Option (List GPosting):=Xf Tb f79 28 Hm (l,xat,p)
noncomputable def m5 (l:List GFact):Option (List GPosting):=Xf Tb f30 1 f30.ins l
noncomputable def dI (l:List GFact) (seat:Int) (c:List GFact) (out:List GPosting):Option (List GPosting):=Xf Tb f30 122 CR (l,seat,c,out)
noncomputable def bZ (l:List GFact) (seat:Int) (state:Int) (c:List GFact) (out:List GPosting):Option (List GPosting):=Xf Tb f30 7826 zD (l,seat,state,c,out)
noncomputable def bV (l:List GFact) (seat:Int) (state:Int) (i:Int) (c:List GFact) (out:List GPosting) (s:List GSpan):Option (List GPosting):=Xf Tb f30 2003530 sk (l,seat,state,i,c,out,s)
noncomputable def dG (l:List GFact) (seat:Int) (state:Int) (i:Int) (c:List GFact) (out:List GPosting) (s:List GSpan):Option (List GPosting):=Xf Tb f30 4007070 sj (l,seat,state,i,c,out,s)
noncomputable def oY (t:List GRules) (day:Int):Option (GRules × Bool):=Xf Tb f33 1 f33.ins (t,day)
noncomputable def gB (t:List GRules) (day:Int) (i:Int) (t4:GRules):Option (GRules × Bool):=Xf Tb f33 26 Hs (t,day,i,t4)
noncomputable def fw (s:GSpan) (day:Int):Option Bool:=Xf Tb f34 1 f34.ins (s,day)
noncomputable def qo (c:List GFact) (day:Int):Option (List Int):=Xf Tb f155 1 f155.ins (c,day)
noncomputable def cK (c:List GFact) (day:Int) (i:Int) (t4:List Int) (out:List Int):Option (List Int):=Xf Tb f155 58 Ds (c,day,i,t4,out)
noncomputable def jz (l:List GFact) (day:Int):Option (Int × Bool):=Xf Tb f83 1 f83.ins (l,day)
noncomputable def bW (l:List GFact) (day:Int) (xat:Int) (i:Int) (c:List GFact):Option (Int × Bool):=Xf Tb f83 122 CB (l,day,xat,i,c)
noncomputable def sB (c:List GFact) (day:Int):Option (List Int):=Xf Tb f156 1 f156.ins (c,day)
noncomputable def eE (c:List GFact) (day:Int) (out:List Int) (i:Int):Option (List Int):=Xf Tb f156 58 Dk (c,day,out,i)
noncomputable def nt (l:List GFact) (c:List GFact) (r:GRules) (day:Int):Option (Int × Bool):=Xf Tb f82 1 f82.ins (l,c,r,day)
noncomputable def co (l:List GFact) (c:List GFact) (day:Int) (sum:Int) (n:Int) (best:Int) (i:Int) (r:GRules) (s:List Int):Option (Int × Bool):=Xf Tb f82 122 Dy (l,c,day,sum,n,best,i,r,s)
noncomputable def v6 (l:List GFact) (c:List GFact) (p:List GPosting) (r:GRules) (day:Int):Option (Int × Int):=Xf Tb f35 1 f35.ins (l,c,p,r,day)
noncomputable def eL (l:List GFact) (c:List GFact) (p:List GPosting) (day:Int) (best:Int) (i:Int) (r:GRules):Option (Int × Int):=Xf Tb f35 58 F0 (l,c,p,day,best,i,r)
noncomputable def dT (l:List GFact) (c:List GFact) (day:Int) (best:Int) (i:Int) (r:GRules):Option (Int × Int):=Xf Tb f35 250 C6 (l,c,day,best,i,r)
noncomputable def aU (l:List GFact) (c:List GFact) (day:Int) (best:Int) (i:Int):Option (Int × Int):=Xf Tb f35 2042 zp (l,c,day,best,i)
noncomputable def wT (l:List GFact) (t:List GRules):Option (List GSegment):=Xf Tb f8 1 f8.ins (l,t)
noncomputable def kA (l:List GFact) (t:List GRules) (e:List Int) (i:Int) (c:List GFact) (p:List GPosting) (life:GSpan):Option (List GSegment):=Xf Tb f8 250 HS (l,t,e,i,c,p,life)
noncomputable def fb (l:List GFact) (t:List GRules) (e:List Int) (i:Int) (c:List GFact) (p:List GPosting) (life:GSpan):Option (List GSegment):=Xf Tb f8 506 Ho (l,t,e,i,c,p,life)
noncomputable def gc (l:List GFact) (t:List GRules) (e:List Int) (k:Int) (c:List GFact) (p:List GPosting) (life:GSpan):Option (List GSegment):=Xf Tb f8 1018 Dz (l,t,e,k,c,p,life)
noncomputable def bR (l:List GFact) (t:List GRules) (e:List Int) (i:Int) (c:List GFact) (p:List GPosting) (life:GSpan) (out:List GSegment):Option (List GSegment):=Xf Tb f8 4090 Cy (l,t,e,i,c,p,life,out)
noncomputable def iv (l:List GFact) (t:List GRules) (e:List Int) (i:Int) (k:Int) (c:List GFact) (p:List GPosting) (life:GSpan):Option (List GSegment):=Xf Tb f8 64806 zh (l,t,e,i,k,c,p,life)
noncomputable def mh (i:Int):Option ByteArray:=Xf Tb f95 1 f95.ins i
noncomputable def bf (k:Int) (s:GPensionmade_source):Option (Int × GPensionmade_source):=Xf Tb f216 1 f216.ins (k,s)
noncomputable def eY (k:Int) (n:Int) (s:GPensionmade_source):Option (Int × GPensionmade_source):=Xf Tb f216 15 CU (k,n,s)
noncomputable def uf:Option (List ByteArray):=Xf Tb f270 1 f270.ins ()
noncomputable def tS (name:ByteArray):Option (Int × Bool):=Xf Tb f271 1 f271.ins name
noncomputable def kw (t4:ByteArray) (t5:Bool):Option (Int × Bool):=Xf Tb f271 53 C7 (t4,t5)
noncomputable def cU (t4:ByteArray) (t9:Bool):Option (Int × Bool):=Xf Tb f271 215 ze (t4,t9)
noncomputable def sd (dim:Int):Option (List ByteArray):=Xf Tb f221 1 f221.ins dim
noncomputable def fx (dim:Int) (i:Int) (l:List ByteArray) (out:List ByteArray):Option (List ByteArray):=Xf Tb f221 122 Ai (dim,i,l,out)
noncomputable def jL (s:GPensionmade_source):Option (GFraction × GPensionmade_source):=Xf Tb f222 1 f222.ins s
noncomputable def be (dim:Int) (s:GPensionmade_source) (env:List GBinding):Option (GExpr × GPensionmade_source × List GBinding):=Xf Tb oe 1 oe.ins (dim,s,env)
noncomputable def cx (dim:Int) (i:Int) (s:GPensionmade_source) (env:List GBinding) (Op:Int) (Value:GFraction) (Dim:Int) (Name:ByteArray) (names:List ByteArray):Option (GExpr × GPensionmade_source × List GBinding):=Xf Tb oe 250 tP (dim,i,s,env,Op,Value,Dim,Name,names)
noncomputable def aM (op:Int) (deep:Int) (dims:List Int) (s:GPensionmade_source) (env:List GBinding):Option (GExpr × GPensionmade_source × List GBinding):=Xf Tb oc 1 oc.ins (op,deep,dims,s,env)
noncomputable def eU (deep:Int) (dims:List Int) (i:Int) (s:GPensionmade_source) (env:List GBinding) (Op:Int) (Value:GFraction) (Dim:Int) (Name:ByteArray) (Op2:Int) (Value2:GFraction) (Dim2:Int) (Name2:ByteArray) (Args:List GExpr):Option (GExpr × GPensionmade_source × List GBinding):=Xf Tb oc 58 xB (deep,dims,i,s,env,Op,Value,Dim,Name,Op2,Value2,Dim2,Name2,Args)
noncomputable def dR (dim:Int) (deep:Int) (s:GPensionmade_source) (env:List GBinding):Option (GExpr × GPensionmade_source × List GBinding):=Xf Tb i6 1 i6.ins (dim,deep,s,env)
noncomputable def cf (dim:Int) (deep:Int) (k:Int) (t84:Int) (t85:Bool) (s:GPensionmade_source) (env:List GBinding) (Op:Int) (Value:GFraction) (Dim:Int) (Name:ByteArray):Option (GExpr × GPensionmade_source × List GBinding):=Xf Tb i6 1013 sA (dim,deep,k,t84,t85,s,env,Op,Value,Dim,Name)
noncomputable def ef (dim:Int) (deep:Int) (k:Int) (t36:Int) (t37:Bool) (s:GPensionmade_source) (env:List GBinding) (Op:Int) (Value:GFraction) (Dim:Int) (Name:ByteArray):Option (GExpr × GPensionmade_source × List GBinding):=Xf Tb i6 4005 sL (dim,deep,k,t36,t37,s,env,Op,Value,Dim,Name)
noncomputable def bm (dim:Int) (deep:Int) (t61:Bool) (s:GPensionmade_source) (env:List GBinding) (Op:Int) (Value:GFraction) (Dim:Int) (Name:ByteArray):Option (GExpr × GPensionmade_source × List GBinding):=Xf Tb i6 256383 oQ (dim,deep,t61,s,env,Op,Value,Dim,Name)
noncomputable def ly (l:List Int) (dim:Int) (env:List GBinding):Option (GExpr × List GBinding):=Xf Tb xR 1 xR.ins (l,dim,env)
noncomputable def pF (n:Int) (From:Int) (Rounding:GRounding) (Credits:List GCredit) (Series:List GIndex) (Lets:List GLet) (Grants:List GGrant) (Reduces:List GReduce):Option (Int × GRounding × List GCredit × List GIndex × List GLet × List GGrant × List GReduce):=Xf Tb xS 1 xS.ins (n,From,Rounding,Credits,Series,Lets,Grants,Reduces)
noncomputable def Cq (v:GPensionmade_Version):Option GVersion:=Xf Tb f40 1 f40.ins v
noncomputable def jV (i:Int) (v:GPensionmade_Version) (From:Int) (Rounding:GRounding) (From2:Int) (Rounding2:GRounding) (kinds:List Int) (Credits:List GCredit):Option GVersion:=Xf Tb f40 122 B8 (i,v,From,Rounding,From2,Rounding2,kinds,Credits)
noncomputable def jN (i:Int) (v:GPensionmade_Version) (From:Int) (Rounding:GRounding) (From2:Int) (Rounding2:GRounding) (Credits:List GCredit) (Series:List GIndex):Option GVersion:=Xf Tb f40 250 CG (i,v,From,Rounding,From2,Rounding2,Credits,Series)
noncomputable def iV (i:Int) (v:GPensionmade_Version) (From:Int) (Rounding:GRounding) (From2:Int) (Rounding2:GRounding) (env:List GBinding) (Credits:List GCredit) (Series:List GIndex) (Lets:List GLet):Option GVersion:=Xf Tb f40 1018 zy (i,v,From,Rounding,From2,Rounding2,env,Credits,Series,Lets)
noncomputable def iO (i:Int) (v:GPensionmade_Version) (From:Int) (Rounding:GRounding) (From2:Int) (Rounding2:GRounding) (env:List GBinding) (Credits:List GCredit) (Series:List GIndex) (Lets:List GLet) (Grants:List GGrant):Option GVersion:=Xf Tb f40 2042 zN (i,v,From,Rounding,From2,Rounding2,env,Credits,Series,Lets,Grants)
noncomputable def iW (i:Int) (v:GPensionmade_Version) (From:Int) (Rounding:GRounding) (From2:Int) (Rounding2:GRounding) (env:List GBinding) (Credits:List GCredit) (Series:List GIndex) (Lets:List GLet) (Grants:List GGrant) (Reduces:List GReduce):Option GVersion:=Xf Tb f40 4090 Ah (i,v,From,Rounding,From2,Rounding2,env,Credits,Series,Lets,Grants,Reduces)
noncomputable def jr (i:Int) (l:List Int) (v:GPensionmade_Version) (From:Int) (Rounding:GRounding) (From2:Int) (Rounding2:GRounding) (env:List GBinding) (g:Int) (g2:Int) (g3:GFraction) (g4:Int) (g5:ByteArray) (g6:Int) (g7:GFraction) (g8:Int) (g9:ByteArray) (g10:List GExpr) (Credits:List GCredit) (Series:List GIndex) (Lets:List GLet) (Grants:List GGrant):Option GVersion:=Xf Tb f40 261415 uM (i,l,v,From,Rounding,From2,Rounding2,env,g,g2,g3,g4,g5,g6,g7,g8,g9,g10,Credits,Series,Lets,Grants)
noncomputable def oR (v:List GPensionmade_Version) (order:Int):Option (List GScheme):=Xf Tb f11 1 f11.ins (v,order)
noncomputable def gx (v:List GPensionmade_Version) (order:Int) (i:Int) (out:List GScheme):Option (List GScheme):=Xf Tb f11 58 FY (v,order,i,out)
noncomputable def sM (s:GSpan):Option GSpan:=Xf Tb f108 1 f108.ins s
noncomputable def fN (l:List GSpan):Option (List GSpan):=Xf Tb f54 1 f54.ins l
noncomputable def df (t10:List GSpan) (t11:Int) (t12:Int) (sorted:List GSpan):Option (List GSpan):=Xf Tb f54 58 Hy (t10,t11,t12,sorted)
noncomputable def cX (t33:Int) (t34:Int) (out:List GSpan) (t32:List GSpan):Option (List GSpan):=Xf Tb f54 506 DG (t33,t34,out,t32)
noncomputable def lq (law:List GSegment) (state:Int) (rule:Int):Option (List GSpan):=Xf Tb f43 1 f43.ins (law,state,rule)
noncomputable def bA (state:Int) (rule:Int) (t10:List GSegment) (t11:Int) (t12:Int) (out:List GSpan):Option (List GSpan):=Xf Tb f43 58 HM (state,rule,t10,t11,t12,out)
noncomputable def rx (a:List GSpan) (b:List GSpan):Option (List GSpan):=Xf Tb f98 1 f98.ins (a,b)
noncomputable def bi (i:Int) (j:Int) (a:List GSpan) (b:List GSpan) (out:List GSpan):Option (List GSpan):=Xf Tb f98 122 Dr (i,j,a,b,out)
noncomputable def gY (i:Int) (j:Int) (a:List GSpan) (b:List GSpan) (out:List GSpan):Option (List GSpan):=Xf Tb f98 3915 zf (i,j,a,b,out)
noncomputable def iq (l:List GSpan) (s:GSpan):Option (List GSpan):=Xf Tb f42 1 f42.ins (l,s)
noncomputable def kL:Option (List GAnon120):=Xf Tb f44 1 f44.ins ()
noncomputable def qO (c:GCredit) (t1:Int):Option Bool:=Xf Tb f100 1 f100.ins (c,t1)
noncomputable def qi (s:List GCredit) (f0:Int):Option Int:=Xf Tb f99 1 f99.ins (s,f0)
noncomputable def bX (s:List GCredit) (f0:Int) (t7:Int) (t8:Int):Option Int:=Xf Tb f99 26 Hw (s,f0,t7,t8)
noncomputable def np (v:GVersion) (kind:Int):Option (Int × Bool):=Xf Tb f45 1 f45.ins (v,kind)
noncomputable def wO (kind:Int):Option ByteArray:=Xf Tb f193 1 f193.ins kind
noncomputable def m7 (t3:Int) (t6:Bool):Option ByteArray:=Xf Tb f193 215 zF (t3,t6)
noncomputable def gj (t3:Int) (t11:Bool):Option ByteArray:=Xf Tb f193 3455 wA (t3,t11)
noncomputable def gz (t3:Int) (t20:Bool):Option ByteArray:=Xf Tb f193 221183 su (t3,t20)
noncomputable def gu (x:Int) (low:Int) (high:Int):Option Bool:=Xf Tb f196 1 f196.ins (x,low,high)
noncomputable def lN (s:ByteArray) (c:Int):Option Int:=Xf Tb f297 1 f297.ins (s,c)
noncomputable def pg (s:ByteArray) (substr:ByteArray):Option Int:=Xf Tb f286 1 f286.ins (s,substr)
noncomputable def vB (s:ByteArray) (substr:ByteArray):Option Int:=Xf Tb f257 1 f257.ins (s,substr)
noncomputable def qH (s:ByteArray) (substr:ByteArray):Option Bool:=Xf Tb f195 1 f195.ins (s,substr)
noncomputable def bp (letter:ByteArray) (t1:ByteArray):Option Bool:=Xf Tb f194 1 f194.ins (letter,t1)
noncomputable def cc (used:Bool) (x:Int) (low:Int) (high:Int):Option Bool:=Xf Tb f197 1 f197.ins (used,x,low,high)
noncomputable def nw (s:GSpan):Option Bool:=Xf Tb f198 1 f198.ins s
noncomputable def tT (f:GFact):Option Bool:=Xf Tb f138 1 f138.ins f
noncomputable def fh (t89:Int) (t97:Bool) (f:GFact):Option Bool:=Xf Tb f138 2007 wE (t89,t97,f)
noncomputable def gQ (f:GFact):Option Bool:=Xf Tb f101 1 f101.ins f
noncomputable def lT (l:List GFact) (kind:Int):Option (Int × Bool):=Xf Tb f223 1 f223.ins (l,kind)
noncomputable def cA (kind:Int) (day:Int) (ok:Bool) (t10:List GFact) (t11:Int) (t12:Int):Option (Int × Bool):=Xf Tb f223 58 C9 (kind,day,ok,t10,t11,t12)
noncomputable def qD (l:List GFact):Option (Int × Bool):=Xf Tb f172 1 f172.ins l
noncomputable def qn (l:List GFact):Option (Int × Bool):=Xf Tb f173 1 f173.ins l
noncomputable def nJ (l:List GFact):Option GSpan:=Xf Tb f102 1 f102.ins l
noncomputable def p7 (l:List GFact) (kind:Int) (state:Int):Option (List GSpan):=Xf Tb f46 1 f46.ins (l,kind,state)
noncomputable def cF (l:List GFact) (kind:Int) (state:Int) (t10:List GFact) (t11:Int) (t12:Int) (out:List GSpan):Option (List GSpan):=Xf Tb f46 58 GF (l,kind,state,t10,t11,t12,out)
noncomputable def vr (l:List GFact):Option (List GFact):=Xf Tb f174 1 f174.ins l
noncomputable def bL (t8:List GFact) (t9:Int) (t10:Int) (out:List GFact):Option (List GFact):=Xf Tb f174 58 DL (t8,t9,t10,out)
noncomputable def nc (l:List GFact):Option (List GFact):=Xf Tb f103 1 f103.ins l
noncomputable def jP (l:List GSpan) (n:Int):Option (List GSpan):=Xf Tb f48 1 f48.ins (l,n)
noncomputable def iA (n:Int) (t10:Int) (t11:Int) (out:List GSpan) (t9:List GSpan):Option (List GSpan):=Xf Tb f48 58 Ge (n,t10,t11,out,t9)
noncomputable def jq (n:Int) (t10:Int) (t11:Int) (out:List GSpan) (s:GSpan) (t9:List GSpan):Option (List GSpan):=Xf Tb f48 14951 wN (n,t10,t11,out,s,t9)
noncomputable def iF (l:List GFact) (state:Int) (before:GSpan) (limit:Int):Option (List GSpan):=Xf Tb f47 1 f47.ins (l,state,before,limit)
noncomputable def bB (l:List GFact) (state:Int) (limit:Int) (child:Int) (before:GSpan) (out:List GSpan):Option (List GSpan):=Xf Tb f47 58 HJ (l,state,limit,child,before,out)
noncomputable def aT (l:List GFact) (state:Int) (limit:Int) (child:Int) (t20:Int) (t21:Int) (before:GSpan) (out:List GSpan) (days:List GSpan) (t19:List GFact):Option (List GSpan):=Xf Tb f47 14922 vZ (l,state,limit,child,t20,t21,before,out,days,t19)
noncomputable def gO (rank:Int) (days:List GSpan) (t3:Int) (t32:Int) (t33:GRounding) (t34:List GCredit) (t35:List GIndex) (t36:List GLet) (t37:List GGrant) (t38:List GReduce) (t2:List GPeriod):Option (Int × Int × GRounding × List GCredit × List GIndex × List GLet × List GGrant × List GReduce × List GPeriod):=Xf Tb rM 1 rM.ins (rank,days,t3,t32,t33,t34,t35,t36,t37,t38,t2)
noncomputable def cM (rank:Int) (t8:List GSpan) (t9:Int) (t10:Int) (t3:Int) (t32:Int) (t33:Int) (t34:Int) (t35:List GCredit) (t36:List GIndex) (t37:List GLet) (t38:List GGrant) (t39:List GReduce) (t2:List GPeriod):Option (Int × Int × GRounding × List GCredit × List GIndex × List GLet × List GGrant × List GReduce × List GPeriod):=Xf Tb rM 6 Cm (rank,t8,t9,t10,t3,t32,t33,t34,t35,t36,t37,t38,t39,t2)
noncomputable def dn (l:List GFact) (law:List GSegment) (schemes:List GScheme) (before:Int):Option (List GPeriod × Int):=Xf Tb f12 1 f12.ins (l,law,schemes,before)
noncomputable def cq (l:List GFact) (law:List GSegment) (schemes:List GScheme) (before:Int) (t28:List GScheme) (t29:Int) (t30:Int):Option (List GPeriod × Int):=Xf Tb f12 58 Hn (l,law,schemes,before,t28,t29,t30)
noncomputable def bh (l:List GFact) (law:List GSegment) (t61:List GScheme) (t62:Int) (t63:Int) (past:GSpan) (out:List GPeriod):Option (List GPeriod × Int):=Xf Tb f12 506 Cv (l,law,t61,t62,t63,past,out)
noncomputable def aS (l:List GFact) (law:List GSegment) (t61:List GScheme) (t62:Int) (t63:Int) (t77:Int) (t78:Int) (past:GSpan) (x:Int) (x2:Int) (x3:GRounding) (x4:List GCredit) (x5:List GIndex) (x6:List GLet) (x7:List GGrant) (x8:List GReduce) (t76:List GAnon120) (out:List GPeriod):Option (List GPeriod × Int):=Xf Tb f12 518558 uE (l,law,t61,t62,t63,t77,t78,past,x,x2,x3,x4,x5,x6,x7,x8,t76,out)
noncomputable def db (l:List GFact) (law:List GSegment) (t61:List GScheme) (t62:Int) (t63:Int) (t77:Int) (t78:Int) (past:GSpan) (x:Int) (x2:Int) (x3:GRounding) (x4:List GCredit) (x5:List GIndex) (x6:List GLet) (x7:List GGrant) (x8:List GReduce) (c:GAnon120) (days:List GSpan) (t76:List GAnon120) (out:List GPeriod):Option (List GPeriod × Int):=Xf Tb f12 531003807 oX (l,law,t61,t62,t63,t77,t78,past,x,x2,x3,x4,x5,x6,x7,x8,c,days,t76,out)
noncomputable def sD:Option Bool:=Xf Tb f14 1 f14.ins ()
noncomputable def nL (claims:List GPeriod) (state:Int) (rank:Int):Option (List GSpan):=Xf Tb f16 1 f16.ins (claims,state,rank)
noncomputable def cV (state:Int) (rank:Int) (t10:List GPeriod) (t11:Int) (t12:Int) (out:List GSpan):Option (List GSpan):=Xf Tb f16 58 F5 (state,rank,t10,t11,t12,out)
noncomputable def ng (a:List GSpan) (b:List GSpan):Option Bool:=Xf Tb f17 1 f17.ins (a,b)
noncomputable def cE (a:List GSpan) (b:List GSpan) (i:Int):Option Bool:=Xf Tb f17 58 FN (a,b,i)
noncomputable def l6 (l:List GPensionhand_Fact) (n:List Int) (v:List GPensionmade_Version) (early:Int) (late:Int) (state:Int) (rank:Int):Option Bool:=Xf Tb f4 1 f4.ins (l,n,v,early,late,state,rank)
noncomputable def di (v:List GPensionmade_Version) (early:Int) (late:Int) (state:Int) (rank:Int) (a:List GFact) (law:List GSegment):Option Bool:=Xf Tb f4 127 HN (v,early,late,state,rank,a,law)
end Go.Ax
