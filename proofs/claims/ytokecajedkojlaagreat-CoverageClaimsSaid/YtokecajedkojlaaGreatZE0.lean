import Derived.Test.YtokecajedkojlaaGreatZHd
import Derived.Test.YtokecajedkojlaaGreatRows
set_option linter.all false
set_option maxRecDepth 100000
set_option maxHeartbeats 0
namespace Go.Ax
open Go.Proofs Go.Proofs.YtokecajedkojlaaGreat
/- pension/pensionmade.Pick -/
noncomputable def f10:FI:={ fid:=10,fn:=Tryz.f10,c:=aj Tryz.f10,ins:={ sl:=[(0, .t (.i .i64)),(1, .t (.i .i64))] },out:=.new (.t (.i .i64)),cuts:=[] }
noncomputable def f38:FI:={ fid:=38,fn:=Tryz.f38,c:=aj Tryz.f38,ins:={ sl:=[(0, .t (.i .i64)),(1, .t (.i .i64))] },out:=.new (.t (.i .i64)),cuts:=[] }
noncomputable def f39:FI:={ fid:=39,fn:=Tryz.f39,c:=aj Tryz.f39,ins:={ sl:=[(0, .t (.ls (.i .i64))),(1, .t (.i .i64))] },out:=.new (.t (.i .i64)),cuts:=[] }
abbrev Ii:Tm:={ sl:=[(0, .t (.ls (.i .i64))),(3, .k (.row 0 14)),(4, .t (.i .i64))],ob:=[.row 61 (.st .GFact)] }
noncomputable def f26:FI:={ fid:=26,fn:=Tryz.f26,c:=aj Tryz.f26,ins:={ sl:=[(0, .t (.ls (.i .i64)))] },out:=.own true 61 (.st .GFact),cuts:=[(58,Ii)] }
abbrev HD:Tm:={ sl:=[(0, .t (.ls (.st .GFact))),(1, .t (.i .i64)),(5, .k (.row 0 14)),(6, .t (.i .i64))],ob:=[.row 61 (.st .GFact)] }
noncomputable def f25:FI:={ fid:=25,fn:=Tryz.f25,c:=aj Tryz.f25,ins:={ sl:=[(0, .t (.ls (.st .GFact))),(1, .t (.i .i64))] },out:=.own true 61 (.st .GFact),cuts:=[(58,HD)] }
noncomputable def f74:FI:={ fid:=74,fn:=Tryz.f74,c:=aj Tryz.f74,ins:={ sl:=[(0, .t (.i .i64))] },out:=.new (.t (.s)),cuts:=[] }
abbrev Ei:Tm:={ sl:=[(1, .t (.i .u8)),(5, .t (.s)),(6, .t (.i .i64))],ob:=[] }
noncomputable def f203:FI:={ fid:=203,fn:=Tryz.f203,c:=aj Tryz.f203,ins:={ sl:=[(0, .t (.i .i64)),(1, .t (.i .u8))] },out:=.new (.t (.b)),cuts:=[(58,Ei)] }
noncomputable def f152:FI:={ fid:=152,fn:=Tryz.f152,c:=aj Tryz.f152,ins:={ sl:=[(0, .t (.i .i64)),(1, .t (.i .u8)),(2, .t (.i .i64)),(3, .t (.i .i64)),(4, .t (.i .i64))] },out:=.new (.t (.b)),cuts:=[] }
noncomputable def f75:FI:={ fid:=75,fn:=Tryz.f75,c:=aj Tryz.f75,ins:={ sl:=[(0, .t (.st .GFact))] },out:=.new (.t (.b)),cuts:=[] }
noncomputable def f76:FI:={ fid:=76,fn:=Tryz.f76,c:=aj Tryz.f76,ins:={ sl:=[(0, .t (.st .GFact)),(1, .t (.st .GFact))] },out:=.new (.t (.i .i64)),cuts:=[] }
abbrev OL:Tm:={ sl:=[(0, .k (.row 0 1)),(1, .t (.i .i64)),(7, .t (.i .i64))],ob:=[.row 5 (.i .u8)] }
noncomputable def f204:FI:={ fid:=204,fn:=Tryz.f204,c:=aj Tryz.f204,ins:={ sl:=[(0, .k (.c .nil)),(1, .t (.i .i64)),(2, .t (.i .i64))],ob:=[] },out:=.gen ({ sl:=[(2000000, .tp [.k (.row 0 1)])],ob:=[.row 5 (.i .u8)] }),cuts:=[(26,OL)] }
abbrev xw:Tm:={ sl:=[(0, .k (.row 0 1)),(1, .t (.i .i64)),(7, .t (.i .i64))],ob:=[.row 5 (.i .u8)] }
noncomputable def oG:FI:={ fid:=204,fn:=Tryz.f204,c:=aj Tryz.f204,ins:={ sl:=[(0, .k (.row 0 1)),(1, .t (.i .i64)),(2, .t (.i .i64))],ob:=[.row 5 (.i .u8)] },out:=.gen ({ sl:=[(2000000, .tp [.k (.row 0 1)])],ob:=[.row 5 (.i .u8)] }),cuts:=[(26,xw)] }
abbrev ED:Tm:={ sl:=[(1, .k (.ptr 0 14 0 0)),(3, .t (.i .i64))],ob:=[.box [.t (.st .GFact)]] }
abbrev xQ:Tm:={ sl:=[(1, .k (.ptr 0 14 0 0)),(4, .k (.row 1 1)),(5, .t (.s)),(6, .t (.i .i64))],ob:=[.box [.t (.st .GFact)], .row 5 (.i .u8)] }
abbrev xE:Tm:={ sl:=[(1, .k (.ptr 0 14 0 0)),(4, .k (.row 1 1)),(5, .t (.s)),(6, .t (.i .i64))],ob:=[.box [.t (.st .GFact)], .row 5 (.i .u8)] }
noncomputable def f153:FI:={ fid:=153,fn:=Tryz.f153,c:=aj Tryz.f153,ins:={ sl:=[(0, .t (.st .GFact))] },out:=.own true 5 (.i .u8),cuts:=[(31,ED),(1018,xQ),(8147,xE)] }
noncomputable def f77:FI:={ fid:=77,fn:=Tryz.f77,c:=aj Tryz.f77,ins:={ sl:=[(0, .t (.st .GFact)),(1, .t (.st .GFact))] },out:=.new (.t (.b)),cuts:=[] }
abbrev Hb:Tm:={ sl:=[(0, .t (.ls (.st .GFact))),(1, .t (.ls (.st .GFact))),(5, .k (.row 0 14)),(6, .t (.i .i64))],ob:=[.row 61 (.st .GFact)] }
abbrev Al:Tm:={ sl:=[(0, .t (.ls (.st .GFact))),(1, .t (.ls (.st .GFact))),(5, .k (.row 0 14)),(6, .t (.i .i64)),(7, .k (.ptr 1 14 0 0))],ob:=[.row 61 (.st .GFact), .box [.t (.st .GFact)]] }
abbrev xF:Tm:={ sl:=[(0, .t (.ls (.st .GFact))),(1, .t (.ls (.st .GFact))),(5, .k (.row 0 14)),(6, .t (.i .i64)),(7, .k (.ptr 1 14 0 0)),(8, .t (.i .i64))],ob:=[.row 61 (.st .GFact), .box [.t (.st .GFact)]] }
noncomputable def f27:FI:={ fid:=27,fn:=Tryz.f27,c:=aj Tryz.f27,ins:={ sl:=[(0, .t (.ls (.st .GFact))),(1, .t (.ls (.st .GFact)))] },out:=.own true 61 (.st .GFact),cuts:=[(58,Hb),(3731,Al),(59708,xF)] }
noncomputable def f73:FI:={ fid:=73,fn:=Tryz.f73,c:=aj Tryz.f73,ins:={ sl:=[(0, .t (.i .i64))] },out:=.new (.t (.i .i64)),cuts:=[] }
abbrev Em:Tm:={ sl:=[(1, .k (.ptr 0 13 0 0)),(2, .k (.ptr 1 14 0 0)),(3, .k (.ptr 2 14 0 0)),(4, .t (.i .i64)),(5, .t (.i .i64))],ob:=[.box [.t (.st .GPensionhand_Fact)], .box [.t (.st .GFact)], .box [.t (.st .GFact)]] }
abbrev Av:Tm:={ sl:=[(1, .k (.ptr 0 13 0 0)),(2, .k (.ptr 1 14 0 0)),(3, .k (.ptr 2 14 0 0)),(4, .t (.i .i64)),(5, .t (.i .i64)),(6, .t (.s)),(7, .t (.i .i64))],ob:=[.box [.t (.st .GPensionhand_Fact)], .box [.t (.st .GFact)], .box [.t (.st .GFact)]] }
abbrev xV:Tm:={ sl:=[(1, .k (.ptr 0 13 0 0)),(2, .k (.ptr 1 14 0 0)),(3, .k (.ptr 2 14 0 0)),(4, .t (.i .i64)),(5, .t (.i .i64)),(6, .t (.s)),(7, .t (.i .i64))],ob:=[.box [.t (.st .GPensionhand_Fact)], .box [.t (.st .GFact)], .box [.t (.st .GFact)]] }
noncomputable def f24:FI:={ fid:=24,fn:=Tryz.f24,c:=aj Tryz.f24,ins:={ sl:=[(0, .t (.st .GPensionhand_Fact))] },out:=.new (.t (.st .GFact)),cuts:=[(127,Em),(2042,Av),(16339,xV)] }
abbrev KE:Tm:={ sl:=[(0, .t (.ls (.st .GPensionhand_Fact))),(1, .t (.ls (.i .i64))),(5, .k (.row 0 14)),(6, .t (.i .i64))],ob:=[.row 61 (.st .GFact)] }
abbrev C7:Tm:={ sl:=[(0, .t (.ls (.st .GPensionhand_Fact))),(1, .t (.ls (.i .i64))),(5, .k (.row 0 14)),(6, .t (.i .i64)),(7, .k (.ptr 1 13 0 0))],ob:=[.row 61 (.st .GFact), .box [.t (.st .GPensionhand_Fact)]] }
noncomputable def f7:FI:={ fid:=7,fn:=Tryz.f7,c:=aj Tryz.f7,ins:={ sl:=[(0, .t (.ls (.st .GPensionhand_Fact))),(1, .t (.ls (.i .i64)))] },out:=.own true 61 (.st .GFact),cuts:=[(58,KE),(7463,C7)] }
abbrev IJ:Tm:={ sl:=[(0, .t (.i .i64)),(3, .t (.s))],ob:=[] }
noncomputable def f92:FI:={ fid:=92,fn:=Tryz.f92,c:=aj Tryz.f92,ins:={ sl:=[(0, .t (.i .i64))] },out:=.new (.t (.s)),cuts:=[(28,IJ)] }
noncomputable def f167:FI:={ fid:=167,fn:=Tryz.f167,c:=aj Tryz.f167,ins:={ sl:=[(0, .t (.i .i64))] },out:=.new (.t (.s)),cuts:=[] }
abbrev Io:Tm:={ sl:=[(1, .t (.ls (.i .i64))),(2, .t (.i .i64)),(7, .t (.s)),(8, .t (.s))],ob:=[] }
abbrev D0:Tm:={ sl:=[(1, .t (.ls (.i .i64))),(2, .t (.i .i64)),(7, .t (.s)),(8, .t (.s))],ob:=[] }
abbrev DJ:Tm:={ sl:=[(1, .t (.ls (.i .i64))),(2, .t (.i .i64)),(7, .t (.s)),(8, .t (.s))],ob:=[] }
abbrev A2:Tm:={ sl:=[(1, .t (.ls (.i .i64))),(2, .t (.i .i64)),(8, .t (.s))],ob:=[] }
abbrev ym:Tm:={ sl:=[(1, .t (.ls (.i .i64))),(2, .t (.i .i64)),(8, .t (.s))],ob:=[] }
noncomputable def f93:FI:={ fid:=93,fn:=Tryz.f93,c:=aj Tryz.f93,ins:={ sl:=[(0, .t (.s)),(1, .t (.ls (.i .i64))),(2, .t (.i .i64))] },out:=.new (.t (.s)),cuts:=[(31,Io),(127,D0),(255,DJ),(8191,A2),(65535,ym)] }
abbrev IR:Tm:={ sl:=[(0, .t (.i .i64)),(1, .t (.ls (.i .i64))),(6, .t (.s))],ob:=[] }
noncomputable def f37:FI:={ fid:=37,fn:=Tryz.f37,c:=aj Tryz.f37,ins:={ sl:=[(0, .t (.i .i64)),(1, .t (.ls (.i .i64)))] },out:=.new (.t (.s)),cuts:=[(31,IR)] }
abbrev Ez:Tm:={ sl:=[(0, .t (.s)),(1, .t (.i .i64)),(5, .t (.b))],ob:=[] }
noncomputable def f259:FI:={ fid:=259,fn:=Tryz.f259,c:=aj Tryz.f259,ins:={ sl:=[(0, .t (.s)),(1, .t (.i .i64))] },out:=.new (.t (.i .i64)),cuts:=[(28,Ez)] }
noncomputable def f260:FI:={ fid:=260,fn:=Tryz.f260,c:=aj Tryz.f260,ins:={ sl:=[(0, .t (.i .u8))] },out:=.new (.t (.b)),cuts:=[] }
noncomputable def f262:FI:={ fid:=262,fn:=Tryz.f262,c:=aj Tryz.f262,ins:={ sl:=[(0, .t (.i .u8))] },out:=.new (.t (.b)),cuts:=[] }
abbrev DZ:Tm:={ sl:=[(0, .t (.s)),(1, .t (.i .i64)),(2, .t (.b)),(7, .t (.i .i64))],ob:=[] }
noncomputable def f261:FI:={ fid:=261,fn:=Tryz.f261,c:=aj Tryz.f261,ins:={ sl:=[(0, .t (.s)),(1, .t (.i .i64)),(2, .t (.b))] },out:=.new (.t (.i .i64)),cuts:=[(28,DZ)] }
abbrev DR:Tm:={ sl:=[(0, .t (.s)),(6, .t (.i .i64))],ob:=[] }
abbrev Aw:Tm:={ sl:=[(0, .t (.s)),(6, .t (.i .i64)),(8, .t (.i .i64)),(9, .t (.i .i64))],ob:=[] }
abbrev AO:Tm:={ sl:=[(6, .t (.i .i64)),(10, .t (.s)),(11, .t (.s))],ob:=[] }
abbrev xk:Tm:={ sl:=[(6, .t (.i .i64)),(10, .t (.s)),(11, .t (.s)),(12, .t (.i .i64))],ob:=[] }
noncomputable def f208:FI:={ fid:=208,fn:=Tryz.f208,c:=aj Tryz.f208,ins:={ sl:=[(0, .t (.s))] },out:=.new (.tp [.t (.s), .t (.s), .t (.i .i64), .t (.b)]),cuts:=[(15,DR),(250,Aw),(255,AO),(2042,xk)] }
abbrev DU:Tm:={ sl:=[(0, .t (.s)),(4, .t (.i .i64)),(5, .t (.i .i64))],ob:=[] }
noncomputable def f264:FI:={ fid:=264,fn:=Tryz.f264,c:=aj Tryz.f264,ins:={ sl:=[(0, .t (.s))] },out:=.new (.tp [.t (.i .i64), .t (.b)]),cuts:=[(58,DU)] }
noncomputable def f258:FI:={ fid:=258,fn:=Tryz.f258,c:=aj Tryz.f258,ins:={ sl:=[(0, .t (.i .i64))] },out:=.new (.t (.b)),cuts:=[] }
noncomputable def f201:FI:={ fid:=201,fn:=Tryz.f201,c:=aj Tryz.f201,ins:={ sl:=[(0, .t (.i .i64)),(1, .t (.i .i64))] },out:=.new (.t (.i .i64)),cuts:=[] }
abbrev Ee:Tm:={ sl:=[(0, .t (.i .i64)),(3, .t (.i .i64)),(4, .t (.i .i64))],ob:=[] }
noncomputable def f144:FI:={ fid:=144,fn:=Tryz.f144,c:=aj Tryz.f144,ins:={ sl:=[(0, .t (.i .i64))] },out:=.new (.t (.i .i64)),cuts:=[(58,Ee)] }
noncomputable def f265:FI:={ fid:=265,fn:=Tryz.f265,c:=aj Tryz.f265,ins:={ sl:=[(0, .t (.i .i64)),(1, .t (.i .i64)),(2, .t (.i .i64))] },out:=.new (.tp [.t (.i .i64), .t (.b)]),cuts:=[] }
noncomputable def f209:FI:={ fid:=209,fn:=Tryz.f209,c:=aj Tryz.f209,ins:={ sl:=[(0, .t (.s))] },out:=.new (.tp [.t (.i .i64), .t (.b)]),cuts:=[] }
abbrev Hh:Tm:={ sl:=[(0, .t (.s)),(1, .t (.i .i64))],ob:=[] }
abbrev Ag:Tm:={ sl:=[(29, .t (.b))],ob:=[] }
noncomputable def f263:FI:={ fid:=263,fn:=Tryz.f263,c:=aj Tryz.f263,ins:={ sl:=[(0, .t (.s)),(1, .t (.i .i64))] },out:=.new (.t (.i .i64)),cuts:=[(7,Hh),(117,Ag)] }
abbrev Ba:Tm:={ sl:=[(0, .t (.s)),(1, .t (.i .i64)),(4, .k (.ptr 0 3 0 0)),(7, .t (.i .i64)),(8, .t (.i .i64)),(9, .t (.b))],ob:=[.box [.t (.st .GToken)]] }
noncomputable def f205:FI:={ fid:=205,fn:=Tryz.f205,c:=aj Tryz.f205,ins:={ sl:=[(0, .t (.s)),(1, .t (.i .i64))] },out:=.new (.tp [.t (.st .GToken), .t (.i .i64), .t (.i .i64)]),cuts:=[(127,Ba)] }
abbrev DO:Tm:={ sl:=[(0, .t (.s)),(5, .k (.row 0 3)),(6, .t (.i .i64))],ob:=[.row 236 (.st .GToken)] }
noncomputable def f157:FI:={ fid:=157,fn:=Tryz.f157,c:=aj Tryz.f157,ins:={ sl:=[(0, .t (.s))] },out:=.new (.tp [.t (.ls (.st .GToken)), .t (.i .i64), .t (.i .i64)]),cuts:=[(62,DO)] }
noncomputable def f84:FI:={ fid:=84,fn:=Tryz.f84,c:=aj Tryz.f84,ins:={ sl:=[(0, .t (.s))],ob:=[] },out:=.gen2 ({ sl:=[(2000000, .tp [.tp [.k (.c (.lit (.pointer none))), .t (.i .i64), .t (.i .i64)]])],ob:=[] }) ({ sl:=[(2000000, .tp [.tp [.k (.ptr 0 4 0 0), .t (.i .i64), .t (.i .i64)]])],ob:=[.box [.t (.st .GPensionref5_reader)]] }),cuts:=[] }
noncomputable def f162:FI:={ fid:=162,fn:=Tryz.f162,c:=aj Tryz.f162,ins:={ sl:=[(0, .dp (.st .GPensionref5_reader)),(1, .t (.s))] },out:=.new (.t (.b)),cuts:=[] }
noncomputable def f88:FI:={ fid:=88,fn:=Tryz.f88,c:=aj Tryz.f88,ins:={ sl:=[(0, .k (.ptr 0 4 0 0)),(1, .t (.s)),(1000000, .k (.ptr 0 4 0 0))],ob:=[.box [.t (.st .GPensionref5_reader)]] },out:=.gen ({ sl:=[(1000000, .k (.ptr 0 4 0 0)),(2000000, .tp [.t (.b)])],ob:=[.box [.t (.st .GPensionref5_reader)]] }),cuts:=[] }
noncomputable def f158:FI:={ fid:=158,fn:=Tryz.f158,c:=aj Tryz.f158,ins:={ sl:=[(0, .k (.ptr 0 4 0 0)),(1000000, .k (.ptr 0 4 0 0))],ob:=[.box [.t (.st .GPensionref5_reader)]] },out:=.gen ({ sl:=[(1000000, .k (.ptr 0 4 0 0)),(2000000, .tp [.tp []])],ob:=[.box [.t (.st .GPensionref5_reader)]] }),cuts:=[] }
noncomputable def f85:FI:={ fid:=85,fn:=Tryz.f85,c:=aj Tryz.f85,ins:={ sl:=[(0, .k (.ptr 0 4 0 0)),(1, .t (.s)),(1000000, .k (.ptr 0 4 0 0))],ob:=[.box [.t (.st .GPensionref5_reader)]] },out:=.gen ({ sl:=[(1000000, .k (.ptr 0 4 0 0)),(2000000, .tp [.tp []])],ob:=[.box [.t (.st .GPensionref5_reader)]] }),cuts:=[] }
noncomputable def f159:FI:={ fid:=159,fn:=Tryz.f159,c:=aj Tryz.f159,ins:={ sl:=[(0, .dp (.st .GPensionref5_reader)),(1, .t (.i .i64))] },out:=.new (.t (.b)),cuts:=[] }
abbrev CW:Tm:={ sl:=[(0, .t (.s)),(3, .t (.i .i64))],ob:=[] }
noncomputable def f206:FI:={ fid:=206,fn:=Tryz.f206,c:=aj Tryz.f206,ins:={ sl:=[(0, .t (.s))] },out:=.new (.t (.b)),cuts:=[(26,CW)] }
abbrev Ew:Tm:={ sl:=[(4, .t (.b))],ob:=[] }
noncomputable def f207:FI:={ fid:=207,fn:=Tryz.f207,c:=aj Tryz.f207,ins:={ sl:=[(0, .t (.s))] },out:=.new (.t (.b)),cuts:=[(53,Ew)] }
noncomputable def f160:FI:={ fid:=160,fn:=Tryz.f160,c:=aj Tryz.f160,ins:={ sl:=[(0, .t (.s))] },out:=.new (.t (.b)),cuts:=[] }
noncomputable def f86:FI:={ fid:=86,fn:=Tryz.f86,c:=aj Tryz.f86,ins:={ sl:=[(0, .k (.ptr 0 4 0 0)),(1000000, .k (.ptr 0 4 0 0))],ob:=[.box [.t (.st .GPensionref5_reader)]] },out:=.gen ({ sl:=[(1000000, .k (.ptr 0 4 0 0)),(2000000, .tp [.t (.s)])],ob:=[.box [.t (.st .GPensionref5_reader)]] }),cuts:=[] }
noncomputable def f149:FI:={ fid:=149,fn:=Tryz.f149,c:=aj Tryz.f149,ins:={ sl:=[(0, .t (.i .i64))] },out:=.new (.t (.i .u64)),cuts:=[] }
abbrev PE:Tm:={ sl:=[(0, .t (.i .u64)),(2, .t (.i .i64))],ob:=[] }
abbrev OI:Tm:={ sl:=[(0, .t (.i .u64)),(2, .t (.i .i64))],ob:=[] }
noncomputable def f234:FI:={ fid:=234,fn:=Tryz.f234,c:=aj Tryz.f234,ins:={ sl:=[(0, .t (.i .u64))] },out:=.new (.t (.i .i64)),cuts:=[(7,PE),(15,OI)] }
noncomputable def f256:FI:={ fid:=256,fn:=Tryz.f256,c:=aj Tryz.f256,ins:={ sl:=[(0, .t (.i .u64))] },out:=.new (.t (.i .i64)),cuts:=[] }
abbrev Hk:Tm:={ sl:=[(0, .t (.i .u64)),(1, .t (.i .u64)),(2, .t (.i .u64))],ob:=[] }
abbrev Dn:Tm:={ sl:=[(0, .t (.i .u64)),(1, .t (.i .u64)),(2, .t (.i .u64))],ob:=[] }
abbrev KP:Tm:={ sl:=[(2, .t (.i .u64)),(8, .t (.i .u64)),(9, .t (.i .u64)),(10, .t (.i .u64)),(11, .t (.i .u64)),(13, .t (.i .u64)),(14, .t (.i .u64)),(15, .t (.i .u64))],ob:=[] }
abbrev zJ:Tm:={ sl:=[(2, .t (.i .u64)),(8, .t (.i .u64)),(9, .t (.i .u64)),(10, .t (.i .u64)),(11, .t (.i .u64)),(13, .t (.i .u64)),(14, .t (.i .u64)),(15, .t (.i .u64)),(16, .t (.i .u64))],ob:=[] }
abbrev HH:Tm:={ sl:=[(2, .t (.i .u64)),(8, .t (.i .u64)),(14, .t (.i .u64)),(15, .t (.i .u64)),(17, .t (.i .u64)),(18, .t (.i .u64))],ob:=[] }
abbrev GY:Tm:={ sl:=[(2, .t (.i .u64)),(8, .t (.i .u64)),(9, .t (.i .u64)),(10, .t (.i .u64)),(14, .t (.i .u64)),(15, .t (.i .u64)),(16, .t (.i .u64)),(17, .t (.i .u64)),(18, .t (.i .u64))],ob:=[] }
noncomputable def f192:FI:={ fid:=192,fn:=Tryz.f192,c:=aj Tryz.f192,ins:={ sl:=[(0, .t (.i .u64)),(1, .t (.i .u64)),(2, .t (.i .u64))] },out:=.new (.tp [.t (.i .u64), .t (.i .u64)]),cuts:=[(7,Hk),(15,Dn),(65535,KP),(131068,zJ),(1048575,HH),(2097148,GY)] }
noncomputable def f202:FI:={ fid:=202,fn:=Tryz.f202,c:=aj Tryz.f202,ins:={ sl:=[(0, .t (.st .GPensionref1_wide)),(1, .t (.i .u64))] },out:=.new (.tp [.t (.st .GPensionref1_wide), .t (.i .u64)]),cuts:=[] }
abbrev Dv:Tm:={ sl:=[(0, .t (.i .u64)),(1, .t (.i .u64))],ob:=[] }
noncomputable def f199:FI:={ fid:=199,fn:=Tryz.f199,c:=aj Tryz.f199,ins:={ sl:=[(0, .t (.i .u64)),(1, .t (.i .u64))] },out:=.new (.t (.i .u64)),cuts:=[(12,Dv)] }
noncomputable def f168:FI:={ fid:=168,fn:=Tryz.f168,c:=aj Tryz.f168,ins:={ sl:=[(0, .t (.b)),(1, .t (.st .GPensionref1_wide)),(2, .t (.i .u64))] },out:=.new (.tp [.t (.st .GFraction), .t (.i .i64)]),cuts:=[] }
noncomputable def f94:FI:={ fid:=94,fn:=Tryz.f94,c:=aj Tryz.f94,ins:={ sl:=[(0, .t (.i .i64)),(1, .t (.i .i64))] },out:=.new (.tp [.t (.st .GFraction), .t (.i .i64)]),cuts:=[] }
abbrev zY:Tm:={ sl:=[(2, .k (.ptr 0 2 0 0)),(5, .t (.s)),(6, .t (.s)),(7, .t (.i .i64)),(9, .t (.i .i64)),(10, .t (.i .i64)),(11, .t (.i .i64))],ob:=[.box [.t (.st .GFraction)]] }
noncomputable def f161:FI:={ fid:=161,fn:=Tryz.f161,c:=aj Tryz.f161,ins:={ sl:=[(0, .t (.s))] },out:=.new (.tp [.t (.st .GFraction), .t (.i .i64), .t (.b)]),cuts:=[(250,zY)] }
noncomputable def f87:FI:={ fid:=87,fn:=Tryz.f87,c:=aj Tryz.f87,ins:={ sl:=[(0, .k (.ptr 0 4 0 0)),(1, .t (.i .i64)),(2, .t (.i .i64)),(1000000, .k (.ptr 0 4 0 0))],ob:=[.box [.t (.st .GPensionref5_reader)]] },out:=.gen ({ sl:=[(1000000, .k (.ptr 0 4 0 0)),(2000000, .tp [.t (.i .i64)])],ob:=[.box [.t (.st .GPensionref5_reader)]] }),cuts:=[] }
noncomputable def f163:FI:={ fid:=163,fn:=Tryz.f163,c:=aj Tryz.f163,ins:={ sl:=[(0, .t (.s))] },out:=.new (.t (.i .i64)),cuts:=[] }
noncomputable def f210:FI:={ fid:=210,fn:=Tryz.f210,c:=aj Tryz.f210,ins:={ sl:=[(0, .t (.s))] },out:=.new (.t (.i .i64)),cuts:=[] }
noncomputable def f211:FI:={ fid:=211,fn:=Tryz.f211,c:=aj Tryz.f211,ins:={ sl:=[(0, .t (.s))] },out:=.new (.t (.i .i64)),cuts:=[] }
noncomputable def f212:FI:={ fid:=212,fn:=Tryz.f212,c:=aj Tryz.f212,ins:={ sl:=[(0, .t (.s))] },out:=.new (.t (.i .i64)),cuts:=[] }
noncomputable def f164:FI:={ fid:=164,fn:=Tryz.f164,c:=aj Tryz.f164,ins:={ sl:=[(0, .k (.ptr 0 4 0 0)),(1, .t (.i .i64)),(1000000, .k (.ptr 0 4 0 0))],ob:=[.box [.t (.st .GPensionref5_reader)]] },out:=.gen ({ sl:=[(1000000, .k (.ptr 0 4 0 0)),(2000000, .tp [.t (.i .i64)])],ob:=[.box [.t (.st .GPensionref5_reader)]] }),cuts:=[] }
noncomputable def f269:FI:={ fid:=269,fn:=Tryz.f269,c:=aj Tryz.f269,ins:={ sl:=[(0, .t (.i .i64))] },out:=.new (.t (.i .i64)),cuts:=[] }
noncomputable def f287:FI:={ fid:=287,fn:=Tryz.f287,c:=aj Tryz.f287,ins:={ sl:=[(0, .k (.ptr 0 4 0 0)),(1, .t (.i .i64)),(1000000, .k (.ptr 0 4 0 0))],ob:=[.box [.t (.st .GPensionref5_reader)]] },out:=.gen ({ sl:=[(1000000, .k (.ptr 0 4 0 0)),(2000000, .tp [.t (.st .GExpr)])],ob:=[.box [.t (.st .GPensionref5_reader)]] }),cuts:=[] }
noncomputable def f266:FI:={ fid:=266,fn:=Tryz.f266,c:=aj Tryz.f266,ins:={ sl:=[(0, .k (.ptr 0 4 0 0)),(1000000, .k (.ptr 0 4 0 0))],ob:=[.box [.t (.st .GPensionref5_reader)]] },out:=.gen ({ sl:=[(1000000, .k (.ptr 0 4 0 0)),(2000000, .tp [.t (.st .GExpr)])],ob:=[.box [.t (.st .GPensionref5_reader)]] }),cuts:=[] }
abbrev vU:Tm:={ sl:=[(3, .t (.i .i64)),(12, .t (.b))],ob:=[] }
noncomputable def f288:FI:={ fid:=288,fn:=Tryz.f288,c:=aj Tryz.f288,ins:={ sl:=[(0, .t (.i .i64))] },out:=.new (.t (.i .i64)),cuts:=[(13823,vU)] }
noncomputable def f289:FI:={ fid:=289,fn:=Tryz.f289,c:=aj Tryz.f289,ins:={ sl:=[(0, .t (.i .i64))] },out:=.new (.t (.s)),cuts:=[] }
abbrev Dt:Tm:={ sl:=[(0, .dp (.st .GPensionref5_reader)),(1, .t (.i .i64)),(5, .t (.i .i64))],ob:=[] }
noncomputable def f267:FI:={ fid:=267,fn:=Tryz.f267,c:=aj Tryz.f267,ins:={ sl:=[(0, .dp (.st .GPensionref5_reader)),(1, .t (.i .i64))] },out:=.new (.t (.i .i64)),cuts:=[(26,Dt)] }
abbrev Aj:Tm:={ sl:=[(0, .k (.ptr 0 4 0 0)),(1, .t (.i .i64)),(4, .k (.ptr 1 6 0 0)),(8, .k (.ptr 2 6 0 0)),(1000000, .k (.ptr 0 4 0 0))],ob:=[.box [.t (.st .GPensionref5_reader)], .box [.t (.i .i64), .t (.st .GFraction), .t (.i .i64), .t (.s), .k (.c .nil)], .box [.t (.i .i64), .t (.st .GFraction), .t (.i .i64), .t (.s), .t (.ls (.st .GExpr))]] }
noncomputable def f213:FI:={ fid:=213,fn:=Tryz.f213,c:=aj Tryz.f213,ins:={ sl:=[(0, .k (.ptr 0 4 0 0)),(1, .t (.i .i64)),(1000000, .k (.ptr 0 4 0 0))],ob:=[.box [.t (.st .GPensionref5_reader)]] },out:=.gen ({ sl:=[(1000000, .k (.ptr 0 4 0 0)),(2000000, .tp [.t (.st .GExpr)])],ob:=[.box [.t (.st .GPensionref5_reader)]] }),cuts:=[(124,Aj)] }
abbrev AE:Tm:={ sl:=[(0, .k (.ptr 0 4 0 0)),(1000000, .k (.ptr 0 4 0 0)),(1000001, .k (.ptr 1 8 0 0))],ob:=[.box [.t (.st .GPensionref5_reader)], .box [.t (.i .i64), .t (.st .GRounding), .k (.row 2 2), .k (.row 3 3), .k (.row 4 7), .k (.row 5 13), .k (.row 6 7)], .row 130 (.st .GCredit), .row 182 (.st .GIndex), .row 189 (.st .GLet), .row 193 (.st .GGrant), .row 195 (.st .GReduce)] }
abbrev xL:Tm:={ sl:=[(0, .k (.ptr 0 4 0 0)),(1, .k (.ptr 1 8 0 0)),(4, .k (.ptr 2 2 0 0)),(1000000, .k (.ptr 0 4 0 0)),(1000001, .k (.ptr 1 8 0 0))],ob:=[.box [.t (.st .GPensionref5_reader)], .box [.t (.i .i64), .t (.st .GRounding), .k (.row 3 2), .k (.row 4 3), .k (.row 5 7), .k (.row 6 13), .k (.row 7 7)], .box [.t (.st .GCredit)], .row 130 (.st .GCredit), .row 182 (.st .GIndex), .row 189 (.st .GLet), .row 193 (.st .GGrant), .row 195 (.st .GReduce)] }
abbrev uE:Tm:={ sl:=[(0, .k (.ptr 0 4 0 0)),(1, .k (.ptr 1 8 0 0)),(6, .k (.ptr 2 3 0 0)),(1000000, .k (.ptr 0 4 0 0)),(1000001, .k (.ptr 1 8 0 0))],ob:=[.box [.t (.st .GPensionref5_reader)], .box [.t (.i .i64), .t (.st .GRounding), .k (.row 3 2), .k (.row 4 3), .k (.row 5 7), .k (.row 6 13), .k (.row 7 7)], .box [.t (.st .GIndex)], .row 130 (.st .GCredit), .row 182 (.st .GIndex), .row 189 (.st .GLet), .row 193 (.st .GGrant), .row 195 (.st .GReduce)] }
abbrev vf:Tm:={ sl:=[(0, .k (.ptr 0 4 0 0)),(1, .k (.ptr 1 8 0 0)),(6, .k (.ptr 2 3 0 0)),(1000000, .k (.ptr 0 4 0 0)),(1000001, .k (.ptr 1 8 0 0))],ob:=[.box [.t (.st .GPensionref5_reader)], .box [.t (.i .i64), .t (.st .GRounding), .k (.row 3 2), .k (.row 4 3), .k (.row 5 7), .k (.row 6 13), .k (.row 7 7)], .box [.t (.st .GIndex)], .row 130 (.st .GCredit), .row 182 (.st .GIndex), .row 189 (.st .GLet), .row 193 (.st .GGrant), .row 195 (.st .GReduce)] }
noncomputable def gn:FI:={ fid:=165,fn:=Tryz.f165,c:=aj Tryz.f165,ins:={ sl:=[(0, .k (.ptr 0 4 0 0)),(1, .k (.ptr 1 8 0 0)),(1000000, .k (.ptr 0 4 0 0)),(1000001, .k (.ptr 1 8 0 0))],ob:=[.box [.t (.st .GPensionref5_reader)], .box [.t (.i .i64), .t (.st .GRounding), .k (.row 2 2), .k (.row 3 3), .k (.row 4 7), .k (.row 5 13), .k (.row 6 7)], .row 130 (.st .GCredit), .row 182 (.st .GIndex), .row 189 (.st .GLet), .row 193 (.st .GGrant), .row 195 (.st .GReduce)] },out:=.gen ({ sl:=[(1000000, .k (.ptr 0 4 0 0)),(1000001, .k (.ptr 1 8 0 0)),(2000000, .tp [.tp []])],ob:=[.box [.t (.st .GPensionref5_reader)], .box [.t (.i .i64), .t (.st .GRounding), .k (.row 2 2), .k (.row 3 3), .k (.row 4 7), .k (.row 5 13), .k (.row 6 7)], .row 130 (.st .GCredit), .row 182 (.st .GIndex), .row 189 (.st .GLet), .row 193 (.st .GGrant), .row 195 (.st .GReduce)] }),cuts:=[(3,AE),(75,xL),(315,uE),(631,vf)] }
abbrev Ht:Tm:={ sl:=[(0, .k (.ptr 0 4 0 0)),(2, .k (.ptr 1 8 0 0)),(3, .k (.ptr 2 8 0 0)),(1000000, .k (.ptr 0 4 0 0))],ob:=[.box [.t (.st .GPensionref5_reader)], .box [.t (.i .i64), .t (.st .GRounding), .k (.c .nil), .k (.c .nil), .k (.c .nil), .k (.c .nil), .k (.c .nil)], .box [.t (.i .i64), .t (.st .GRounding), .k (.c .nil), .k (.c .nil), .k (.c .nil), .k (.c .nil), .k (.c .nil)]] }
abbrev zV:Tm:={ sl:=[(0, .k (.ptr 0 4 0 0)),(2, .k (.ptr 1 8 0 0)),(3, .k (.ptr 2 8 0 0)),(1000000, .k (.ptr 0 4 0 0))],ob:=[.box [.t (.st .GPensionref5_reader)], .box [.t (.i .i64), .t (.st .GRounding), .k (.c .nil), .k (.c .nil), .k (.c .nil), .k (.c .nil), .k (.c .nil)], .box [.t (.i .i64), .t (.st .GRounding), .k (.row 3 2), .k (.row 4 3), .k (.row 5 7), .k (.row 6 13), .k (.row 7 7)], .row 130 (.st .GCredit), .row 182 (.st .GIndex), .row 189 (.st .GLet), .row 193 (.st .GGrant), .row 195 (.st .GReduce)] }
noncomputable def f89:FI:={ fid:=89,fn:=Tryz.f89,c:=aj Tryz.f89,ins:={ sl:=[(0, .k (.ptr 0 4 0 0)),(1000000, .k (.ptr 0 4 0 0))],ob:=[.box [.t (.st .GPensionref5_reader)]] },out:=.gen ({ sl:=[(1000000, .k (.ptr 0 4 0 0)),(2000000, .tp [.t (.st .GVersion)])],ob:=[.box [.t (.st .GPensionref5_reader)]] }),cuts:=[(31,Ht),(4092,zV)] }
noncomputable def f90:FI:={ fid:=90,fn:=Tryz.f90,c:=aj Tryz.f90,ins:={ sl:=[(0, .dp (.st .GPensionref5_reader))] },out:=.new (.t (.i .i64)),cuts:=[] }
noncomputable def f78:FI:={ fid:=78,fn:=Tryz.f78,c:=aj Tryz.f78,ins:={ sl:=[(0, .t (.i .i64))] },out:=.new (.t (.b)),cuts:=[] }
noncomputable def f147:FI:={ fid:=147,fn:=Tryz.f147,c:=aj Tryz.f147,ins:={ sl:=[(0, .t (.st .GRounding))] },out:=.new (.t (.b)),cuts:=[] }
abbrev Dw:Tm:={ sl:=[(0, .t (.i .i64)),(1, .t (.i .i64)),(5, .k (.row 0 1)),(6, .t (.i .i64))],ob:=[.row 9 (.s)] }
noncomputable def f214:FI:={ fid:=214,fn:=Tryz.f214,c:=aj Tryz.f214,ins:={ sl:=[(0, .t (.i .i64)),(1, .t (.i .i64))] },out:=.new (.t (.s)),cuts:=[(58,Dw)] }
noncomputable def f140:FI:={ fid:=140,fn:=Tryz.f140,c:=aj Tryz.f140,ins:={ sl:=[(0, .t (.st .GFraction))] },out:=.new (.t (.b)),cuts:=[] }
abbrev C3:Tm:={ sl:=[(0, .t (.i .i64)),(1, .t (.i .i64)),(5, .t (.s))],ob:=[] }
noncomputable def f290:FI:={ fid:=290,fn:=Tryz.f290,c:=aj Tryz.f290,ins:={ sl:=[(0, .t (.i .i64)),(1, .t (.i .i64))] },out:=.new (.t (.s)),cuts:=[(28,C3)] }
abbrev Ep:Tm:={ sl:=[(1, .k (.ptr 0 2 0 0)),(3, .t (.s))],ob:=[.box [.t (.st .GFraction)]] }
noncomputable def f268:FI:={ fid:=268,fn:=Tryz.f268,c:=aj Tryz.f268,ins:={ sl:=[(0, .t (.st .GFraction))] },out:=.new (.t (.s)),cuts:=[(31,Ep)] }
abbrev wU:Tm:={ sl:=[(1, .t (.i .i64)),(7, .t (.s)),(8, .t (.i .i64)),(9, .t (.i .i64))],ob:=[] }
noncomputable def f215:FI:={ fid:=215,fn:=Tryz.f215,c:=aj Tryz.f215,ins:={ sl:=[(0, .t (.st .GFraction)),(1, .t (.i .i64))] },out:=.new (.tp [.t (.s), .t (.b)]),cuts:=[(2042,wU)] }
abbrev DP:Tm:={ sl:=[(1, .k (.ptr 0 6 0 0)),(3, .t (.i .i64)),(4, .t (.i .i64))],ob:=[.box [.t (.i .i64), .t (.st .GFraction), .t (.i .i64), .t (.s), .t (.ls (.st .GExpr))]] }
noncomputable def f218:FI:={ fid:=218,fn:=Tryz.f218,c:=aj Tryz.f218,ins:={ sl:=[(0, .t (.st .GExpr))] },out:=.data (.t (.i .i64)),cuts:=[(58,DP)] }
abbrev EH:Tm:={ sl:=[(1, .k (.ptr 0 6 0 0)),(3, .t (.i .i64)),(4, .t (.i .i64))],ob:=[.box [.t (.i .i64), .t (.st .GFraction), .t (.i .i64), .t (.s), .t (.ls (.st .GExpr))]] }
noncomputable def f219:FI:={ fid:=219,fn:=Tryz.f219,c:=aj Tryz.f219,ins:={ sl:=[(0, .t (.st .GExpr))] },out:=.data (.t (.i .i64)),cuts:=[(58,EH)] }
abbrev Ae:Tm:={ sl:=[(1, .k (.ptr 0 6 0 0)),(3, .t (.b)),(6, .t (.i .i64))],ob:=[.box [.t (.i .i64), .t (.st .GFraction), .t (.i .i64), .t (.s), .t (.ls (.st .GExpr))]] }
noncomputable def f220:FI:={ fid:=220,fn:=Tryz.f220,c:=aj Tryz.f220,ins:={ sl:=[(0, .t (.st .GExpr))] },out:=.new (.t (.b)),cuts:=[(250,Ae)] }
noncomputable def f170:FI:={ fid:=170,fn:=Tryz.f170,c:=aj Tryz.f170,ins:={ sl:=[(0, .t (.st .GExpr))] },out:=.new (.t (.b)),cuts:=[] }
abbrev DI:Tm:={ sl:=[(1, .k (.ptr 0 8 0 0)),(3, .t (.i .i64))],ob:=[.box [.t (.i .i64), .t (.st .GRounding), .t (.ls (.st .GCredit)), .t (.ls (.st .GIndex)), .t (.ls (.st .GLet)), .t (.ls (.st .GGrant)), .t (.ls (.st .GReduce))]] }
abbrev A3:Tm:={ sl:=[(1, .k (.ptr 0 8 0 0)),(4, .t (.i .i64))],ob:=[.box [.t (.i .i64), .t (.st .GRounding), .t (.ls (.st .GCredit)), .t (.ls (.st .GIndex)), .t (.ls (.st .GLet)), .t (.ls (.st .GGrant)), .t (.ls (.st .GReduce))]] }
abbrev zX:Tm:={ sl:=[(1, .k (.ptr 0 8 0 0)),(7, .t (.i .i64))],ob:=[.box [.t (.i .i64), .t (.st .GRounding), .t (.ls (.st .GCredit)), .t (.ls (.st .GIndex)), .t (.ls (.st .GLet)), .t (.ls (.st .GGrant)), .t (.ls (.st .GReduce))]] }
abbrev zP:Tm:={ sl:=[(1, .k (.ptr 0 8 0 0)),(8, .t (.i .i64))],ob:=[.box [.t (.i .i64), .t (.st .GRounding), .t (.ls (.st .GCredit)), .t (.ls (.st .GIndex)), .t (.ls (.st .GLet)), .t (.ls (.st .GGrant)), .t (.ls (.st .GReduce))]] }
abbrev yb:Tm:={ sl:=[(1, .k (.ptr 0 8 0 0)),(9, .t (.i .i64))],ob:=[.box [.t (.i .i64), .t (.st .GRounding), .t (.ls (.st .GCredit)), .t (.ls (.st .GIndex)), .t (.ls (.st .GLet)), .t (.ls (.st .GGrant)), .t (.ls (.st .GReduce))]] }
noncomputable def f166:FI:={ fid:=166,fn:=Tryz.f166,c:=aj Tryz.f166,ins:={ sl:=[(0, .t (.st .GVersion))] },out:=.new (.t (.b)),cuts:=[(58,DI),(122,A3),(250,zX),(506,zP),(1018,yb)] }
abbrev GI:Tm:={ sl:=[(1, .k (.ptr 0 3 0 0)),(3, .t (.i .i64))],ob:=[.box [.t (.s), .t (.i .i64), .t (.ls (.st .GVersion))]] }
noncomputable def f91:FI:={ fid:=91,fn:=Tryz.f91,c:=aj Tryz.f91,ins:={ sl:=[(0, .t (.st .GStatute))] },out:=.new (.t (.b)),cuts:=[(58,GI)] }
abbrev A7:Tm:={ sl:=[(2, .k (.ptr 0 3 0 0)),(5, .k (.ptr 1 4 0 0)),(8, .k (.ptr 2 3 0 0)),(9, .t (.b))],ob:=[.box [.t (.s), .t (.i .i64), .k (.c .nil)], .box [.t (.st .GPensionref5_reader)], .box [.t (.s), .t (.i .i64), .k (.row 3 8)], .row 107 (.st .GVersion)] }
noncomputable def f36:FI:={ fid:=36,fn:=Tryz.f36,c:=aj Tryz.f36,ins:={ sl:=[(0, .t (.s))] },out:=.data (.tp [.t (.st .GStatute), .t (.i .i64), .t (.i .i64)]),cuts:=[(4090,A7)] }
abbrev LB:Tm:={ sl:=[(0, .t (.ls (.i .i64))),(2, .k (.ptr 0 3 0 0)),(3, .k (.ptr 1 3 0 0)),(4, .t (.i .i64))],ob:=[.box [.k (.c .nil), .k (.c .nil), .k (.c .nil)], .box [.k (.row 2 4), .k (.c .nil), .k (.row 3 4)], .row 97 (.st .GState), .row 89 (.st .GRate)] }
noncomputable def f9:FI:={ fid:=9,fn:=Tryz.f9,c:=aj Tryz.f9,ins:={ sl:=[(0, .t (.ls (.i .i64)))],ob:=[] },out:=.gen ({ sl:=[(2000000, .tp [.ag [.k (.row 0 4), .k (.row 1 5), .k (.row 2 4)]])],ob:=[.row 97 (.st .GState), .row 76 (.st .GRules), .row 89 (.st .GRate)] }),cuts:=[(58,LB)] }
abbrev EL:Tm:={ sl:=[(0, .t (.ls (.st .GRules))),(3, .t (.i .i64))],ob:=[] }
abbrev yr:Tm:={ sl:=[(0, .t (.ls (.st .GRules))),(3, .t (.i .i64)),(4, .k (.ptr 0 5 0 0)),(5, .t (.i .i64))],ob:=[.box [.t (.st .GRules)]] }
noncomputable def f28:FI:={ fid:=28,fn:=Tryz.f28,c:=aj Tryz.f28,ins:={ sl:=[(0, .t (.ls (.st .GRules)))] },out:=.new (.t (.i .i64)),cuts:=[(122,EL),(31310,yr)] }
abbrev H5:Tm:={ sl:=[(0, .t (.ls (.st .GFact))),(3, .k (.row 0 14)),(4, .t (.i .i64))],ob:=[.row 61 (.st .GFact)] }
noncomputable def f29:FI:={ fid:=29,fn:=Tryz.f29,c:=aj Tryz.f29,ins:={ sl:=[(0, .t (.ls (.st .GFact)))] },out:=.own true 61 (.st .GFact),cuts:=[(58,H5)] }
abbrev Ak:Tm:={ sl:=[(1, .t (.i .i64)),(6, .k (.row 0 14)),(7, .t (.i .i64)),(8, .t (.b)),(9, .t (.i .i64))],ob:=[.row 61 (.st .GFact)] }
noncomputable def f154:FI:={ fid:=154,fn:=Tryz.f154,c:=aj Tryz.f154,ins:={ sl:=[(0, .t (.ls (.st .GFact))),(1, .t (.i .i64))] },out:=.new (.tp [.t (.i .i64), .t (.b)]),cuts:=[(122,Ak)] }
noncomputable def f80:FI:={ fid:=80,fn:=Tryz.f80,c:=aj Tryz.f80,ins:={ sl:=[(0, .t (.ls (.st .GFact)))] },out:=.new (.tp [.t (.i .i64), .t (.b)]),cuts:=[] }
noncomputable def f81:FI:={ fid:=81,fn:=Tryz.f81,c:=aj Tryz.f81,ins:={ sl:=[(0, .t (.ls (.st .GFact)))] },out:=.new (.tp [.t (.i .i64), .t (.b)]),cuts:=[] }
noncomputable def f31:FI:={ fid:=31,fn:=Tryz.f31,c:=aj Tryz.f31,ins:={ sl:=[(0, .t (.ls (.st .GFact)))] },out:=.new (.t (.st .GSpan)),cuts:=[] }
noncomputable def f180:FI:={ fid:=180,fn:=Tryz.f180,c:=aj Tryz.f180,ins:={ sl:=[(0, .t (.st .GSpan))] },out:=.new (.tp [.t (.st .GSpan), .t (.b)]),cuts:=[] }
abbrev H7:Tm:={ sl:=[(0, .t (.ls (.i .i64))),(1, .t (.i .i64)),(5, .t (.i .i64))],ob:=[] }
noncomputable def f32:FI:={ fid:=32,fn:=Tryz.f32,c:=aj Tryz.f32,ins:={ sl:=[(0, .t (.ls (.i .i64))),(1, .t (.i .i64))] },out:=.data (.t (.ls (.i .i64))),cuts:=[(28,H7)] }
abbrev Ej:Tm:={ sl:=[(0, .t (.ls (.ls (.st .GSpan)))),(3, .t (.ls (.i .i64))),(4, .t (.i .i64))],ob:=[] }
abbrev xS:Tm:={ sl:=[(0, .t (.ls (.ls (.st .GSpan)))),(3, .t (.ls (.i .i64))),(4, .t (.i .i64)),(5, .t (.i .i64))],ob:=[] }
noncomputable def f111:FI:={ fid:=111,fn:=Tryz.f111,c:=aj Tryz.f111,ins:={ sl:=[(0, .t (.ls (.ls (.st .GSpan))))] },out:=.data (.t (.ls (.i .i64))),cuts:=[(58,Ej),(3730,xS)] }
abbrev DF:Tm:={ sl:=[(0, .t (.ls (.st .GSpan))),(1, .t (.i .i64)),(5, .t (.i .i64))],ob:=[] }
noncomputable def f112:FI:={ fid:=112,fn:=Tryz.f112,c:=aj Tryz.f112,ins:={ sl:=[(0, .t (.ls (.st .GSpan))),(1, .t (.i .i64))] },out:=.new (.t (.b)),cuts:=[(26,DF)] }
noncomputable def f113:FI:={ fid:=113,fn:=Tryz.f113,c:=aj Tryz.f113,ins:={ sl:=[(0, .t (.ls (.st .GSpan))),(1, .t (.st .GSpan))] },out:=.own true 50 (.st .GSpan),cuts:=[] }
abbrev Ed:Tm:={ sl:=[(0, .t (.ls (.st .GSpan))),(1, .t (.ls (.st .GSpan))),(2, .t (.i .i64)),(7, .t (.ls (.i .i64))),(8, .k (.row 0 2)),(9, .t (.i .i64))],ob:=[.row 50 (.st .GSpan)] }
noncomputable def f55:FI:={ fid:=55,fn:=Tryz.f55,c:=aj Tryz.f55,ins:={ sl:=[(0, .t (.ls (.st .GSpan))),(1, .t (.ls (.st .GSpan))),(2, .t (.i .i64))] },out:=.own true 50 (.st .GSpan),cuts:=[(122,Ed)] }
noncomputable def f18:FI:={ fid:=18,fn:=Tryz.f18,c:=aj Tryz.f18,ins:={ sl:=[(0, .t (.ls (.st .GSpan))),(1, .t (.st .GSpan))] },out:=.own true 50 (.st .GSpan),cuts:=[] }
abbrev Ia:Tm:={ sl:=[(0, .t (.ls (.st .GPosting))),(3, .k (.ptr 0 4 0 0)),(5, .t (.i .i64))],ob:=[.box [.t (.st .GPosting)]] }
noncomputable def f79:FI:={ fid:=79,fn:=Tryz.f79,c:=aj Tryz.f79,ins:={ sl:=[(0, .t (.ls (.st .GPosting))),(1, .t (.st .GPosting))] },out:=.own true 78 (.st .GPosting),cuts:=[(28,Ia)] }
abbrev CS:Tm:={ sl:=[(0, .t (.ls (.st .GFact))),(3, .k (.row 0 14)),(4, .k (.row 1 4)),(5, .t (.i .i64))],ob:=[.row 61 (.st .GFact), .row 78 (.st .GPosting)] }
abbrev A1:Tm:={ sl:=[(0, .t (.ls (.st .GFact))),(3, .k (.row 0 14)),(4, .k (.row 1 4)),(5, .t (.i .i64)),(6, .t (.i .i64))],ob:=[.row 61 (.st .GFact), .row 78 (.st .GPosting)] }
abbrev tr:Tm:={ sl:=[(0, .t (.ls (.st .GFact))),(3, .k (.row 0 14)),(4, .k (.row 1 4)),(5, .t (.i .i64)),(6, .t (.i .i64)),(7, .k (.row 2 2)),(8, .t (.i .i64))],ob:=[.row 61 (.st .GFact), .row 78 (.st .GPosting), .row 50 (.st .GSpan)] }
abbrev tz:Tm:={ sl:=[(0, .t (.ls (.st .GFact))),(3, .k (.row 0 14)),(4, .k (.row 1 4)),(5, .t (.i .i64)),(6, .t (.i .i64)),(7, .k (.row 2 2)),(9, .t (.i .i64))],ob:=[.row 61 (.st .GFact), .row 78 (.st .GPosting), .row 50 (.st .GSpan)] }
noncomputable def f30:FI:={ fid:=30,fn:=Tryz.f30,c:=aj Tryz.f30,ins:={ sl:=[(0, .t (.ls (.st .GFact)))] },out:=.own true 78 (.st .GPosting),cuts:=[(122,CS),(7826,A1),(2003530,tr),(4007070,tz)] }
abbrev HE:Tm:={ sl:=[(0, .t (.ls (.st .GRules))),(1, .t (.i .i64)),(4, .k (.ptr 0 5 0 0)),(6, .t (.i .i64))],ob:=[.box [.t (.st .GRules)]] }
noncomputable def f33:FI:={ fid:=33,fn:=Tryz.f33,c:=aj Tryz.f33,ins:={ sl:=[(0, .t (.ls (.st .GRules))),(1, .t (.i .i64))] },out:=.new (.tp [.t (.st .GRules), .t (.b)]),cuts:=[(26,HE)] }
noncomputable def f34:FI:={ fid:=34,fn:=Tryz.f34,c:=aj Tryz.f34,ins:={ sl:=[(0, .t (.st .GSpan)),(1, .t (.i .i64))] },out:=.new (.t (.b)),cuts:=[] }
abbrev DD:Tm:={ sl:=[(0, .t (.ls (.st .GFact))),(1, .t (.i .i64)),(4, .k (.ptr 0 1 0 0)),(5, .k (.ptr 1 1 0 0)),(6, .t (.i .i64))],ob:=[.row 230 (.i .i64), .row 230 (.i .i64)] }
noncomputable def f155:FI:={ fid:=155,fn:=Tryz.f155,c:=aj Tryz.f155,ins:={ sl:=[(0, .t (.ls (.st .GFact))),(1, .t (.i .i64))] },out:=.new (.t (.arr 6 (.i .i64))),cuts:=[(58,DD)] }
abbrev Et:Tm:={ sl:=[(0, .t (.ls (.st .GFact))),(1, .t (.i .i64)),(6, .k (.row 0 14)),(7, .t (.i .i64)),(8, .t (.i .i64))],ob:=[.row 61 (.st .GFact)] }
noncomputable def f83:FI:={ fid:=83,fn:=Tryz.f83,c:=aj Tryz.f83,ins:={ sl:=[(0, .t (.ls (.st .GFact))),(1, .t (.i .i64))] },out:=.new (.tp [.t (.i .i64), .t (.b)]),cuts:=[(122,Et)] }
abbrev D8:Tm:={ sl:=[(0, .t (.ls (.st .GFact))),(1, .t (.i .i64)),(5, .t (.ls (.i .i64))),(6, .t (.i .i64))],ob:=[] }
noncomputable def f156:FI:={ fid:=156,fn:=Tryz.f156,c:=aj Tryz.f156,ins:={ sl:=[(0, .t (.ls (.st .GFact))),(1, .t (.i .i64))] },out:=.data (.t (.ls (.i .i64))),cuts:=[(58,D8)] }
abbrev Dc:Tm:={ sl:=[(0, .t (.ls (.st .GFact))),(1, .t (.ls (.st .GFact))),(3, .t (.i .i64)),(6, .k (.ptr 0 5 0 0)),(10, .k (.ptr 1 1 0 0)),(11, .t (.i .i64)),(12, .t (.i .i64)),(13, .t (.i .i64)),(14, .t (.i .i64))],ob:=[.box [.t (.st .GRules)], .row 230 (.i .i64)] }
noncomputable def f82:FI:={ fid:=82,fn:=Tryz.f82,c:=aj Tryz.f82,ins:={ sl:=[(0, .t (.ls (.st .GFact))),(1, .t (.ls (.st .GFact))),(2, .t (.st .GRules)),(3, .t (.i .i64))] },out:=.new (.tp [.t (.i .i64), .t (.b)]),cuts:=[(122,Dc)] }
abbrev G1:Tm:={ sl:=[(0, .t (.ls (.st .GFact))),(1, .t (.ls (.st .GFact))),(2, .t (.ls (.st .GPosting))),(4, .t (.i .i64)),(8, .k (.ptr 0 5 0 0)),(12, .t (.i .i64)),(13, .t (.i .i64))],ob:=[.box [.t (.st .GRules)]] }
abbrev DY:Tm:={ sl:=[(0, .t (.ls (.st .GFact))),(1, .t (.ls (.st .GFact))),(4, .t (.i .i64)),(8, .k (.ptr 0 5 0 0)),(12, .t (.i .i64)),(14, .t (.i .i64))],ob:=[.box [.t (.st .GRules)]] }
abbrev AC:Tm:={ sl:=[(0, .t (.ls (.st .GFact))),(1, .t (.ls (.st .GFact))),(4, .t (.i .i64)),(12, .t (.i .i64)),(17, .t (.i .i64))],ob:=[] }
noncomputable def f35:FI:={ fid:=35,fn:=Tryz.f35,c:=aj Tryz.f35,ins:={ sl:=[(0, .t (.ls (.st .GFact))),(1, .t (.ls (.st .GFact))),(2, .t (.ls (.st .GPosting))),(3, .t (.st .GRules)),(4, .t (.i .i64))] },out:=.new (.tp [.t (.i .i64), .t (.i .i64)]),cuts:=[(58,G1),(250,DY),(2042,AC)] }
abbrev GW:Tm:={ sl:=[(0, .t (.ls (.st .GFact))),(1, .t (.ls (.st .GRules))),(5, .k (.row 0 14)),(6, .k (.row 1 4)),(7, .k (.ptr 2 2 0 0)),(8, .t (.ls (.i .i64))),(9, .t (.i .i64))],ob:=[.row 61 (.st .GFact), .row 78 (.st .GPosting), .box [.t (.st .GSpan)]] }
abbrev IB:Tm:={ sl:=[(0, .t (.ls (.st .GFact))),(1, .t (.ls (.st .GRules))),(5, .k (.row 0 14)),(6, .k (.row 1 4)),(7, .k (.ptr 2 2 0 0)),(8, .t (.ls (.i .i64))),(10, .t (.i .i64))],ob:=[.row 61 (.st .GFact), .row 78 (.st .GPosting), .box [.t (.st .GSpan)]] }
abbrev Do:Tm:={ sl:=[(0, .t (.ls (.st .GFact))),(1, .t (.ls (.st .GRules))),(5, .k (.row 0 14)),(6, .k (.row 1 4)),(7, .k (.ptr 2 2 0 0)),(8, .t (.ls (.i .i64))),(12, .t (.i .i64))],ob:=[.row 61 (.st .GFact), .row 78 (.st .GPosting), .box [.t (.st .GSpan)]] }
abbrev D4:Tm:={ sl:=[(0, .t (.ls (.st .GFact))),(1, .t (.ls (.st .GRules))),(5, .k (.row 0 14)),(6, .k (.row 1 4)),(7, .k (.ptr 2 2 0 0)),(8, .t (.ls (.i .i64))),(13, .k (.row 3 4)),(14, .t (.i .i64))],ob:=[.row 61 (.st .GFact), .row 78 (.st .GPosting), .box [.t (.st .GSpan)], .row 85 (.st .GSegment)] }
abbrev zQ:Tm:={ sl:=[(0, .t (.ls (.st .GFact))),(1, .t (.ls (.st .GRules))),(5, .k (.row 0 14)),(6, .k (.row 1 4)),(7, .k (.ptr 2 2 0 0)),(8, .t (.ls (.i .i64))),(10, .t (.i .i64)),(11, .t (.i .i64))],ob:=[.row 61 (.st .GFact), .row 78 (.st .GPosting), .box [.t (.st .GSpan)]] }
noncomputable def f8:FI:={ fid:=8,fn:=Tryz.f8,c:=aj Tryz.f8,ins:={ sl:=[(0, .t (.ls (.st .GFact))),(1, .t (.ls (.st .GRules)))] },out:=.own true 85 (.st .GSegment),cuts:=[(250,GW),(506,IB),(1018,Do),(4090,D4),(64806,zQ)] }
noncomputable def f95:FI:={ fid:=95,fn:=Tryz.f95,c:=aj Tryz.f95,ins:={ sl:=[(0, .t (.i .i64))] },out:=.new (.t (.s)),cuts:=[] }
abbrev Dl:Tm:={ sl:=[(0, .k (.ptr 0 3 0 0)),(1, .t (.i .i64)),(5, .t (.i .i64)),(1000000, .k (.ptr 0 3 0 0))],ob:=[.box [.t (.st .GPensionmade_source)]] }
noncomputable def f216:FI:={ fid:=216,fn:=Tryz.f216,c:=aj Tryz.f216,ins:={ sl:=[(0, .k (.ptr 0 3 0 0)),(1, .t (.i .i64)),(1000000, .k (.ptr 0 3 0 0))],ob:=[.box [.t (.st .GPensionmade_source)]] },out:=.gen ({ sl:=[(1000000, .k (.ptr 0 3 0 0)),(2000000, .tp [.t (.i .i64)])],ob:=[.box [.t (.st .GPensionmade_source)]] }),cuts:=[(15,Dl)] }
noncomputable def f270:FI:={ fid:=270,fn:=Tryz.f270,c:=aj Tryz.f270,ins:={ sl:=[] },out:=.own true 9 (.s),cuts:=[] }
abbrev D6:Tm:={ sl:=[(4, .t (.s)),(5, .t (.b))],ob:=[] }
abbrev zU:Tm:={ sl:=[(4, .t (.s)),(9, .t (.b))],ob:=[] }
noncomputable def f271:FI:={ fid:=271,fn:=Tryz.f271,c:=aj Tryz.f271,ins:={ sl:=[(0, .t (.s))] },out:=.new (.tp [.t (.i .i64), .t (.b)]),cuts:=[(53,D6),(215,zU)] }
abbrev AU:Tm:={ sl:=[(0, .t (.i .i64)),(3, .k (.row 0 1)),(4, .k (.row 1 1)),(5, .t (.i .i64))],ob:=[.row 9 (.s), .row 9 (.s)] }
noncomputable def f221:FI:={ fid:=221,fn:=Tryz.f221,c:=aj Tryz.f221,ins:={ sl:=[(0, .t (.i .i64))] },out:=.own true 9 (.s),cuts:=[(122,AU)] }
noncomputable def f222:FI:={ fid:=222,fn:=Tryz.f222,c:=aj Tryz.f222,ins:={ sl:=[(0, .k (.ptr 0 3 0 0)),(1000000, .k (.ptr 0 3 0 0))],ob:=[.box [.t (.st .GPensionmade_source)]] },out:=.gen ({ sl:=[(1000000, .k (.ptr 0 3 0 0)),(2000000, .tp [.t (.st .GFraction)])],ob:=[.box [.t (.st .GPensionmade_source)]] }),cuts:=[] }
abbrev uf:Tm:={ sl:=[(0, .k (.ptr 0 3 0 0)),(1, .t (.i .i64)),(2, .k (.row 1 2)),(6, .k (.ptr 2 6 0 0)),(8, .k (.row 3 1)),(9, .t (.i .i64)),(1000000, .k (.ptr 0 3 0 0)),(1000002, .k (.row 1 2))],ob:=[.box [.t (.st .GPensionmade_source)], .row 191 (.st .GBinding), .box [.t (.i .i64), .t (.st .GFraction), .t (.i .i64), .t (.s), .k (.c .nil)], .row 9 (.s)] }
noncomputable def oX:FI:={ fid:=171,fn:=Tryz.f171,c:=aj Tryz.f171,ins:={ sl:=[(0, .k (.ptr 0 3 0 0)),(1, .t (.i .i64)),(2, .k (.row 1 2)),(1000000, .k (.ptr 0 3 0 0)),(1000002, .k (.row 1 2))],ob:=[.box [.t (.st .GPensionmade_source)], .row 191 (.st .GBinding)] },out:=.gen ({ sl:=[(1000000, .k (.ptr 0 3 0 0)),(1000002, .k (.row 1 2)),(2000000, .tp [.t (.st .GExpr)])],ob:=[.box [.t (.st .GPensionmade_source)], .row 191 (.st .GBinding)] }),cuts:=[(250,uf)] }
abbrev w9:Tm:={ sl:=[(0, .k (.ptr 0 3 0 0)),(2, .t (.i .i64)),(3, .k (.row 1 2)),(4, .t (.ls (.i .i64))),(10, .k (.ptr 2 6 0 0)),(11, .k (.ptr 3 6 0 0)),(12, .t (.i .i64)),(1000000, .k (.ptr 0 3 0 0)),(1000003, .k (.row 1 2))],ob:=[.box [.t (.st .GPensionmade_source)], .row 191 (.st .GBinding), .box [.t (.i .i64), .t (.st .GFraction), .t (.i .i64), .t (.s), .k (.c .nil)], .box [.t (.i .i64), .t (.st .GFraction), .t (.i .i64), .t (.s), .k (.row 4 6)], .row 186 (.st .GExpr)] }
noncomputable def oN:FI:={ fid:=217,fn:=Tryz.f217,c:=aj Tryz.f217,ins:={ sl:=[(0, .k (.ptr 0 3 0 0)),(1, .t (.i .i64)),(2, .t (.i .i64)),(3, .k (.row 1 2)),(4, .t (.ls (.i .i64))),(1000000, .k (.ptr 0 3 0 0)),(1000003, .k (.row 1 2))],ob:=[.box [.t (.st .GPensionmade_source)], .row 191 (.st .GBinding)] },out:=.gen ({ sl:=[(1000000, .k (.ptr 0 3 0 0)),(1000003, .k (.row 1 2)),(2000000, .tp [.t (.st .GExpr)])],ob:=[.box [.t (.st .GPensionmade_source)], .row 191 (.st .GBinding)] }),cuts:=[(58,w9)] }
abbrev sN:Tm:={ sl:=[(0, .k (.ptr 0 3 0 0)),(1, .t (.i .i64)),(2, .t (.i .i64)),(3, .k (.row 1 2)),(8, .k (.ptr 2 6 0 0)),(9, .t (.i .i64)),(84, .t (.i .i64)),(85, .t (.b)),(1000000, .k (.ptr 0 3 0 0)),(1000003, .k (.row 1 2))],ob:=[.box [.t (.st .GPensionmade_source)], .row 191 (.st .GBinding), .box [.t (.i .i64), .t (.st .GFraction), .t (.i .i64), .t (.s), .k (.c .nil)]] }
abbrev sS:Tm:={ sl:=[(0, .k (.ptr 0 3 0 0)),(1, .t (.i .i64)),(2, .t (.i .i64)),(3, .k (.row 1 2)),(8, .k (.ptr 2 6 0 0)),(9, .t (.i .i64)),(36, .t (.i .i64)),(37, .t (.b)),(1000000, .k (.ptr 0 3 0 0)),(1000003, .k (.row 1 2))],ob:=[.box [.t (.st .GPensionmade_source)], .row 191 (.st .GBinding), .box [.t (.i .i64), .t (.st .GFraction), .t (.i .i64), .t (.s), .k (.c .nil)]] }
abbrev pq:Tm:={ sl:=[(0, .k (.ptr 0 3 0 0)),(1, .t (.i .i64)),(2, .t (.i .i64)),(3, .k (.row 1 2)),(8, .k (.ptr 2 6 0 0)),(61, .t (.b)),(1000000, .k (.ptr 0 3 0 0)),(1000003, .k (.row 1 2))],ob:=[.box [.t (.st .GPensionmade_source)], .row 191 (.st .GBinding), .box [.t (.i .i64), .t (.st .GFraction), .t (.i .i64), .t (.s), .k (.c .nil)]] }
noncomputable def ja:FI:={ fid:=169,fn:=Tryz.f169,c:=aj Tryz.f169,ins:={ sl:=[(0, .k (.ptr 0 3 0 0)),(1, .t (.i .i64)),(2, .t (.i .i64)),(3, .k (.row 1 2)),(1000000, .k (.ptr 0 3 0 0)),(1000003, .k (.row 1 2))],ob:=[.box [.t (.st .GPensionmade_source)], .row 191 (.st .GBinding)] },out:=.gen ({ sl:=[(1000000, .k (.ptr 0 3 0 0)),(1000003, .k (.row 1 2)),(2000000, .tp [.t (.st .GExpr)])],ob:=[.box [.t (.st .GPensionmade_source)], .row 191 (.st .GBinding)] }),cuts:=[(1013,sN),(4005,sS),(256383,pq)] }
noncomputable def yA:FI:={ fid:=96,fn:=Tryz.f96,c:=aj Tryz.f96,ins:={ sl:=[(0, .t (.ls (.i .i64))),(1, .t (.i .i64)),(2, .k (.row 0 2)),(1000002, .k (.row 0 2))],ob:=[.row 191 (.st .GBinding)] },out:=.gen ({ sl:=[(1000002, .k (.row 0 2)),(2000000, .tp [.t (.st .GExpr)])],ob:=[.row 191 (.st .GBinding)] }),cuts:=[] }
noncomputable def yP:FI:={ fid:=97,fn:=Tryz.f97,c:=aj Tryz.f97,ins:={ sl:=[(0, .k (.ptr 0 8 0 0)),(1, .t (.i .i64)),(1000000, .k (.ptr 0 8 0 0))],ob:=[.box [.t (.i .i64), .t (.st .GRounding), .k (.row 1 2), .k (.row 2 3), .k (.row 3 7), .k (.row 4 13), .k (.row 5 7)], .row 130 (.st .GCredit), .row 182 (.st .GIndex), .row 189 (.st .GLet), .row 193 (.st .GGrant), .row 195 (.st .GReduce)] },out:=.gen ({ sl:=[(1000000, .k (.ptr 0 8 0 0)),(2000000, .tp [.tp []])],ob:=[.box [.t (.i .i64), .t (.st .GRounding), .k (.row 1 2), .k (.row 2 3), .k (.row 3 7), .k (.row 4 13), .k (.row 5 7)], .row 130 (.st .GCredit), .row 182 (.st .GIndex), .row 189 (.st .GLet), .row 193 (.st .GGrant), .row 195 (.st .GReduce)] }),cuts:=[] }
abbrev Db:Tm:={ sl:=[(1, .k (.ptr 0 10 0 0)),(2, .k (.ptr 1 8 0 0)),(3, .k (.ptr 2 8 0 0)),(4, .k (.row 3 1)),(5, .t (.i .i64))],ob:=[.box [.t (.st .GPensionmade_Version)], .box [.t (.i .i64), .t (.st .GRounding), .k (.c .nil), .k (.c .nil), .k (.c .nil), .k (.c .nil), .k (.c .nil)], .box [.t (.i .i64), .t (.st .GRounding), .k (.row 4 2), .k (.c .nil), .k (.c .nil), .k (.c .nil), .k (.c .nil)], .row 3 (.i .i64), .row 130 (.st .GCredit)] }
abbrev Dk:Tm:={ sl:=[(1, .k (.ptr 0 10 0 0)),(2, .k (.ptr 1 8 0 0)),(3, .k (.ptr 2 8 0 0)),(7, .t (.i .i64))],ob:=[.box [.t (.st .GPensionmade_Version)], .box [.t (.i .i64), .t (.st .GRounding), .k (.c .nil), .k (.c .nil), .k (.c .nil), .k (.c .nil), .k (.c .nil)], .box [.t (.i .i64), .t (.st .GRounding), .k (.row 3 2), .k (.row 4 3), .k (.c .nil), .k (.c .nil), .k (.c .nil)], .row 130 (.st .GCredit), .row 182 (.st .GIndex)] }
abbrev AZ:Tm:={ sl:=[(1, .k (.ptr 0 10 0 0)),(2, .k (.ptr 1 8 0 0)),(3, .k (.ptr 2 8 0 0)),(10, .k (.row 3 2)),(11, .t (.i .i64))],ob:=[.box [.t (.st .GPensionmade_Version)], .box [.t (.i .i64), .t (.st .GRounding), .k (.c .nil), .k (.c .nil), .k (.c .nil), .k (.c .nil), .k (.c .nil)], .box [.t (.i .i64), .t (.st .GRounding), .k (.row 4 2), .k (.row 5 3), .k (.row 6 7), .k (.c .nil), .k (.c .nil)], .row 191 (.st .GBinding), .row 130 (.st .GCredit), .row 182 (.st .GIndex), .row 189 (.st .GLet)] }
abbrev AW:Tm:={ sl:=[(1, .k (.ptr 0 10 0 0)),(2, .k (.ptr 1 8 0 0)),(3, .k (.ptr 2 8 0 0)),(10, .k (.row 3 2)),(13, .t (.i .i64))],ob:=[.box [.t (.st .GPensionmade_Version)], .box [.t (.i .i64), .t (.st .GRounding), .k (.c .nil), .k (.c .nil), .k (.c .nil), .k (.c .nil), .k (.c .nil)], .box [.t (.i .i64), .t (.st .GRounding), .k (.row 4 2), .k (.row 5 3), .k (.row 6 7), .k (.row 7 13), .k (.c .nil)], .row 191 (.st .GBinding), .row 130 (.st .GCredit), .row 182 (.st .GIndex), .row 189 (.st .GLet), .row 193 (.st .GGrant)] }
abbrev AA:Tm:={ sl:=[(1, .k (.ptr 0 10 0 0)),(2, .k (.ptr 1 8 0 0)),(3, .k (.ptr 2 8 0 0)),(10, .k (.row 3 2)),(16, .t (.i .i64))],ob:=[.box [.t (.st .GPensionmade_Version)], .box [.t (.i .i64), .t (.st .GRounding), .k (.c .nil), .k (.c .nil), .k (.c .nil), .k (.c .nil), .k (.c .nil)], .box [.t (.i .i64), .t (.st .GRounding), .k (.row 4 2), .k (.row 5 3), .k (.row 6 7), .k (.row 7 13), .k (.row 8 7)], .row 191 (.st .GBinding), .row 130 (.st .GCredit), .row 182 (.st .GIndex), .row 189 (.st .GLet), .row 193 (.st .GGrant), .row 195 (.st .GReduce)] }
abbrev ul:Tm:={ sl:=[(1, .k (.ptr 0 10 0 0)),(2, .k (.ptr 1 8 0 0)),(3, .k (.ptr 2 8 0 0)),(10, .k (.row 3 2)),(13, .t (.i .i64)),(14, .k (.ptr 4 13 0 0)),(15, .t (.ls (.i .i64)))],ob:=[.box [.t (.st .GPensionmade_Version)], .box [.t (.i .i64), .t (.st .GRounding), .k (.c .nil), .k (.c .nil), .k (.c .nil), .k (.c .nil), .k (.c .nil)], .box [.t (.i .i64), .t (.st .GRounding), .k (.row 5 2), .k (.row 6 3), .k (.row 7 7), .k (.row 8 13), .k (.c .nil)], .row 191 (.st .GBinding), .box [.t (.i .i64), .t (.i .i64), .t (.st .GFraction), .t (.i .i64), .t (.s), .k (.c .nil), .t (.i .i64), .t (.st .GFraction), .t (.i .i64), .t (.s), .t (.ls (.st .GExpr))], .row 130 (.st .GCredit), .row 182 (.st .GIndex), .row 189 (.st .GLet), .row 193 (.st .GGrant)] }
noncomputable def f40:FI:={ fid:=40,fn:=Tryz.f40,c:=aj Tryz.f40,ins:={ sl:=[(0, .t (.st .GPensionmade_Version))] },out:=.data (.t (.st .GVersion)),cuts:=[(122,Db),(250,Dk),(1018,AZ),(2042,AW),(4090,AA),(261415,ul)] }
abbrev Ij:Tm:={ sl:=[(0, .t (.ls (.st .GPensionmade_Version))),(1, .t (.i .i64)),(5, .k (.row 0 9)),(6, .t (.i .i64))],ob:=[.row 113 (.st .GScheme)] }
noncomputable def f11:FI:={ fid:=11,fn:=Tryz.f11,c:=aj Tryz.f11,ins:={ sl:=[(0, .t (.ls (.st .GPensionmade_Version))),(1, .t (.i .i64))] },out:=.own false 113 (.st .GScheme),cuts:=[(58,Ij)] }
noncomputable def f108:FI:={ fid:=108,fn:=Tryz.f108,c:=aj Tryz.f108,ins:={ sl:=[(0, .t (.st .GSpan))] },out:=.new (.t (.st .GSpan)),cuts:=[] }
abbrev HJ:Tm:={ sl:=[(3, .k (.ptr 0 1 0 0)),(10, .t (.ls (.st .GSpan))),(11, .t (.i .i64)),(12, .t (.i .i64))],ob:=[.box [.k (.row 1 2)], .row 50 (.st .GSpan)] }
abbrev EB:Tm:={ sl:=[(6, .k (.row 0 2)),(32, .k (.row 1 2)),(33, .t (.i .i64)),(34, .t (.i .i64))],ob:=[.row 50 (.st .GSpan), .row 50 (.st .GSpan)] }
noncomputable def f54:FI:={ fid:=54,fn:=Tryz.f54,c:=aj Tryz.f54,ins:={ sl:=[(0, .t (.ls (.st .GSpan)))] },out:=.own true 50 (.st .GSpan),cuts:=[(58,HJ),(506,EB)] }
abbrev GH:Tm:={ sl:=[(1, .t (.i .i64)),(2, .t (.i .i64)),(7, .k (.row 0 2)),(10, .t (.ls (.st .GSegment))),(11, .t (.i .i64)),(12, .t (.i .i64))],ob:=[.row 50 (.st .GSpan)] }
noncomputable def f43:FI:={ fid:=43,fn:=Tryz.f43,c:=aj Tryz.f43,ins:={ sl:=[(0, .t (.ls (.st .GSegment))),(1, .t (.i .i64)),(2, .t (.i .i64))] },out:=.own true 50 (.st .GSpan),cuts:=[(58,GH)] }
abbrev D2:Tm:={ sl:=[(0, .k (.row 0 2)),(1, .k (.row 1 2)),(5, .k (.row 2 2)),(6, .t (.i .i64)),(7, .t (.i .i64))],ob:=[.row 50 (.st .GSpan), .row 50 (.st .GSpan), .row 50 (.st .GSpan)] }
abbrev AP:Tm:={ sl:=[(0, .k (.row 0 2)),(1, .k (.row 1 2)),(5, .k (.row 2 2)),(6, .t (.i .i64)),(7, .t (.i .i64))],ob:=[.row 50 (.st .GSpan), .row 50 (.st .GSpan), .row 50 (.st .GSpan)] }
noncomputable def f98:FI:={ fid:=98,fn:=Tryz.f98,c:=aj Tryz.f98,ins:={ sl:=[(0, .t (.ls (.st .GSpan))),(1, .t (.ls (.st .GSpan)))] },out:=.own true 50 (.st .GSpan),cuts:=[(122,D2),(3915,AP)] }
noncomputable def f42:FI:={ fid:=42,fn:=Tryz.f42,c:=aj Tryz.f42,ins:={ sl:=[(0, .t (.ls (.st .GSpan))),(1, .t (.st .GSpan))] },out:=.own true 50 (.st .GSpan),cuts:=[] }
noncomputable def f44:FI:={ fid:=44,fn:=Tryz.f44,c:=aj Tryz.f44,ins:={ sl:=[] },out:=.own true 120 (.st .GAnon120),cuts:=[] }
noncomputable def f100:FI:={ fid:=100,fn:=Tryz.f100,c:=aj Tryz.f100,ins:={ sl:=[(0, .t (.st .GCredit)),(1, .dp (.i .i64))] },out:=.new (.t (.b)),cuts:=[] }
abbrev HL:Tm:={ sl:=[(0, .t (.ls (.st .GCredit))),(1, .fn 100 [.dp (.i .i64)]),(7, .t (.i .i64)),(8, .t (.i .i64))],ob:=[] }
noncomputable def f99:FI:={ fid:=99,fn:=Tryz.f99,c:=aj Tryz.f99,ins:={ sl:=[(0, .t (.ls (.st .GCredit))),(1, .fn 100 [.dp (.i .i64)])] },out:=.new (.t (.i .i64)),cuts:=[(26,HL)] }
noncomputable def f45:FI:={ fid:=45,fn:=Tryz.f45,c:=aj Tryz.f45,ins:={ sl:=[(0, .t (.st .GVersion)),(1, .t (.i .i64))] },out:=.new (.tp [.t (.i .i64), .t (.b)]),cuts:=[] }
abbrev AH:Tm:={ sl:=[(3, .t (.i .i64)),(6, .t (.b))],ob:=[] }
abbrev yw:Tm:={ sl:=[(3, .t (.i .i64)),(11, .t (.b))],ob:=[] }
abbrev s7:Tm:={ sl:=[(3, .t (.i .i64)),(20, .t (.b))],ob:=[] }
noncomputable def f193:FI:={ fid:=193,fn:=Tryz.f193,c:=aj Tryz.f193,ins:={ sl:=[(0, .t (.i .i64))] },out:=.new (.t (.s)),cuts:=[(215,AH),(3455,yw),(221183,s7)] }
noncomputable def f196:FI:={ fid:=196,fn:=Tryz.f196,c:=aj Tryz.f196,ins:={ sl:=[(0, .t (.i .i64)),(1, .t (.i .i64)),(2, .t (.i .i64))] },out:=.new (.t (.b)),cuts:=[] }
noncomputable def f302:FI:={ fid:=302,fn:=Tryz.f302,c:=aj Tryz.f302,ins:={ sl:=[(0, .t (.s)),(1, .t (.i .u8))] },out:=.data (.t (.i .i64)),cuts:=[] }
noncomputable def f297:FI:={ fid:=297,fn:=Tryz.f297,c:=aj Tryz.f297,ins:={ sl:=[(0, .t (.s)),(1, .t (.i .u8))] },out:=.new (.t (.i .i64)),cuts:=[] }
noncomputable def f286:FI:={ fid:=286,fn:=Tryz.f286,c:=aj Tryz.f286,ins:={ sl:=[(0, .t (.s)),(1, .t (.s))] },out:=.new (.t (.i .i64)),cuts:=[] }
noncomputable def f257:FI:={ fid:=257,fn:=Tryz.f257,c:=aj Tryz.f257,ins:={ sl:=[(0, .t (.s)),(1, .t (.s))] },out:=.new (.t (.i .i64)),cuts:=[] }
noncomputable def f195:FI:={ fid:=195,fn:=Tryz.f195,c:=aj Tryz.f195,ins:={ sl:=[(0, .t (.s)),(1, .t (.s))] },out:=.new (.t (.b)),cuts:=[] }
noncomputable def f194:FI:={ fid:=194,fn:=Tryz.f194,c:=aj Tryz.f194,ins:={ sl:=[(0, .t (.s)),(1, .dp (.s))] },out:=.new (.t (.b)),cuts:=[] }
noncomputable def f197:FI:={ fid:=197,fn:=Tryz.f197,c:=aj Tryz.f197,ins:={ sl:=[(0, .t (.b)),(1, .t (.i .i64)),(2, .t (.i .i64)),(3, .t (.i .i64))] },out:=.new (.t (.b)),cuts:=[] }
noncomputable def f198:FI:={ fid:=198,fn:=Tryz.f198,c:=aj Tryz.f198,ins:={ sl:=[(0, .t (.st .GSpan))] },out:=.new (.t (.b)),cuts:=[] }
abbrev xZ:Tm:={ sl:=[(1, .k (.ptr 0 14 0 0)),(89, .t (.i .i64)),(97, .t (.b))],ob:=[.box [.t (.st .GFact)]] }
noncomputable def f138:FI:={ fid:=138,fn:=Tryz.f138,c:=aj Tryz.f138,ins:={ sl:=[(0, .t (.st .GFact))] },out:=.new (.t (.b)),cuts:=[(2007,xZ)] }
noncomputable def f101:FI:={ fid:=101,fn:=Tryz.f101,c:=aj Tryz.f101,ins:={ sl:=[(0, .t (.st .GFact))] },out:=.new (.t (.b)),cuts:=[] }
abbrev Dz:Tm:={ sl:=[(1, .t (.i .i64)),(6, .t (.i .i64)),(7, .t (.b)),(10, .t (.ls (.st .GFact))),(11, .t (.i .i64)),(12, .t (.i .i64))],ob:=[] }
noncomputable def f223:FI:={ fid:=223,fn:=Tryz.f223,c:=aj Tryz.f223,ins:={ sl:=[(0, .t (.ls (.st .GFact))),(1, .t (.i .i64))] },out:=.new (.tp [.t (.i .i64), .t (.b)]),cuts:=[(58,Dz)] }
noncomputable def f172:FI:={ fid:=172,fn:=Tryz.f172,c:=aj Tryz.f172,ins:={ sl:=[(0, .t (.ls (.st .GFact)))] },out:=.new (.tp [.t (.i .i64), .t (.b)]),cuts:=[] }
noncomputable def f173:FI:={ fid:=173,fn:=Tryz.f173,c:=aj Tryz.f173,ins:={ sl:=[(0, .t (.ls (.st .GFact)))] },out:=.new (.tp [.t (.i .i64), .t (.b)]),cuts:=[] }
noncomputable def f102:FI:={ fid:=102,fn:=Tryz.f102,c:=aj Tryz.f102,ins:={ sl:=[(0, .t (.ls (.st .GFact)))] },out:=.new (.t (.st .GSpan)),cuts:=[] }
abbrev Ic:Tm:={ sl:=[(0, .t (.ls (.st .GFact))),(1, .t (.i .i64)),(2, .t (.i .i64)),(7, .k (.row 0 2)),(10, .t (.ls (.st .GFact))),(11, .t (.i .i64)),(12, .t (.i .i64))],ob:=[.row 50 (.st .GSpan)] }
noncomputable def f46:FI:={ fid:=46,fn:=Tryz.f46,c:=aj Tryz.f46,ins:={ sl:=[(0, .t (.ls (.st .GFact))),(1, .t (.i .i64)),(2, .t (.i .i64))] },out:=.own true 50 (.st .GSpan),cuts:=[(58,Ic)] }
abbrev Ek:Tm:={ sl:=[(1, .fn 101 []),(5, .k (.row 0 14)),(8, .t (.ls (.st .GFact))),(9, .t (.i .i64)),(10, .t (.i .i64))],ob:=[.row 61 (.st .GFact)] }
noncomputable def f174:FI:={ fid:=174,fn:=Tryz.f174,c:=aj Tryz.f174,ins:={ sl:=[(0, .t (.ls (.st .GFact))),(1, .fn 101 [])] },out:=.own true 61 (.st .GFact),cuts:=[(58,Ek)] }
noncomputable def f103:FI:={ fid:=103,fn:=Tryz.f103,c:=aj Tryz.f103,ins:={ sl:=[(0, .t (.ls (.st .GFact)))] },out:=.own true 61 (.st .GFact),cuts:=[] }
abbrev Ip:Tm:={ sl:=[(1, .t (.i .i64)),(5, .k (.row 0 2)),(9, .k (.row 1 2)),(10, .t (.i .i64)),(11, .t (.i .i64))],ob:=[.row 50 (.st .GSpan), .row 50 (.st .GSpan)] }
abbrev xH:Tm:={ sl:=[(1, .t (.i .i64)),(5, .k (.row 0 2)),(7, .k (.ptr 1 2 0 0)),(9, .k (.row 2 2)),(10, .t (.i .i64)),(11, .t (.i .i64))],ob:=[.row 50 (.st .GSpan), .box [.t (.st .GSpan)], .row 50 (.st .GSpan)] }
noncomputable def f48:FI:={ fid:=48,fn:=Tryz.f48,c:=aj Tryz.f48,ins:={ sl:=[(0, .t (.ls (.st .GSpan))),(1, .t (.i .i64))] },out:=.own true 50 (.st .GSpan),cuts:=[(58,Ip),(14951,xH)] }
abbrev HQ:Tm:={ sl:=[(0, .t (.ls (.st .GFact))),(1, .t (.i .i64)),(3, .t (.i .i64)),(6, .k (.ptr 0 2 0 0)),(9, .k (.row 1 2)),(10, .t (.i .i64))],ob:=[.box [.t (.st .GSpan)], .row 50 (.st .GSpan)] }
abbrev yq:Tm:={ sl:=[(0, .t (.ls (.st .GFact))),(1, .t (.i .i64)),(3, .t (.i .i64)),(6, .k (.ptr 0 2 0 0)),(9, .k (.row 1 2)),(10, .t (.i .i64)),(11, .k (.row 2 2)),(19, .k (.row 3 14)),(20, .t (.i .i64)),(21, .t (.i .i64))],ob:=[.box [.t (.st .GSpan)], .row 50 (.st .GSpan), .row 50 (.st .GSpan), .row 61 (.st .GFact)] }
noncomputable def f47:FI:={ fid:=47,fn:=Tryz.f47,c:=aj Tryz.f47,ins:={ sl:=[(0, .t (.ls (.st .GFact))),(1, .t (.i .i64)),(2, .t (.st .GSpan)),(3, .t (.i .i64))] },out:=.own true 50 (.st .GSpan),cuts:=[(58,HQ),(14922,yq)] }
abbrev C6:Tm:={ sl:=[(0, .t (.i .i64)),(2, .k (.ptr 0 1 0 0)),(3, .k (.ptr 1 9 0 0)),(8, .t (.ls (.st .GSpan))),(9, .t (.i .i64)),(10, .t (.i .i64)),(1000002, .k (.ptr 0 1 0 0)),(1000003, .k (.ptr 1 9 0 0))],ob:=[.box [.k (.row 2 4)], .box [.t (.i .i64), .t (.i .i64), .t (.i .i64), .t (.i .i64), .t (.ls (.st .GCredit)), .t (.ls (.st .GIndex)), .t (.ls (.st .GLet)), .t (.ls (.st .GGrant)), .t (.ls (.st .GReduce))], .row 115 (.st .GPeriod)] }
noncomputable def sn:FI:={ fid:=41,fn:=Tryz.f41,c:=aj Tryz.f41,ins:={ sl:=[(0, .t (.i .i64)),(1, .t (.ls (.st .GSpan))),(2, .k (.ptr 0 1 0 0)),(3, .k (.ptr 1 9 0 0)),(1000002, .k (.ptr 0 1 0 0)),(1000003, .k (.ptr 1 9 0 0))],ob:=[.box [.k (.row 2 4)], .box [.t (.i .i64), .t (.i .i64), .t (.st .GRounding), .t (.ls (.st .GCredit)), .t (.ls (.st .GIndex)), .t (.ls (.st .GLet)), .t (.ls (.st .GGrant)), .t (.ls (.st .GReduce))], .row 115 (.st .GPeriod)] },out:=.gen ({ sl:=[(1000002, .k (.ptr 0 1 0 0)),(1000003, .k (.ptr 1 9 0 0)),(2000000, .tp [.tp []])],ob:=[.box [.k (.row 2 4)], .box [.t (.i .i64), .t (.i .i64), .t (.st .GRounding), .t (.ls (.st .GCredit)), .t (.ls (.st .GIndex)), .t (.ls (.st .GLet)), .t (.ls (.st .GGrant)), .t (.ls (.st .GReduce))], .row 115 (.st .GPeriod)] }),cuts:=[(6,C6)] }
abbrev HA:Tm:={ sl:=[(0, .t (.ls (.st .GFact))),(1, .t (.ls (.st .GSegment))),(2, .t (.ls (.st .GScheme))),(3, .t (.i .i64)),(28, .t (.ls (.st .GScheme))),(29, .t (.i .i64)),(30, .t (.i .i64))],ob:=[] }
abbrev DQ:Tm:={ sl:=[(0, .t (.ls (.st .GFact))),(1, .t (.ls (.st .GSegment))),(12, .k (.ptr 0 1 0 0)),(13, .k (.ptr 1 2 0 0)),(61, .t (.ls (.st .GScheme))),(62, .t (.i .i64)),(63, .t (.i .i64))],ob:=[.box [.k (.row 2 4)], .box [.t (.st .GSpan)], .row 115 (.st .GPeriod)] }
abbrev vW:Tm:={ sl:=[(0, .t (.ls (.st .GFact))),(1, .t (.ls (.st .GSegment))),(12, .k (.ptr 0 1 0 0)),(13, .k (.ptr 1 2 0 0)),(15, .k (.ptr 2 9 0 0)),(16, .fn 41 [.k (.ptr 0 1 0 0), .k (.ptr 2 9 0 0)]),(61, .t (.ls (.st .GScheme))),(62, .t (.i .i64)),(63, .t (.i .i64)),(76, .k (.row 3 2)),(77, .t (.i .i64)),(78, .t (.i .i64))],ob:=[.box [.k (.row 4 4)], .box [.t (.st .GSpan)], .box [.t (.i .i64), .t (.i .i64), .t (.st .GRounding), .t (.ls (.st .GCredit)), .t (.ls (.st .GIndex)), .t (.ls (.st .GLet)), .t (.ls (.st .GGrant)), .t (.ls (.st .GReduce))], .row 120 (.st .GAnon120), .row 115 (.st .GPeriod)] }
abbrev pr:Tm:={ sl:=[(0, .t (.ls (.st .GFact))),(1, .t (.ls (.st .GSegment))),(12, .k (.ptr 0 1 0 0)),(13, .k (.ptr 1 2 0 0)),(15, .k (.ptr 2 9 0 0)),(16, .fn 41 [.k (.ptr 0 1 0 0), .k (.ptr 2 9 0 0)]),(18, .k (.ptr 3 2 0 0)),(21, .k (.row 4 2)),(61, .t (.ls (.st .GScheme))),(62, .t (.i .i64)),(63, .t (.i .i64)),(76, .k (.row 5 2)),(77, .t (.i .i64)),(78, .t (.i .i64))],ob:=[.box [.k (.row 6 4)], .box [.t (.st .GSpan)], .box [.t (.i .i64), .t (.i .i64), .t (.st .GRounding), .t (.ls (.st .GCredit)), .t (.ls (.st .GIndex)), .t (.ls (.st .GLet)), .t (.ls (.st .GGrant)), .t (.ls (.st .GReduce))], .box [.t (.st .GAnon120)], .row 50 (.st .GSpan), .row 120 (.st .GAnon120), .row 115 (.st .GPeriod)] }
noncomputable def f12:FI:={ fid:=12,fn:=Tryz.f12,c:=aj Tryz.f12,ins:={ sl:=[(0, .t (.ls (.st .GFact))),(1, .t (.ls (.st .GSegment))),(2, .t (.ls (.st .GScheme))),(3, .t (.i .i64))] },out:=.new (.tp [.t (.ls (.st .GPeriod)), .t (.i .i64)]),cuts:=[(58,HA),(506,DQ),(518558,vW),(531003807,pr)] }
noncomputable def f105:FI:={ fid:=105,fn:=Tryz.f105,c:=aj Tryz.f105,ins:={ sl:=[(0, .t (.ls (.st .GSpan)))] },out:=.own true 50 (.st .GSpan),cuts:=[] }
abbrev IM:Tm:={ sl:=[(0, .t (.ls (.st .GSegment))),(1, .t (.i .i64)),(2, .t (.i .i64)),(7, .k (.row 0 2)),(8, .t (.i .i64))],ob:=[.row 50 (.st .GSpan)] }
noncomputable def f50:FI:={ fid:=50,fn:=Tryz.f50,c:=aj Tryz.f50,ins:={ sl:=[(0, .t (.ls (.st .GSegment))),(1, .t (.i .i64)),(2, .t (.i .i64))] },out:=.own true 50 (.st .GSpan),cuts:=[(58,IM)] }
abbrev zT:Tm:={ sl:=[(1, .t (.i .i64)),(5, .k (.row 0 2)),(6, .k (.row 1 2)),(7, .t (.i .i64))],ob:=[.row 50 (.st .GSpan), .row 50 (.st .GSpan)] }
noncomputable def f104:FI:={ fid:=104,fn:=Tryz.f104,c:=aj Tryz.f104,ins:={ sl:=[(0, .t (.ls (.st .GSpan))),(1, .t (.i .i64))] },out:=.own true 50 (.st .GSpan),cuts:=[(122,zT)] }
noncomputable def f49:FI:={ fid:=49,fn:=Tryz.f49,c:=aj Tryz.f49,ins:={ sl:=[(0, .t (.ls (.st .GSpan))),(1, .t (.i .i64)),(2, .t (.i .i64))] },out:=.own true 50 (.st .GSpan),cuts:=[] }
noncomputable def f106:FI:={ fid:=106,fn:=Tryz.f106,c:=aj Tryz.f106,ins:={ sl:=[(0, .t (.i .i64))] },out:=.new (.t (.i .i64)),cuts:=[] }
abbrev Hn:Tm:={ sl:=[(0, .t (.i .i64)),(3, .t (.i .i64))],ob:=[] }
noncomputable def f52:FI:={ fid:=52,fn:=Tryz.f52,c:=aj Tryz.f52,ins:={ sl:=[(0, .t (.i .i64))] },out:=.new (.t (.i .i64)),cuts:=[(26,Hn)] }
abbrev HS:Tm:={ sl:=[(1, .t (.i .i64)),(2, .k (.ptr 0 8 0 0)),(6, .t (.i .i64))],ob:=[.box [.t (.i .i64), .t (.st .GRounding), .t (.ls (.st .GCredit)), .t (.ls (.st .GIndex)), .t (.ls (.st .GLet)), .t (.ls (.st .GGrant)), .t (.ls (.st .GReduce))]] }
noncomputable def f51:FI:={ fid:=51,fn:=Tryz.f51,c:=aj Tryz.f51,ins:={ sl:=[(0, .t (.st .GVersion)),(1, .t (.i .i64))] },out:=.new (.tp [.t (.i .i64), .t (.b)]),cuts:=[(26,HS)] }
abbrev A6:Tm:={ sl:=[(0, .t (.ls (.st .GFact))),(1, .t (.i .i64)),(2, .t (.i .i64)),(7, .k (.row 0 14)),(8, .k (.row 1 2)),(9, .t (.i .i64))],ob:=[.row 61 (.st .GFact), .row 50 (.st .GSpan)] }
noncomputable def f107:FI:={ fid:=107,fn:=Tryz.f107,c:=aj Tryz.f107,ins:={ sl:=[(0, .t (.ls (.st .GFact))),(1, .t (.i .i64)),(2, .t (.i .i64))] },out:=.own true 50 (.st .GSpan),cuts:=[(122,A6)] }
abbrev D3:Tm:={ sl:=[(0, .t (.ls (.st .GFact))),(2, .t (.i .i64)),(3, .t (.i .i64)),(4, .t (.i .i64)),(11, .k (.row 0 14)),(12, .k (.row 1 2)),(13, .t (.i .i64))],ob:=[.row 61 (.st .GFact), .row 50 (.st .GSpan)] }
abbrev ye:Tm:={ sl:=[(0, .t (.ls (.st .GFact))),(2, .t (.i .i64)),(3, .t (.i .i64)),(4, .t (.i .i64)),(11, .k (.row 0 14)),(12, .k (.row 1 2)),(13, .t (.i .i64)),(14, .k (.row 2 2)),(15, .t (.i .i64))],ob:=[.row 61 (.st .GFact), .row 50 (.st .GSpan), .row 50 (.st .GSpan)] }
noncomputable def f53:FI:={ fid:=53,fn:=Tryz.f53,c:=aj Tryz.f53,ins:={ sl:=[(0, .t (.ls (.st .GFact))),(1, .t (.i .i64)),(2, .t (.i .i64)),(3, .t (.i .i64)),(4, .t (.i .i64))] },out:=.own true 50 (.st .GSpan),cuts:=[(250,D3),(64074,ye)] }
abbrev Hl:Tm:={ sl:=[(0, .t (.ls (.st .GFact))),(1, .t (.ls (.st .GSegment))),(2, .t (.ls (.st .GScheme))),(3, .t (.i .i64)),(10, .t (.i .i64))],ob:=[] }
abbrev De:Tm:={ sl:=[(0, .t (.ls (.st .GFact))),(1, .t (.ls (.st .GSegment))),(2, .t (.ls (.st .GScheme))),(3, .t (.i .i64)),(12, .k (.row 0 4)),(13, .t (.i .i64))],ob:=[.row 115 (.st .GPeriod)] }
abbrev yj:Tm:={ sl:=[(0, .t (.ls (.st .GFact))),(1, .t (.ls (.st .GSegment))),(2, .t (.ls (.st .GScheme))),(3, .t (.i .i64)),(12, .k (.row 0 4)),(13, .t (.i .i64)),(14, .t (.i .i64)),(15, .t (.i .i64))],ob:=[.row 115 (.st .GPeriod)] }
abbrev s5:Tm:={ sl:=[(0, .t (.ls (.st .GFact))),(1, .t (.ls (.st .GSegment))),(2, .t (.ls (.st .GScheme))),(3, .t (.i .i64)),(12, .k (.row 0 4)),(13, .t (.i .i64)),(14, .t (.i .i64)),(15, .t (.i .i64)),(16, .k (.row 1 2)),(19, .t (.i .i64))],ob:=[.row 115 (.st .GPeriod), .row 50 (.st .GSpan)] }
noncomputable def f13:FI:={ fid:=13,fn:=Tryz.f13,c:=aj Tryz.f13,ins:={ sl:=[(0, .t (.ls (.st .GFact))),(1, .t (.ls (.st .GSegment))),(2, .t (.ls (.st .GScheme))),(3, .t (.i .i64))] },out:=.new (.tp [.t (.ls (.st .GPeriod)), .t (.i .i64)]),cuts:=[(58,Hl),(250,De),(32038,yj),(8201806,s5)] }
noncomputable def f14:FI:={ fid:=14,fn:=Tryz.f14,c:=aj Tryz.f14,ins:={ sl:=[] },out:=.new (.t (.b)),cuts:=[] }
abbrev IS:Tm:={ sl:=[(0, .t (.ls (.st .GPeriod))),(1, .t (.ls (.st .GPeriod))),(5, .t (.i .i64))],ob:=[] }
noncomputable def f15:FI:={ fid:=15,fn:=Tryz.f15,c:=aj Tryz.f15,ins:={ sl:=[(0, .t (.ls (.st .GPeriod))),(1, .t (.ls (.st .GPeriod)))] },out:=.new (.t (.b)),cuts:=[(58,IS)] }
abbrev Lx:Tm:={ sl:=[(2, .t (.ls (.st .GPensionmade_Version))),(3, .t (.i .i64)),(4, .t (.i .i64)),(11, .k (.row 0 14)),(12, .k (.row 1 4))],ob:=[.row 61 (.st .GFact), .row 85 (.st .GSegment)] }
noncomputable def f3:FI:={ fid:=3,fn:=Tryz.f3,c:=aj Tryz.f3,ins:={ sl:=[(0, .t (.ls (.st .GPensionhand_Fact))),(1, .t (.ls (.i .i64))),(2, .t (.ls (.st .GPensionmade_Version))),(3, .t (.i .i64)),(4, .t (.i .i64))] },out:=.new (.t (.b)),cuts:=[(63,Lx)] }
abbrev PP:Tm:={ sl:=[(1, .t (.i .i64)),(2, .t (.i .i64)),(7, .k (.row 0 2)),(10, .t (.ls (.st .GPeriod))),(11, .t (.i .i64)),(12, .t (.i .i64))],ob:=[.row 50 (.st .GSpan)] }
noncomputable def f16:FI:={ fid:=16,fn:=Tryz.f16,c:=aj Tryz.f16,ins:={ sl:=[(0, .t (.ls (.st .GPeriod))),(1, .t (.i .i64)),(2, .t (.i .i64))] },out:=.own true 50 (.st .GSpan),cuts:=[(58,PP)] }
abbrev PU:Tm:={ sl:=[(0, .t (.ls (.st .GSpan))),(1, .t (.ls (.st .GSpan))),(5, .t (.i .i64))],ob:=[] }
noncomputable def f17:FI:={ fid:=17,fn:=Tryz.f17,c:=aj Tryz.f17,ins:={ sl:=[(0, .t (.ls (.st .GSpan))),(1, .t (.ls (.st .GSpan)))] },out:=.new (.t (.b)),cuts:=[(58,PU)] }
abbrev Pu:Tm:={ sl:=[(2, .t (.ls (.st .GPensionmade_Version))),(3, .t (.i .i64)),(4, .t (.i .i64)),(5, .t (.i .i64)),(6, .t (.i .i64)),(15, .k (.row 0 14)),(16, .k (.row 1 4))],ob:=[.row 61 (.st .GFact), .row 85 (.st .GSegment)] }
noncomputable def f4:FI:={ fid:=4,fn:=Tryz.f4,c:=aj Tryz.f4,ins:={ sl:=[(0, .t (.ls (.st .GPensionhand_Fact))),(1, .t (.ls (.i .i64))),(2, .t (.ls (.st .GPensionmade_Version))),(3, .t (.i .i64)),(4, .t (.i .i64)),(5, .t (.i .i64)),(6, .t (.i .i64))] },out:=.new (.t (.b)),cuts:=[(127,Pu)] }
noncomputable def Oj:XT→HP f302.ins.tys→Option (HP f302.out.tys):=fun _ (a:ByteArray × Int)=>some (Go.firstIdx a.1 a.2.toNat.toUInt8)
noncomputable def Tb:jg:={ P:=Tryz.prog,fs:=[(10,[f10]),(38,[f38]),(39,[f39]),(26,[f26]),(25,[f25]),(74,[f74]),(203,[f203]),(152,[f152]),(75,[f75]),(76,[f76]),(204,[oG,f204]),(153,[f153]),(77,[f77]),(27,[f27]),(73,[f73]),(24,[f24]),(7,[f7]),(92,[f92]),(167,[f167]),(93,[f93]),(37,[f37]),(259,[f259]),(260,[f260]),(262,[f262]),(261,[f261]),(208,[f208]),(264,[f264]),(258,[f258]),(201,[f201]),(144,[f144]),(265,[f265]),(209,[f209]),(263,[f263]),(205,[f205]),(157,[f157]),(84,[f84]),(162,[f162]),(88,[f88]),(158,[f158]),(85,[f85]),(159,[f159]),(206,[f206]),(207,[f207]),(160,[f160]),(86,[f86]),(149,[f149]),(234,[f234]),(256,[f256]),(192,[f192]),(202,[f202]),(199,[f199]),(168,[f168]),(94,[f94]),(161,[f161]),(87,[f87]),(163,[f163]),(210,[f210]),(211,[f211]),(212,[f212]),(164,[f164]),(269,[f269]),(287,[f287]),(266,[f266]),(288,[f288]),(289,[f289]),(267,[f267]),(213,[f213]),(165,[gn]),(89,[f89]),(90,[f90]),(78,[f78]),(147,[f147]),(214,[f214]),(140,[f140]),(290,[f290]),(268,[f268]),(215,[f215]),(218,[f218]),(219,[f219]),(220,[f220]),(170,[f170]),(166,[f166]),(91,[f91]),(36,[f36]),(9,[f9]),(28,[f28]),(29,[f29]),(154,[f154]),(80,[f80]),(81,[f81]),(31,[f31]),(180,[f180]),(32,[f32]),(111,[f111]),(112,[f112]),(113,[f113]),(55,[f55]),(18,[f18]),(79,[f79]),(30,[f30]),(33,[f33]),(34,[f34]),(155,[f155]),(83,[f83]),(156,[f156]),(82,[f82]),(35,[f35]),(8,[f8]),(95,[f95]),(216,[f216]),(270,[f270]),(271,[f271]),(221,[f221]),(222,[f222]),(171,[oX]),(217,[oN]),(169,[ja]),(96,[yA]),(97,[yP]),(40,[f40]),(11,[f11]),(108,[f108]),(54,[f54]),(43,[f43]),(98,[f98]),(42,[f42]),(44,[f44]),(100,[f100]),(99,[f99]),(45,[f45]),(193,[f193]),(196,[f196]),(297,[f297]),(286,[f286]),(257,[f257]),(195,[f195]),(194,[f194]),(197,[f197]),(198,[f198]),(138,[f138]),(101,[f101]),(223,[f223]),(172,[f172]),(173,[f173]),(102,[f102]),(46,[f46]),(174,[f174]),(103,[f103]),(48,[f48]),(47,[f47]),(41,[sn]),(12,[f12]),(105,[f105]),(50,[f50]),(104,[f104]),(49,[f49]),(106,[f106]),(52,[f52]),(51,[f51]),(107,[f107]),(53,[f53]),(13,[f13]),(14,[f14]),(15,[f15]),(3,[f3]),(16,[f16]),(17,[f17]),(4,[f4])],sp:=(fun f=>(bif Nat.beq f 302 then .hand f302 Oj else (bif Nat.beq f 109 then .mut (fun _=>qi 45 110 50 (.st .GSpan) fw) else .none))) }
theorem ai:gQ Tb:=⟨fun f=>(.cnd (.h _) (.cnd (.m _) trivial))⟩
noncomputable def rO (t0:ByteArray) (t1:Int):Option Int:=Oj (Xc Tb) (t0,t1)
noncomputable def cG (n:Int) (k:Int):Option Int:=Xf Tb f10 1 f10.ins (n,k)
noncomputable def am (n:Int) (m:Int):Option Int:=Xf Tb f38 1 f38.ins (n,m)
noncomputable def az (n:List Int) (i:Int):Option Int:=Xf Tb f39 1 f39.ins (n,i)
noncomputable def pY (n:List Int):Option (List GFact):=Xf Tb f26 1 f26.ins n
noncomputable def kT (n:List Int) (p:Int) (out:List GFact):Option (List GFact):=Xf Tb f26 58 Ii (n,p,out)
noncomputable def ux (l:List GFact) (person:Int):Option (List GFact):=Xf Tb f25 1 f25.ins (l,person)
noncomputable def eG (l:List GFact) (person:Int) (i:Int) (out:List GFact):Option (List GFact):=Xf Tb f25 58 HD (l,person,i,out)
noncomputable def kR (kind:Int):Option ByteArray:=Xf Tb f74 1 f74.ins kind
noncomputable def uZ (kind:Int) (c:Int):Option Bool:=Xf Tb f203 1 f203.ins (kind,c)
noncomputable def d8 (c:Int) (s:ByteArray) (i:Int):Option Bool:=Xf Tb f203 58 Ei (c,s,i)
noncomputable def bX (kind:Int) (c:Int) (n:Int) (least:Int) (most:Int):Option Bool:=Xf Tb f152 1 f152.ins (kind,c,n,least,most)
noncomputable def gE (f:GFact):Option Bool:=Xf Tb f75 1 f75.ins f
noncomputable def nN (a:GFact) (b:GFact):Option Int:=Xf Tb f76 1 f76.ins (a,b)
noncomputable def aZ (n:Int) (size:Int) (b:List Int):Option (List Int):=Xf Tb oG 1 oG.ins (n,size,b)
noncomputable def iO (n:Int) (i:Int) (b:List Int):Option (List Int):=Xf Tb oG 26 xw (n,i,b)
noncomputable def oz (f:GFact):Option (List Int):=Xf Tb f153 1 f153.ins f
noncomputable def jC (gone:Int) (f:GFact):Option (List Int):=Xf Tb f153 31 ED (gone,f)
noncomputable def gJ (s:ByteArray) (i:Int) (f:GFact) (b:List Int):Option (List Int):=Xf Tb f153 1018 xQ (s,i,f,b)
noncomputable def bU (s:ByteArray) (i:Int) (f:GFact) (b:List Int):Option (List Int):=Xf Tb f153 8147 xE (s,i,f,b)
noncomputable def mB (a:GFact) (b:GFact):Option Bool:=Xf Tb f77 1 f77.ins (a,b)
noncomputable def ju (a:List GFact) (b:List GFact):Option (List GFact):=Xf Tb f27 1 f27.ins (a,b)
noncomputable def aP (a:List GFact) (b:List GFact) (i:Int) (out:List GFact):Option (List GFact):=Xf Tb f27 58 Hb (a,b,i,out)
noncomputable def gM (a:List GFact) (b:List GFact) (i:Int) (out:List GFact) (f:GFact):Option (List GFact):=Xf Tb f27 3731 Al (a,b,i,out,f)
noncomputable def fV (a:List GFact) (b:List GFact) (i:Int) (xat:Int) (out:List GFact) (f:GFact):Option (List GFact):=Xf Tb f27 59708 xF (a,b,i,xat,out,f)
noncomputable def sI (n:Int):Option Int:=Xf Tb f73 1 f73.ins n
noncomputable def wO (r:GPensionhand_Fact):Option GFact:=Xf Tb f24 1 f24.ins r
noncomputable def fq (xfrom:Int) (to:Int) (r:GPensionhand_Fact) (t2:GFact) (f:GFact):Option GFact:=Xf Tb f24 127 Em (xfrom,to,r,t2,f)
noncomputable def jI (xfrom:Int) (to:Int) (u:ByteArray) (i:Int) (r:GPensionhand_Fact) (t2:GFact) (f:GFact):Option GFact:=Xf Tb f24 2042 Av (xfrom,to,u,i,r,t2,f)
noncomputable def bL (xfrom:Int) (to:Int) (u:ByteArray) (i:Int) (r:GPensionhand_Fact) (t2:GFact) (f:GFact):Option GFact:=Xf Tb f24 16339 xV (xfrom,to,u,i,r,t2,f)
noncomputable def qA (l:List GPensionhand_Fact) (n:List Int):Option (List GFact):=Xf Tb f7 1 f7.ins (l,n)
noncomputable def iG (l:List GPensionhand_Fact) (n:List Int) (i:Int) (out:List GFact):Option (List GFact):=Xf Tb f7 58 KE (l,n,i,out)
noncomputable def gx (l:List GPensionhand_Fact) (n:List Int) (i:Int) (out:List GFact) (r:GPensionhand_Fact):Option (List GFact):=Xf Tb f7 7463 C7 (l,n,i,out,r)
noncomputable def br (n:Int):Option ByteArray:=Xf Tb f92 1 f92.ins n
noncomputable def jR (n:Int) (s:ByteArray):Option ByteArray:=Xf Tb f92 28 IJ (n,s)
noncomputable def eC (n:Int):Option ByteArray:=Xf Tb f167 1 f167.ins n
noncomputable def kw (xfrom:ByteArray) (n:List Int) (xat:Int):Option ByteArray:=Xf Tb f93 1 f93.ins (xfrom,n,xat)
noncomputable def eh (n:List Int) (xat:Int) (years:ByteArray) (s:ByteArray):Option ByteArray:=Xf Tb f93 31 Io (n,xat,years,s)
noncomputable def gR (n:List Int) (xat:Int) (years:ByteArray) (s:ByteArray):Option ByteArray:=Xf Tb f93 127 D0 (n,xat,years,s)
noncomputable def gV (n:List Int) (xat:Int) (years:ByteArray) (s:ByteArray):Option ByteArray:=Xf Tb f93 255 DJ (n,xat,years,s)
noncomputable def fW (n:List Int) (xat:Int) (s:ByteArray):Option ByteArray:=Xf Tb f93 8191 A2 (n,xat,s)
noncomputable def fL (n:List Int) (xat:Int) (s:ByteArray):Option ByteArray:=Xf Tb f93 65535 ym (n,xat,s)
noncomputable def xj (state:Int) (n:List Int):Option ByteArray:=Xf Tb f37 1 f37.ins (state,n)
noncomputable def lO (state:Int) (n:List Int) (s:ByteArray):Option ByteArray:=Xf Tb f37 31 IR (state,n,s)
noncomputable def Fs (s:ByteArray) (xat:Int):Option Int:=Xf Tb f259 1 f259.ins (s,xat)
noncomputable def e8 (s:ByteArray) (xat:Int) (comment:Bool):Option Int:=Xf Tb f259 28 Ez (s,xat,comment)
noncomputable def jn (c:Int):Option Bool:=Xf Tb f260 1 f260.ins c
noncomputable def iK (c:Int):Option Bool:=Xf Tb f262 1 f262.ins c
noncomputable def vS (s:ByteArray) (xat:Int) (point:Bool):Option Int:=Xf Tb f261 1 f261.ins (s,xat,point)
noncomputable def fx (s:ByteArray) (xat:Int) (point:Bool) (n:Int):Option Int:=Xf Tb f261 28 DZ (s,xat,point,n)
noncomputable def p9 (s:ByteArray):Option (ByteArray × ByteArray × Int × Bool):=Xf Tb f208 1 f208.ins s
noncomputable def hU (s:ByteArray) (dim:Int):Option (ByteArray × ByteArray × Int × Bool):=Xf Tb f208 15 DR (s,dim)
noncomputable def gg (s:ByteArray) (dim:Int) (xat:Int) (i:Int):Option (ByteArray × ByteArray × Int × Bool):=Xf Tb f208 250 Aw (s,dim,xat,i)
noncomputable def jK (dim:Int) (a:ByteArray) (b:ByteArray):Option (ByteArray × ByteArray × Int × Bool):=Xf Tb f208 255 AO (dim,a,b)
noncomputable def iE (dim:Int) (a:ByteArray) (b:ByteArray) (i:Int):Option (ByteArray × ByteArray × Int × Bool):=Xf Tb f208 2042 xk (dim,a,b,i)
noncomputable def mo (s:ByteArray):Option (Int × Bool):=Xf Tb f264 1 f264.ins s
noncomputable def kL (s:ByteArray) (n:Int) (i:Int):Option (Int × Bool):=Xf Tb f264 58 DU (s,n,i)
noncomputable def x0 (year:Int):Option Bool:=Xf Tb f258 1 f258.ins year
noncomputable def ot (year:Int) (month:Int):Option Int:=Xf Tb f201 1 f201.ins (year,month)
noncomputable def uw (month:Int):Option Int:=Xf Tb f144 1 f144.ins month
noncomputable def kQ (month:Int) (n:Int) (m:Int):Option Int:=Xf Tb f144 58 Ee (month,n,m)
noncomputable def AT (year:Int) (month:Int) (dom:Int):Option (Int × Bool):=Xf Tb f265 1 f265.ins (year,month,dom)
noncomputable def lL (s:ByteArray):Option (Int × Bool):=Xf Tb f209 1 f209.ins s
noncomputable def yg (s:ByteArray) (xat:Int):Option Int:=Xf Tb f263 1 f263.ins (s,xat)
noncomputable def mw (s:ByteArray) (xat:Int):Option Int:=Xf Tb f263 7 Hh (s,xat)
noncomputable def aX (t29:Bool):Option Int:=Xf Tb f263 117 Ag t29
noncomputable def wZ (s:ByteArray) (xat:Int):Option (GToken × Int × Int):=Xf Tb f205 1 f205.ins (s,xat)
noncomputable def dq (s:ByteArray) (xat:Int) (kind:Int) (n:Int) (ok:Bool) (t4:GToken):Option (GToken × Int × Int):=Xf Tb f205 127 Ba (s,xat,kind,n,ok,t4)
noncomputable def zZ (s:ByteArray):Option (List GToken × Int × Int):=Xf Tb f157 1 f157.ins s
noncomputable def mC (s:ByteArray) (xat:Int) (out:List GToken):Option (List GToken × Int × Int):=Xf Tb f157 62 DO (s,xat,out)
noncomputable def v8 (s:ByteArray):Option (Bool × Int × Int × Int × Int × GPensionref5_reader):=Xf Tb f84 1 f84.ins s
noncomputable def d9 (r:GPensionref5_reader) (s:ByteArray):Option Bool:=Xf Tb f162 1 f162.ins (r,s)
noncomputable def aJ (s:ByteArray) (r:GPensionref5_reader):Option (Bool × GPensionref5_reader):=Xf Tb f88 1 f88.ins (s,r)
noncomputable def aN (r:GPensionref5_reader):Option GPensionref5_reader:=Xf Tb f158 1 f158.ins r
noncomputable def ay (s:ByteArray) (r:GPensionref5_reader):Option GPensionref5_reader:=Xf Tb f85 1 f85.ins (s,r)
noncomputable def cB (r:GPensionref5_reader) (k:Int):Option Bool:=Xf Tb f159 1 f159.ins (r,k)
noncomputable def sJ (s:ByteArray):Option Bool:=Xf Tb f206 1 f206.ins s
noncomputable def eL (s:ByteArray) (i:Int):Option Bool:=Xf Tb f206 26 CW (s,i)
noncomputable def rz (s:ByteArray):Option Bool:=Xf Tb f207 1 f207.ins s
noncomputable def ax (t4:Bool):Option Bool:=Xf Tb f207 53 Ew t4
noncomputable def js (s:ByteArray):Option Bool:=Xf Tb f160 1 f160.ins s
noncomputable def fC (r:GPensionref5_reader):Option (ByteArray × GPensionref5_reader):=Xf Tb f86 1 f86.ins r
noncomputable def me (n:Int):Option Int:=Xf Tb f149 1 f149.ins n
noncomputable def qw (x:Int):Option Int:=Xf Tb f256 1 f256.ins x
noncomputable def mM (hi:Int) (lo:Int) (y:Int):Option (Int × Int):=Xf Tb f192 1 f192.ins (hi,lo,y)
noncomputable def oW (hi:Int) (lo:Int) (y:Int):Option (Int × Int):=Xf Tb f192 7 Hk (hi,lo,y)
noncomputable def m4 (hi:Int) (lo:Int) (y:Int):Option (Int × Int):=Xf Tb f192 15 Dn (hi,lo,y)
noncomputable def rN (y:Int) (s:Int) (yn1:Int) (yn0:Int) (un32:Int) (un1:Int) (un0:Int) (q1:Int) (rhat:Int):Option (Int × Int):=Xf Tb f192 131068 zJ (y,s,yn1,yn0,un32,un1,un0,q1,rhat)
noncomputable def kE (w:GPensionref1_wide) (d:Int):Option (GPensionref1_wide × Int):=Xf Tb f202 1 f202.ins (w,d)
noncomputable def Ay (a:Int) (b:Int):Option Int:=Xf Tb f199 1 f199.ins (a,b)
noncomputable def mQ (a:Int) (b:Int):Option Int:=Xf Tb f199 12 Dv (a,b)
noncomputable def tn (negative:Bool) (n:GPensionref1_wide) (d:Int):Option (GFraction × Int):=Xf Tb f168 1 f168.ins (negative,n,d)
noncomputable def fb (num:Int) (den:Int):Option (GFraction × Int):=Xf Tb f94 1 f94.ins (num,den)
noncomputable def j7 (text:ByteArray):Option (GFraction × Int × Bool):=Xf Tb f161 1 f161.ins text
noncomputable def fa (a:ByteArray) (b:ByteArray) (dim:Int) (num:Int) (den:Int) (i:Int) (t2:GFraction):Option (GFraction × Int × Bool):=Xf Tb f161 250 zY (a,b,dim,num,den,i,t2)
noncomputable def cY (least:Int) (most:Int) (r:GPensionref5_reader):Option (Int × GPensionref5_reader):=Xf Tb f87 1 f87.ins (least,most,r)
noncomputable def BZ (s:ByteArray):Option Int:=Xf Tb f163 1 f163.ins s
noncomputable def sb (s:ByteArray):Option Int:=Xf Tb f210 1 f210.ins s
noncomputable def jW (s:ByteArray):Option Int:=Xf Tb f211 1 f211.ins s
noncomputable def jV (s:ByteArray):Option Int:=Xf Tb f212 1 f212.ins s
noncomputable def fp (what:Int) (r:GPensionref5_reader):Option (Int × GPensionref5_reader):=Xf Tb f164 1 f164.ins (what,r)
noncomputable def sm (op:Int):Option Int:=Xf Tb f269 1 f269.ins op
noncomputable def fD (op:Int) (r:GPensionref5_reader):Option (GExpr × GPensionref5_reader):=Xf Tb f287 1 f287.ins (op,r)
noncomputable def j5 (r:GPensionref5_reader):Option (GExpr × GPensionref5_reader):=Xf Tb f266 1 f266.ins r
noncomputable def vg (op:Int):Option Int:=Xf Tb f288 1 f288.ins op
noncomputable def cm (t3:Int) (t12:Bool):Option Int:=Xf Tb f288 13823 vU (t3,t12)
noncomputable def sL (op:Int):Option ByteArray:=Xf Tb f289 1 f289.ins op
noncomputable def kx (r:GPensionref5_reader) (n:Int):Option Int:=Xf Tb f267 1 f267.ins (r,n)
noncomputable def dg (r:GPensionref5_reader) (n:Int) (op:Int):Option Int:=Xf Tb f267 26 Dt (r,n,op)
noncomputable def aB (n:Int) (r:GPensionref5_reader):Option (GExpr × GPensionref5_reader):=Xf Tb f213 1 f213.ins (n,r)
noncomputable def eP (n:Int) (r:GPensionref5_reader) (Op:Int) (Value:GFraction) (Dim:Int) (Name:ByteArray) (Op2:Int) (Value2:GFraction) (Dim2:Int) (Name2:ByteArray) (Args:List GExpr):Option (GExpr × GPensionref5_reader):=Xf Tb f213 124 Aj (n,r,Op,Value,Dim,Name,Op2,Value2,Dim2,Name2,Args)
noncomputable def ku (r:GPensionref5_reader) (From:Int) (Rounding:GRounding) (Credits:List GCredit) (Series:List GIndex) (Lets:List GLet) (Grants:List GGrant) (Reduces:List GReduce):Option (GPensionref5_reader × Int × GRounding × List GCredit × List GIndex × List GLet × List GGrant × List GReduce):=Xf Tb gn 1 gn.ins (r,From,Rounding,Credits,Series,Lets,Grants,Reduces)
noncomputable def bB (r:GPensionref5_reader) (From:Int) (Rounding:GRounding) (Credits:List GCredit) (Series:List GIndex) (Lets:List GLet) (Grants:List GGrant) (Reduces:List GReduce):Option (GPensionref5_reader × Int × GRounding × List GCredit × List GIndex × List GLet × List GGrant × List GReduce):=Xf Tb gn 3 AE (r,From,Rounding,Credits,Series,Lets,Grants,Reduces)
noncomputable def eA (r:GPensionref5_reader) (From:Int) (Rounding:GRounding) (c:GCredit) (Credits:List GCredit) (Series:List GIndex) (Lets:List GLet) (Grants:List GGrant) (Reduces:List GReduce):Option (GPensionref5_reader × Int × GRounding × List GCredit × List GIndex × List GLet × List GGrant × List GReduce):=Xf Tb gn 75 xL (r,From,Rounding,c,Credits,Series,Lets,Grants,Reduces)
noncomputable def cU (r:GPensionref5_reader) (From:Int) (Rounding:GRounding) (x:GIndex) (Credits:List GCredit) (Series:List GIndex) (Lets:List GLet) (Grants:List GGrant) (Reduces:List GReduce):Option (GPensionref5_reader × Int × GRounding × List GCredit × List GIndex × List GLet × List GGrant × List GReduce):=Xf Tb gn 315 uE (r,From,Rounding,x,Credits,Series,Lets,Grants,Reduces)
noncomputable def dS (r:GPensionref5_reader) (From:Int) (Rounding:GRounding) (x:GIndex) (Credits:List GCredit) (Series:List GIndex) (Lets:List GLet) (Grants:List GGrant) (Reduces:List GReduce):Option (GPensionref5_reader × Int × GRounding × List GCredit × List GIndex × List GLet × List GGrant × List GReduce):=Xf Tb gn 631 vf (r,From,Rounding,x,Credits,Series,Lets,Grants,Reduces)
noncomputable def fM (r:GPensionref5_reader):Option (GVersion × GPensionref5_reader):=Xf Tb f89 1 f89.ins r
noncomputable def dN (r:GPensionref5_reader) (From:Int) (Rounding:GRounding) (From2:Int) (Rounding2:GRounding):Option (GVersion × GPensionref5_reader):=Xf Tb f89 31 Ht (r,From,Rounding,From2,Rounding2)
noncomputable def dy (r:GPensionref5_reader) (From:Int) (Rounding:GRounding) (From2:Int) (Rounding2:GRounding) (Credits:List GCredit) (Series:List GIndex) (Lets:List GLet) (Grants:List GGrant) (Reduces:List GReduce):Option (GVersion × GPensionref5_reader):=Xf Tb f89 4092 zV (r,From,Rounding,From2,Rounding2,Credits,Series,Lets,Grants,Reduces)
noncomputable def gP (r:GPensionref5_reader):Option Int:=Xf Tb f90 1 f90.ins r
noncomputable def fU (day:Int):Option Bool:=Xf Tb f78 1 f78.ins day
noncomputable def oQ (r:GRounding):Option Bool:=Xf Tb f147 1 f147.ins r
noncomputable def ly (n:Int) (of:Int):Option ByteArray:=Xf Tb f214 1 f214.ins (n,of)
noncomputable def bJ (n:Int) (of:Int) (i:Int) (l:List ByteArray):Option ByteArray:=Xf Tb f214 58 Dw (n,of,i,l)
noncomputable def gv (f:GFraction):Option Bool:=Xf Tb f140 1 f140.ins f
noncomputable def lv (n:Int) (least:Int):Option ByteArray:=Xf Tb f290 1 f290.ins (n,least)
noncomputable def jM (n:Int) (least:Int) (s:ByteArray):Option ByteArray:=Xf Tb f290 28 C3 (n,least,s)
noncomputable def jx (a:GFraction):Option ByteArray:=Xf Tb f268 1 f268.ins a
noncomputable def fR (s:ByteArray) (a:GFraction):Option ByteArray:=Xf Tb f268 31 Ep (s,a)
noncomputable def fZ (value:GFraction) (dim:Int):Option (ByteArray × Bool):=Xf Tb f215 1 f215.ins (value,dim)
noncomputable def cA (dim:Int) (s:ByteArray) (rest:Int) (k:Int):Option (ByteArray × Bool):=Xf Tb f215 2042 wU (dim,s,rest,k)
noncomputable def qg (e:GExpr):Option Int:=Xf Tb f218 1 f218.ins e
noncomputable def kH (n:Int) (i:Int) (Op:Int) (Value:GFraction) (Dim:Int) (Name:ByteArray) (Args:List GExpr):Option Int:=Xf Tb f218 58 DP (n,i,Op,Value,Dim,Name,Args)
noncomputable def so (e:GExpr):Option Int:=Xf Tb f219 1 f219.ins e
noncomputable def lM (n:Int) (i:Int) (Op:Int) (Value:GFraction) (Dim:Int) (Name:ByteArray) (Args:List GExpr):Option Int:=Xf Tb f219 58 EH (n,i,Op,Value,Dim,Name,Args)
noncomputable def ow (e:GExpr):Option Bool:=Xf Tb f220 1 f220.ins e
noncomputable def iu (zero:Bool) (i:Int) (Op:Int) (Value:GFraction) (Dim:Int) (Name:ByteArray) (Args:List GExpr):Option Bool:=Xf Tb f220 250 Ae (zero,i,Op,Value,Dim,Name,Args)
noncomputable def ef (e:GExpr):Option Bool:=Xf Tb f170 1 f170.ins e
noncomputable def lh (v:GVersion):Option Bool:=Xf Tb f166 1 f166.ins v
noncomputable def eW (i:Int) (From:Int) (Rounding:GRounding) (Credits:List GCredit) (Series:List GIndex) (Lets:List GLet) (Grants:List GGrant) (Reduces:List GReduce):Option Bool:=Xf Tb f166 58 DI (i,From,Rounding,Credits,Series,Lets,Grants,Reduces)
noncomputable def eo (i:Int) (From:Int) (Rounding:GRounding) (Credits:List GCredit) (Series:List GIndex) (Lets:List GLet) (Grants:List GGrant) (Reduces:List GReduce):Option Bool:=Xf Tb f166 122 A3 (i,From,Rounding,Credits,Series,Lets,Grants,Reduces)
noncomputable def ek (i:Int) (From:Int) (Rounding:GRounding) (Credits:List GCredit) (Series:List GIndex) (Lets:List GLet) (Grants:List GGrant) (Reduces:List GReduce):Option Bool:=Xf Tb f166 250 zX (i,From,Rounding,Credits,Series,Lets,Grants,Reduces)
noncomputable def er (i:Int) (From:Int) (Rounding:GRounding) (Credits:List GCredit) (Series:List GIndex) (Lets:List GLet) (Grants:List GGrant) (Reduces:List GReduce):Option Bool:=Xf Tb f166 506 zP (i,From,Rounding,Credits,Series,Lets,Grants,Reduces)
noncomputable def dQ (i:Int) (From:Int) (Rounding:GRounding) (Credits:List GCredit) (Series:List GIndex) (Lets:List GLet) (Grants:List GGrant) (Reduces:List GReduce):Option Bool:=Xf Tb f166 1018 yb (i,From,Rounding,Credits,Series,Lets,Grants,Reduces)
noncomputable def ml (x:GStatute):Option Bool:=Xf Tb f91 1 f91.ins x
noncomputable def kM (i:Int) (Name:ByteArray) (Currency:Int) (Versions:List GVersion):Option Bool:=Xf Tb f91 58 GI (i,Name,Currency,Versions)
noncomputable def vC (s:ByteArray):Option (GStatute × Int × Int):=Xf Tb f36 1 f36.ins s
noncomputable def dX (first:Bool) (Name:ByteArray) (Currency:Int) (r:GPensionref5_reader) (Name2:ByteArray) (Currency2:Int) (Versions:List GVersion):Option (GStatute × Int × Int):=Xf Tb f36 4090 A7 (first,Name,Currency,r,Name2,Currency2,Versions)
noncomputable def wV (n:List Int):Option (List GState × List GRules × List GRate):=Xf Tb f9 1 f9.ins n
noncomputable def jc (n:List Int) (s:Int) (States:List GState) (Rates:List GRate):Option (List GState × List GRules × List GRate):=Xf Tb f9 58 LB (n,s,States,Rates)
noncomputable def s8 (t:List GRules):Option Int:=Xf Tb f28 1 f28.ins t
noncomputable def iD (t:List GRules) (i:Int):Option Int:=Xf Tb f28 122 EL (t,i)
noncomputable def gw (t:List GRules) (i:Int) (k:Int) (r:GRules):Option Int:=Xf Tb f28 31310 yr (t,i,k,r)
noncomputable def dI (l:List GFact):Option (List GFact):=Xf Tb f29 1 f29.ins l
noncomputable def co (l:List GFact) (i:Int) (out:List GFact):Option (List GFact):=Xf Tb f29 58 H5 (l,i,out)
noncomputable def oD (l:List GFact) (kind:Int):Option (Int × Bool):=Xf Tb f154 1 f154.ins (l,kind)
noncomputable def cF (kind:Int) (day:Int) (ok:Bool) (i:Int) (c:List GFact):Option (Int × Bool):=Xf Tb f154 122 Ak (kind,day,ok,i,c)
noncomputable def sT (l:List GFact):Option (Int × Bool):=Xf Tb f80 1 f80.ins l
noncomputable def ta (l:List GFact):Option (Int × Bool):=Xf Tb f81 1 f81.ins l
noncomputable def iA (l:List GFact):Option GSpan:=Xf Tb f31 1 f31.ins l
noncomputable def qS (s:GSpan):Option (GSpan × Bool):=Xf Tb f180 1 f180.ins s
noncomputable def cV (l:List Int) (n:Int):Option (List Int):=Xf Tb f32 1 f32.ins (l,n)
noncomputable def ia (l:List Int) (n:Int) (xat:Int):Option (List Int):=Xf Tb f32 28 H7 (l,n,xat)
noncomputable def uI (lists:List (List GSpan)):Option (List Int):=Xf Tb f111 1 f111.ins lists
noncomputable def dZ (lists:List (List GSpan)) (out:List Int) (i:Int):Option (List Int):=Xf Tb f111 58 Ej (lists,out,i)
noncomputable def cE (lists:List (List GSpan)) (out:List Int) (i:Int) (k:Int):Option (List Int):=Xf Tb f111 3730 xS (lists,out,i,k)
noncomputable def lK (l:List GSpan) (day:Int):Option Bool:=Xf Tb f112 1 f112.ins (l,day)
noncomputable def bR (l:List GSpan) (day:Int) (i:Int):Option Bool:=Xf Tb f112 26 DF (l,day,i)
noncomputable def AV (l:List GSpan) (s:GSpan):Option (List GSpan):=Xf Tb f113 1 f113.ins (l,s)
noncomputable def mO (a:List GSpan) (b:List GSpan) (kind:Int):Option (List GSpan):=Xf Tb f55 1 f55.ins (a,b,kind)
noncomputable def bQ (a:List GSpan) (b:List GSpan) (kind:Int) (e:List Int) (i:Int) (out:List GSpan):Option (List GSpan):=Xf Tb f55 122 Ed (a,b,kind,e,i,out)
noncomputable def mh (l:List GSpan) (s:GSpan):Option (List GSpan):=Xf Tb f18 1 f18.ins (l,s)
noncomputable def qn (l:List GPosting) (p:GPosting):Option (List GPosting):=Xf Tb f79 1 f79.ins (l,p)
noncomputable def iT (l:List GPosting) (xat:Int) (p:GPosting):Option (List GPosting):=Xf Tb f79 28 Ia (l,xat,p)
noncomputable def nT (l:List GFact):Option (List GPosting):=Xf Tb f30 1 f30.ins l
noncomputable def dT (l:List GFact) (seat:Int) (c:List GFact) (out:List GPosting):Option (List GPosting):=Xf Tb f30 122 CS (l,seat,c,out)
noncomputable def ce (l:List GFact) (seat:Int) (state:Int) (c:List GFact) (out:List GPosting):Option (List GPosting):=Xf Tb f30 7826 A1 (l,seat,state,c,out)
noncomputable def ca (l:List GFact) (seat:Int) (state:Int) (i:Int) (c:List GFact) (out:List GPosting) (s:List GSpan):Option (List GPosting):=Xf Tb f30 2003530 tr (l,seat,state,i,c,out,s)
noncomputable def dR (l:List GFact) (seat:Int) (state:Int) (i:Int) (c:List GFact) (out:List GPosting) (s:List GSpan):Option (List GPosting):=Xf Tb f30 4007070 tz (l,seat,state,i,c,out,s)
noncomputable def pl (t:List GRules) (day:Int):Option (GRules × Bool):=Xf Tb f33 1 f33.ins (t,day)
noncomputable def gU (t:List GRules) (day:Int) (i:Int) (t4:GRules):Option (GRules × Bool):=Xf Tb f33 26 HE (t,day,i,t4)
noncomputable def fJ (s:GSpan) (day:Int):Option Bool:=Xf Tb f34 1 f34.ins (s,day)
noncomputable def rC (c:List GFact) (day:Int):Option (List Int):=Xf Tb f155 1 f155.ins (c,day)
noncomputable def cH (c:List GFact) (day:Int) (i:Int) (t4:List Int) (out:List Int):Option (List Int):=Xf Tb f155 58 DD (c,day,i,t4,out)
noncomputable def jJ (l:List GFact) (day:Int):Option (Int × Bool):=Xf Tb f83 1 f83.ins (l,day)
noncomputable def cc (l:List GFact) (day:Int) (xat:Int) (i:Int) (c:List GFact):Option (Int × Bool):=Xf Tb f83 122 Et (l,day,xat,i,c)
noncomputable def tc (c:List GFact) (day:Int):Option (List Int):=Xf Tb f156 1 f156.ins (c,day)
noncomputable def eV (c:List GFact) (day:Int) (out:List Int) (i:Int):Option (List Int):=Xf Tb f156 58 D8 (c,day,out,i)
noncomputable def nO (l:List GFact) (c:List GFact) (r:GRules) (day:Int):Option (Int × Bool):=Xf Tb f82 1 f82.ins (l,c,r,day)
noncomputable def cq (l:List GFact) (c:List GFact) (day:Int) (sum:Int) (n:Int) (best:Int) (i:Int) (r:GRules) (s:List Int):Option (Int × Bool):=Xf Tb f82 122 Dc (l,c,day,sum,n,best,i,r,s)
noncomputable def wP (l:List GFact) (c:List GFact) (p:List GPosting) (r:GRules) (day:Int):Option (Int × Int):=Xf Tb f35 1 f35.ins (l,c,p,r,day)
noncomputable def e9 (l:List GFact) (c:List GFact) (p:List GPosting) (day:Int) (best:Int) (i:Int) (r:GRules):Option (Int × Int):=Xf Tb f35 58 G1 (l,c,p,day,best,i,r)
noncomputable def ed (l:List GFact) (c:List GFact) (day:Int) (best:Int) (i:Int) (r:GRules):Option (Int × Int):=Xf Tb f35 250 DY (l,c,day,best,i,r)
noncomputable def aW (l:List GFact) (c:List GFact) (day:Int) (best:Int) (i:Int):Option (Int × Int):=Xf Tb f35 2042 AC (l,c,day,best,i)
noncomputable def yk (l:List GFact) (t:List GRules):Option (List GSegment):=Xf Tb f8 1 f8.ins (l,t)
noncomputable def kz (l:List GFact) (t:List GRules) (e:List Int) (i:Int) (c:List GFact) (p:List GPosting) (life:GSpan):Option (List GSegment):=Xf Tb f8 250 GW (l,t,e,i,c,p,life)
noncomputable def fm (l:List GFact) (t:List GRules) (e:List Int) (i:Int) (c:List GFact) (p:List GPosting) (life:GSpan):Option (List GSegment):=Xf Tb f8 506 IB (l,t,e,i,c,p,life)
noncomputable def gi (l:List GFact) (t:List GRules) (e:List Int) (k:Int) (c:List GFact) (p:List GPosting) (life:GSpan):Option (List GSegment):=Xf Tb f8 1018 Do (l,t,e,k,c,p,life)
noncomputable def bW (l:List GFact) (t:List GRules) (e:List Int) (i:Int) (c:List GFact) (p:List GPosting) (life:GSpan) (out:List GSegment):Option (List GSegment):=Xf Tb f8 4090 D4 (l,t,e,i,c,p,life,out)
noncomputable def iv (l:List GFact) (t:List GRules) (e:List Int) (i:Int) (k:Int) (c:List GFact) (p:List GPosting) (life:GSpan):Option (List GSegment):=Xf Tb f8 64806 zQ (l,t,e,i,k,c,p,life)
noncomputable def mV (i:Int):Option ByteArray:=Xf Tb f95 1 f95.ins i
noncomputable def bi (k:Int) (s:GPensionmade_source):Option (Int × GPensionmade_source):=Xf Tb f216 1 f216.ins (k,s)
noncomputable def fe (k:Int) (n:Int) (s:GPensionmade_source):Option (Int × GPensionmade_source):=Xf Tb f216 15 Dl (k,n,s)
noncomputable def wa:Option (List ByteArray):=Xf Tb f270 1 f270.ins ()
noncomputable def uS (name:ByteArray):Option (Int × Bool):=Xf Tb f271 1 f271.ins name
noncomputable def kF (t4:ByteArray) (t5:Bool):Option (Int × Bool):=Xf Tb f271 53 D6 (t4,t5)
noncomputable def dc (t4:ByteArray) (t9:Bool):Option (Int × Bool):=Xf Tb f271 215 zU (t4,t9)
noncomputable def tf (dim:Int):Option (List ByteArray):=Xf Tb f221 1 f221.ins dim
noncomputable def fB (dim:Int) (i:Int) (l:List ByteArray) (out:List ByteArray):Option (List ByteArray):=Xf Tb f221 122 AU (dim,i,l,out)
noncomputable def j6 (s:GPensionmade_source):Option (GFraction × GPensionmade_source):=Xf Tb f222 1 f222.ins s
noncomputable def bj (dim:Int) (s:GPensionmade_source) (env:List GBinding):Option (GExpr × GPensionmade_source × List GBinding):=Xf Tb oX 1 oX.ins (dim,s,env)
noncomputable def cz (dim:Int) (i:Int) (s:GPensionmade_source) (env:List GBinding) (Op:Int) (Value:GFraction) (Dim:Int) (Name:ByteArray) (names:List ByteArray):Option (GExpr × GPensionmade_source × List GBinding):=Xf Tb oX 250 uf (dim,i,s,env,Op,Value,Dim,Name,names)
noncomputable def aM (op:Int) (deep:Int) (dims:List Int) (s:GPensionmade_source) (env:List GBinding):Option (GExpr × GPensionmade_source × List GBinding):=Xf Tb oN 1 oN.ins (op,deep,dims,s,env)
noncomputable def fc (deep:Int) (dims:List Int) (i:Int) (s:GPensionmade_source) (env:List GBinding) (Op:Int) (Value:GFraction) (Dim:Int) (Name:ByteArray) (Op2:Int) (Value2:GFraction) (Dim2:Int) (Name2:ByteArray) (Args:List GExpr):Option (GExpr × GPensionmade_source × List GBinding):=Xf Tb oN 58 w9 (deep,dims,i,s,env,Op,Value,Dim,Name,Op2,Value2,Dim2,Name2,Args)
noncomputable def ee (dim:Int) (deep:Int) (s:GPensionmade_source) (env:List GBinding):Option (GExpr × GPensionmade_source × List GBinding):=Xf Tb ja 1 ja.ins (dim,deep,s,env)
noncomputable def cl (dim:Int) (deep:Int) (k:Int) (t84:Int) (t85:Bool) (s:GPensionmade_source) (env:List GBinding) (Op:Int) (Value:GFraction) (Dim:Int) (Name:ByteArray):Option (GExpr × GPensionmade_source × List GBinding):=Xf Tb ja 1013 sN (dim,deep,k,t84,t85,s,env,Op,Value,Dim,Name)
noncomputable def em (dim:Int) (deep:Int) (k:Int) (t36:Int) (t37:Bool) (s:GPensionmade_source) (env:List GBinding) (Op:Int) (Value:GFraction) (Dim:Int) (Name:ByteArray):Option (GExpr × GPensionmade_source × List GBinding):=Xf Tb ja 4005 sS (dim,deep,k,t36,t37,s,env,Op,Value,Dim,Name)
noncomputable def bw (dim:Int) (deep:Int) (t61:Bool) (s:GPensionmade_source) (env:List GBinding) (Op:Int) (Value:GFraction) (Dim:Int) (Name:ByteArray):Option (GExpr × GPensionmade_source × List GBinding):=Xf Tb ja 256383 pq (dim,deep,t61,s,env,Op,Value,Dim,Name)
noncomputable def l7 (l:List Int) (dim:Int) (env:List GBinding):Option (GExpr × List GBinding):=Xf Tb yA 1 yA.ins (l,dim,env)
noncomputable def pV (n:Int) (From:Int) (Rounding:GRounding) (Credits:List GCredit) (Series:List GIndex) (Lets:List GLet) (Grants:List GGrant) (Reduces:List GReduce):Option (Int × GRounding × List GCredit × List GIndex × List GLet × List GGrant × List GReduce):=Xf Tb yP 1 yP.ins (n,From,Rounding,Credits,Series,Lets,Grants,Reduces)
noncomputable def C8 (v:GPensionmade_Version):Option GVersion:=Xf Tb f40 1 f40.ins v
noncomputable def kh (i:Int) (v:GPensionmade_Version) (From:Int) (Rounding:GRounding) (From2:Int) (Rounding2:GRounding) (kinds:List Int) (Credits:List GCredit):Option GVersion:=Xf Tb f40 122 Db (i,v,From,Rounding,From2,Rounding2,kinds,Credits)
noncomputable def j8 (i:Int) (v:GPensionmade_Version) (From:Int) (Rounding:GRounding) (From2:Int) (Rounding2:GRounding) (Credits:List GCredit) (Series:List GIndex):Option GVersion:=Xf Tb f40 250 Dk (i,v,From,Rounding,From2,Rounding2,Credits,Series)
noncomputable def jf (i:Int) (v:GPensionmade_Version) (From:Int) (Rounding:GRounding) (From2:Int) (Rounding2:GRounding) (env:List GBinding) (Credits:List GCredit) (Series:List GIndex) (Lets:List GLet):Option GVersion:=Xf Tb f40 1018 AZ (i,v,From,Rounding,From2,Rounding2,env,Credits,Series,Lets)
noncomputable def jj (i:Int) (v:GPensionmade_Version) (From:Int) (Rounding:GRounding) (From2:Int) (Rounding2:GRounding) (env:List GBinding) (Credits:List GCredit) (Series:List GIndex) (Lets:List GLet) (Grants:List GGrant):Option GVersion:=Xf Tb f40 2042 AW (i,v,From,Rounding,From2,Rounding2,env,Credits,Series,Lets,Grants)
noncomputable def je (i:Int) (v:GPensionmade_Version) (From:Int) (Rounding:GRounding) (From2:Int) (Rounding2:GRounding) (env:List GBinding) (Credits:List GCredit) (Series:List GIndex) (Lets:List GLet) (Grants:List GGrant) (Reduces:List GReduce):Option GVersion:=Xf Tb f40 4090 AA (i,v,From,Rounding,From2,Rounding2,env,Credits,Series,Lets,Grants,Reduces)
noncomputable def jQ (i:Int) (l:List Int) (v:GPensionmade_Version) (From:Int) (Rounding:GRounding) (From2:Int) (Rounding2:GRounding) (env:List GBinding) (g:Int) (g2:Int) (g3:GFraction) (g4:Int) (g5:ByteArray) (g6:Int) (g7:GFraction) (g8:Int) (g9:ByteArray) (g10:List GExpr) (Credits:List GCredit) (Series:List GIndex) (Lets:List GLet) (Grants:List GGrant):Option GVersion:=Xf Tb f40 261415 ul (i,l,v,From,Rounding,From2,Rounding2,env,g,g2,g3,g4,g5,g6,g7,g8,g9,g10,Credits,Series,Lets,Grants)
noncomputable def pm (v:List GPensionmade_Version) (order:Int):Option (List GScheme):=Xf Tb f11 1 f11.ins (v,order)
noncomputable def gH (v:List GPensionmade_Version) (order:Int) (i:Int) (out:List GScheme):Option (List GScheme):=Xf Tb f11 58 Ij (v,order,i,out)
noncomputable def tj (s:GSpan):Option GSpan:=Xf Tb f108 1 f108.ins s
noncomputable def iS (l:List GSpan):Option (List GSpan):=Xf Tb f54 1 f54.ins l
noncomputable def dt (t10:List GSpan) (t11:Int) (t12:Int) (sorted:List GSpan):Option (List GSpan):=Xf Tb f54 58 HJ (t10,t11,t12,sorted)
noncomputable def db (t33:Int) (t34:Int) (out:List GSpan) (t32:List GSpan):Option (List GSpan):=Xf Tb f54 506 EB (t33,t34,out,t32)
noncomputable def lU (law:List GSegment) (state:Int) (rule:Int):Option (List GSpan):=Xf Tb f43 1 f43.ins (law,state,rule)
noncomputable def bE (state:Int) (rule:Int) (t10:List GSegment) (t11:Int) (t12:Int) (out:List GSpan):Option (List GSpan):=Xf Tb f43 58 GH (state,rule,t10,t11,t12,out)
noncomputable def su (a:List GSpan) (b:List GSpan):Option (List GSpan):=Xf Tb f98 1 f98.ins (a,b)
noncomputable def bq (i:Int) (j:Int) (a:List GSpan) (b:List GSpan) (out:List GSpan):Option (List GSpan):=Xf Tb f98 122 D2 (i,j,a,b,out)
noncomputable def ik (i:Int) (j:Int) (a:List GSpan) (b:List GSpan) (out:List GSpan):Option (List GSpan):=Xf Tb f98 3915 AP (i,j,a,b,out)
noncomputable def iP (l:List GSpan) (s:GSpan):Option (List GSpan):=Xf Tb f42 1 f42.ins (l,s)
noncomputable def li:Option (List GAnon120):=Xf Tb f44 1 f44.ins ()
noncomputable def qu (c:GCredit) (t1:Int):Option Bool:=Xf Tb f100 1 f100.ins (c,t1)
noncomputable def qo (s:List GCredit) (f0:Int):Option Int:=Xf Tb f99 1 f99.ins (s,f0)
noncomputable def cf (s:List GCredit) (f0:Int) (t7:Int) (t8:Int):Option Int:=Xf Tb f99 26 HL (s,f0,t7,t8)
noncomputable def nS (v:GVersion) (kind:Int):Option (Int × Bool):=Xf Tb f45 1 f45.ins (v,kind)
noncomputable def xp (kind:Int):Option ByteArray:=Xf Tb f193 1 f193.ins kind
noncomputable def nX (t3:Int) (t6:Bool):Option ByteArray:=Xf Tb f193 215 AH (t3,t6)
noncomputable def fY (t3:Int) (t11:Bool):Option ByteArray:=Xf Tb f193 3455 yw (t3,t11)
noncomputable def gO (t3:Int) (t20:Bool):Option ByteArray:=Xf Tb f193 221183 s7 (t3,t20)
noncomputable def gB (x:Int) (low:Int) (high:Int):Option Bool:=Xf Tb f196 1 f196.ins (x,low,high)
noncomputable def l3 (s:ByteArray) (c:Int):Option Int:=Xf Tb f297 1 f297.ins (s,c)
noncomputable def pM (s:ByteArray) (substr:ByteArray):Option Int:=Xf Tb f286 1 f286.ins (s,substr)
noncomputable def wd (s:ByteArray) (substr:ByteArray):Option Int:=Xf Tb f257 1 f257.ins (s,substr)
noncomputable def qy (s:ByteArray) (substr:ByteArray):Option Bool:=Xf Tb f195 1 f195.ins (s,substr)
noncomputable def bu (letter:ByteArray) (t1:ByteArray):Option Bool:=Xf Tb f194 1 f194.ins (letter,t1)
noncomputable def cd (used:Bool) (x:Int) (low:Int) (high:Int):Option Bool:=Xf Tb f197 1 f197.ins (used,x,low,high)
noncomputable def nH (s:GSpan):Option Bool:=Xf Tb f198 1 f198.ins s
noncomputable def vP (f:GFact):Option Bool:=Xf Tb f138 1 f138.ins f
noncomputable def fE (t89:Int) (t97:Bool) (f:GFact):Option Bool:=Xf Tb f138 2007 xZ (t89,t97,f)
noncomputable def hY (f:GFact):Option Bool:=Xf Tb f101 1 f101.ins f
noncomputable def mL (l:List GFact) (kind:Int):Option (Int × Bool):=Xf Tb f223 1 f223.ins (l,kind)
noncomputable def cJ (kind:Int) (day:Int) (ok:Bool) (t10:List GFact) (t11:Int) (t12:Int):Option (Int × Bool):=Xf Tb f223 58 Dz (kind,day,ok,t10,t11,t12)
noncomputable def rE (l:List GFact):Option (Int × Bool):=Xf Tb f172 1 f172.ins l
noncomputable def qV (l:List GFact):Option (Int × Bool):=Xf Tb f173 1 f173.ins l
noncomputable def oe (l:List GFact):Option GSpan:=Xf Tb f102 1 f102.ins l
noncomputable def rb (l:List GFact) (kind:Int) (state:Int):Option (List GSpan):=Xf Tb f46 1 f46.ins (l,kind,state)
noncomputable def cM (l:List GFact) (kind:Int) (state:Int) (t10:List GFact) (t11:Int) (t12:Int) (out:List GSpan):Option (List GSpan):=Xf Tb f46 58 Ic (l,kind,state,t10,t11,t12,out)
noncomputable def wc (l:List GFact):Option (List GFact):=Xf Tb f174 1 f174.ins l
noncomputable def bT (t8:List GFact) (t9:Int) (t10:Int) (out:List GFact):Option (List GFact):=Xf Tb f174 58 Ek (t8,t9,t10,out)
noncomputable def nY (l:List GFact):Option (List GFact):=Xf Tb f103 1 f103.ins l
noncomputable def jT (l:List GSpan) (n:Int):Option (List GSpan):=Xf Tb f48 1 f48.ins (l,n)
noncomputable def iN (n:Int) (t10:Int) (t11:Int) (out:List GSpan) (t9:List GSpan):Option (List GSpan):=Xf Tb f48 58 Ip (n,t10,t11,out,t9)
noncomputable def jy (n:Int) (t10:Int) (t11:Int) (out:List GSpan) (s:GSpan) (t9:List GSpan):Option (List GSpan):=Xf Tb f48 14951 xH (n,t10,t11,out,s,t9)
noncomputable def iz (l:List GFact) (state:Int) (before:GSpan) (limit:Int):Option (List GSpan):=Xf Tb f47 1 f47.ins (l,state,before,limit)
noncomputable def bH (l:List GFact) (state:Int) (limit:Int) (child:Int) (before:GSpan) (out:List GSpan):Option (List GSpan):=Xf Tb f47 58 HQ (l,state,limit,child,before,out)
noncomputable def aT (l:List GFact) (state:Int) (limit:Int) (child:Int) (t20:Int) (t21:Int) (before:GSpan) (out:List GSpan) (days:List GSpan) (t19:List GFact):Option (List GSpan):=Xf Tb f47 14922 yq (l,state,limit,child,t20,t21,before,out,days,t19)
noncomputable def gN (rank:Int) (days:List GSpan) (t3:Int) (t32:Int) (t33:GRounding) (t34:List GCredit) (t35:List GIndex) (t36:List GLet) (t37:List GGrant) (t38:List GReduce) (t2:List GPeriod):Option (Int × Int × GRounding × List GCredit × List GIndex × List GLet × List GGrant × List GReduce × List GPeriod):=Xf Tb sn 1 sn.ins (rank,days,t3,t32,t33,t34,t35,t36,t37,t38,t2)
noncomputable def cS (rank:Int) (t8:List GSpan) (t9:Int) (t10:Int) (t3:Int) (t32:Int) (t33:Int) (t34:Int) (t35:List GCredit) (t36:List GIndex) (t37:List GLet) (t38:List GGrant) (t39:List GReduce) (t2:List GPeriod):Option (Int × Int × GRounding × List GCredit × List GIndex × List GLet × List GGrant × List GReduce × List GPeriod):=Xf Tb sn 6 C6 (rank,t8,t9,t10,t3,t32,t33,t34,t35,t36,t37,t38,t39,t2)
noncomputable def eT (l:List GFact) (law:List GSegment) (schemes:List GScheme) (before:Int):Option (List GPeriod × Int):=Xf Tb f12 1 f12.ins (l,law,schemes,before)
noncomputable def ct (l:List GFact) (law:List GSegment) (schemes:List GScheme) (before:Int) (t28:List GScheme) (t29:Int) (t30:Int):Option (List GPeriod × Int):=Xf Tb f12 58 HA (l,law,schemes,before,t28,t29,t30)
noncomputable def aY (l:List GFact) (law:List GSegment) (t61:List GScheme) (t62:Int) (t63:Int) (past:GSpan) (out:List GPeriod):Option (List GPeriod × Int):=Xf Tb f12 506 DQ (l,law,t61,t62,t63,past,out)
noncomputable def aS (l:List GFact) (law:List GSegment) (t61:List GScheme) (t62:Int) (t63:Int) (t77:Int) (t78:Int) (past:GSpan) (x:Int) (x2:Int) (x3:GRounding) (x4:List GCredit) (x5:List GIndex) (x6:List GLet) (x7:List GGrant) (x8:List GReduce) (t76:List GAnon120) (out:List GPeriod):Option (List GPeriod × Int):=Xf Tb f12 518558 vW (l,law,t61,t62,t63,t77,t78,past,x,x2,x3,x4,x5,x6,x7,x8,t76,out)
noncomputable def dj (l:List GFact) (law:List GSegment) (t61:List GScheme) (t62:Int) (t63:Int) (t77:Int) (t78:Int) (past:GSpan) (x:Int) (x2:Int) (x3:GRounding) (x4:List GCredit) (x5:List GIndex) (x6:List GLet) (x7:List GGrant) (x8:List GReduce) (c:GAnon120) (days:List GSpan) (t76:List GAnon120) (out:List GPeriod):Option (List GPeriod × Int):=Xf Tb f12 531003807 pr (l,law,t61,t62,t63,t77,t78,past,x,x2,x3,x4,x5,x6,x7,x8,c,days,t76,out)
noncomputable def gY (l:List GSpan):Option (List GSpan):=Xf Tb f105 1 f105.ins l
noncomputable def sP (law:List GSegment) (state:Int) (rule:Int):Option (List GSpan):=Xf Tb f50 1 f50.ins (law,state,rule)
noncomputable def da (law:List GSegment) (state:Int) (rule:Int) (i:Int) (out:List GSpan):Option (List GSpan):=Xf Tb f50 58 IM (law,state,rule,i,out)
noncomputable def tq (l:List GSpan) (n:Int):Option (List GSpan):=Xf Tb f104 1 f104.ins (l,n)
noncomputable def iL (n:Int) (i:Int) (out:List GSpan) (m:List GSpan):Option (List GSpan):=Xf Tb f104 122 zT (n,i,out,m)
noncomputable def jk (l:List GSpan) (before:Int) (limit:Int):Option (List GSpan):=Xf Tb f49 1 f49.ins (l,before,limit)
noncomputable def cP (kind:Int):Option Int:=Xf Tb f106 1 f106.ins kind
noncomputable def cL (rank:Int):Option Int:=Xf Tb f52 1 f52.ins rank
noncomputable def fy (rank:Int) (k:Int):Option Int:=Xf Tb f52 26 Hn (rank,k)
noncomputable def th (v:GVersion) (kind:Int):Option (Int × Bool):=Xf Tb f51 1 f51.ins (v,kind)
noncomputable def jF (kind:Int) (i:Int) (From:Int) (Rounding:GRounding) (Credits:List GCredit) (Series:List GIndex) (Lets:List GLet) (Grants:List GGrant) (Reduces:List GReduce):Option (Int × Bool):=Xf Tb f51 26 HS (kind,i,From,Rounding,Credits,Series,Lets,Grants,Reduces)
noncomputable def sZ (l:List GFact) (kind:Int) (state:Int):Option (List GSpan):=Xf Tb f107 1 f107.ins (l,kind,state)
noncomputable def cC (l:List GFact) (kind:Int) (state:Int) (i:Int) (c:List GFact) (out:List GSpan):Option (List GSpan):=Xf Tb f107 122 A6 (l,kind,state,i,c,out)
noncomputable def nR (l:List GFact) (kind:Int) (state:Int) (before:Int) (limit:Int):Option (List GSpan):=Xf Tb f53 1 f53.ins (l,kind,state,before,limit)
noncomputable def bO (l:List GFact) (state:Int) (before:Int) (limit:Int) (ref:Int) (c:List GFact) (out:List GSpan):Option (List GSpan):=Xf Tb f53 250 D3 (l,state,before,limit,ref,c,out)
noncomputable def bf (l:List GFact) (state:Int) (before:Int) (limit:Int) (ref:Int) (i:Int) (c:List GFact) (out:List GSpan) (one:List GSpan):Option (List GSpan):=Xf Tb f53 64074 ye (l,state,before,limit,ref,i,c,out,one)
noncomputable def ro (l:List GFact) (law:List GSegment) (schemes:List GScheme) (before:Int):Option (List GPeriod × Int):=Xf Tb f13 1 f13.ins (l,law,schemes,before)
noncomputable def dW (l:List GFact) (law:List GSegment) (schemes:List GScheme) (before:Int) (i:Int):Option (List GPeriod × Int):=Xf Tb f13 58 Hl (l,law,schemes,before,i)
noncomputable def bS (l:List GFact) (law:List GSegment) (schemes:List GScheme) (before:Int) (i:Int) (out:List GPeriod):Option (List GPeriod × Int):=Xf Tb f13 250 De (l,law,schemes,before,i,out)
noncomputable def bx (l:List GFact) (law:List GSegment) (schemes:List GScheme) (before:Int) (i:Int) (s:Int) (rank:Int) (out:List GPeriod):Option (List GPeriod × Int):=Xf Tb f13 32038 yj (l,law,schemes,before,i,s,rank,out)
noncomputable def bg (l:List GFact) (law:List GSegment) (schemes:List GScheme) (before:Int) (i:Int) (s:Int) (rank:Int) (k:Int) (out:List GPeriod) (d:List GSpan):Option (List GPeriod × Int):=Xf Tb f13 8201806 s5 (l,law,schemes,before,i,s,rank,k,out,d)
noncomputable def sW:Option Bool:=Xf Tb f14 1 f14.ins ()
noncomputable def lj (a:List GPeriod) (b:List GPeriod):Option Bool:=Xf Tb f15 1 f15.ins (a,b)
noncomputable def bV (a:List GPeriod) (b:List GPeriod) (i:Int):Option Bool:=Xf Tb f15 58 IS (a,b,i)
noncomputable def mU (l:List GPensionhand_Fact) (n:List Int) (v:List GPensionmade_Version) (order:Int) (before:Int):Option Bool:=Xf Tb f3 1 f3.ins (l,n,v,order,before)
noncomputable def dE (v:List GPensionmade_Version) (order:Int) (before:Int) (a:List GFact) (law:List GSegment):Option Bool:=Xf Tb f3 63 Lx (v,order,before,a,law)
end Go.Ax
