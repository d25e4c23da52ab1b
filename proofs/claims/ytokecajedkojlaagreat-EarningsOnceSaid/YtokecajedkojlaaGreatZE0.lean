import Derived.Test.YtokecajedkojlaaGreatZHd
import Derived.Test.YtokecajedkojlaaGreatRows
set_option linter.all false
set_option maxRecDepth 100000
set_option maxHeartbeats 0
namespace Go.Ax
open Go.Proofs Go.Proofs.YtokecajedkojlaaGreat
abbrev LW:Tm:={ sl:=[(0, .t (.i .i64)),(3, .t (.s))],ob:=[] }
/- pension/pensionhand.digits -/
noncomputable def f92:FI:={ fid:=92,fn:=Tryz.f92,c:=aj Tryz.f92,ins:={ sl:=[(0, .t (.i .i64))] },out:=.new (.t (.s)),cuts:=[(28,LW)] }
noncomputable def f38:FI:={ fid:=38,fn:=Tryz.f38,c:=aj Tryz.f38,ins:={ sl:=[(0, .t (.i .i64)),(1, .t (.i .i64))] },out:=.new (.t (.i .i64)),cuts:=[] }
noncomputable def f39:FI:={ fid:=39,fn:=Tryz.f39,c:=aj Tryz.f39,ins:={ sl:=[(0, .t (.ls (.i .i64))),(1, .t (.i .i64))] },out:=.new (.t (.i .i64)),cuts:=[] }
noncomputable def f167:FI:={ fid:=167,fn:=Tryz.f167,c:=aj Tryz.f167,ins:={ sl:=[(0, .t (.i .i64))] },out:=.new (.t (.s)),cuts:=[] }
abbrev NI:Tm:={ sl:=[(1, .t (.ls (.i .i64))),(2, .t (.i .i64)),(7, .t (.s)),(8, .t (.s))],ob:=[] }
abbrev II:Tm:={ sl:=[(1, .t (.ls (.i .i64))),(2, .t (.i .i64)),(7, .t (.s)),(8, .t (.s))],ob:=[] }
abbrev Iq:Tm:={ sl:=[(1, .t (.ls (.i .i64))),(2, .t (.i .i64)),(7, .t (.s)),(8, .t (.s))],ob:=[] }
abbrev Fd:Tm:={ sl:=[(1, .t (.ls (.i .i64))),(2, .t (.i .i64)),(8, .t (.s))],ob:=[] }
abbrev Bf:Tm:={ sl:=[(1, .t (.ls (.i .i64))),(2, .t (.i .i64)),(8, .t (.s))],ob:=[] }
noncomputable def f93:FI:={ fid:=93,fn:=Tryz.f93,c:=aj Tryz.f93,ins:={ sl:=[(0, .t (.s)),(1, .t (.ls (.i .i64))),(2, .t (.i .i64))] },out:=.new (.t (.s)),cuts:=[(31,NI),(127,II),(255,Iq),(8191,Fd),(65535,Bf)] }
abbrev Nv:Tm:={ sl:=[(0, .t (.i .i64)),(1, .t (.ls (.i .i64))),(6, .t (.s))],ob:=[] }
noncomputable def f37:FI:={ fid:=37,fn:=Tryz.f37,c:=aj Tryz.f37,ins:={ sl:=[(0, .t (.i .i64)),(1, .t (.ls (.i .i64)))] },out:=.new (.t (.s)),cuts:=[(31,Nv)] }
abbrev H1:Tm:={ sl:=[(0, .t (.s)),(1, .t (.i .i64)),(5, .t (.b))],ob:=[] }
noncomputable def f259:FI:={ fid:=259,fn:=Tryz.f259,c:=aj Tryz.f259,ins:={ sl:=[(0, .t (.s)),(1, .t (.i .i64))] },out:=.new (.t (.i .i64)),cuts:=[(28,H1)] }
noncomputable def f260:FI:={ fid:=260,fn:=Tryz.f260,c:=aj Tryz.f260,ins:={ sl:=[(0, .t (.i .u8))] },out:=.new (.t (.b)),cuts:=[] }
noncomputable def f262:FI:={ fid:=262,fn:=Tryz.f262,c:=aj Tryz.f262,ins:={ sl:=[(0, .t (.i .u8))] },out:=.new (.t (.b)),cuts:=[] }
abbrev Jr:Tm:={ sl:=[(0, .t (.s)),(1, .t (.i .i64)),(2, .t (.b)),(7, .t (.i .i64))],ob:=[] }
noncomputable def f261:FI:={ fid:=261,fn:=Tryz.f261,c:=aj Tryz.f261,ins:={ sl:=[(0, .t (.s)),(1, .t (.i .i64)),(2, .t (.b))] },out:=.new (.t (.i .i64)),cuts:=[(28,Jr)] }
abbrev Iu:Tm:={ sl:=[(0, .t (.s)),(6, .t (.i .i64))],ob:=[] }
abbrev DY:Tm:={ sl:=[(0, .t (.s)),(6, .t (.i .i64)),(8, .t (.i .i64)),(9, .t (.i .i64))],ob:=[] }
abbrev DX:Tm:={ sl:=[(6, .t (.i .i64)),(10, .t (.s)),(11, .t (.s))],ob:=[] }
abbrev Cj:Tm:={ sl:=[(6, .t (.i .i64)),(10, .t (.s)),(11, .t (.s)),(12, .t (.i .i64))],ob:=[] }
noncomputable def f208:FI:={ fid:=208,fn:=Tryz.f208,c:=aj Tryz.f208,ins:={ sl:=[(0, .t (.s))] },out:=.new (.tp [.t (.s), .t (.s), .t (.i .i64), .t (.b)]),cuts:=[(15,Iu),(250,DY),(255,DX),(2042,Cj)] }
abbrev I7:Tm:={ sl:=[(0, .t (.s)),(4, .t (.i .i64)),(5, .t (.i .i64))],ob:=[] }
noncomputable def f264:FI:={ fid:=264,fn:=Tryz.f264,c:=aj Tryz.f264,ins:={ sl:=[(0, .t (.s))] },out:=.new (.tp [.t (.i .i64), .t (.b)]),cuts:=[(58,I7)] }
noncomputable def f258:FI:={ fid:=258,fn:=Tryz.f258,c:=aj Tryz.f258,ins:={ sl:=[(0, .t (.i .i64))] },out:=.new (.t (.b)),cuts:=[] }
noncomputable def f201:FI:={ fid:=201,fn:=Tryz.f201,c:=aj Tryz.f201,ins:={ sl:=[(0, .t (.i .i64)),(1, .t (.i .i64))] },out:=.new (.t (.i .i64)),cuts:=[] }
abbrev IR:Tm:={ sl:=[(0, .t (.i .i64)),(3, .t (.i .i64)),(4, .t (.i .i64))],ob:=[] }
noncomputable def f144:FI:={ fid:=144,fn:=Tryz.f144,c:=aj Tryz.f144,ins:={ sl:=[(0, .t (.i .i64))] },out:=.new (.t (.i .i64)),cuts:=[(58,IR)] }
noncomputable def f265:FI:={ fid:=265,fn:=Tryz.f265,c:=aj Tryz.f265,ins:={ sl:=[(0, .t (.i .i64)),(1, .t (.i .i64)),(2, .t (.i .i64))] },out:=.new (.tp [.t (.i .i64), .t (.b)]),cuts:=[] }
noncomputable def f209:FI:={ fid:=209,fn:=Tryz.f209,c:=aj Tryz.f209,ins:={ sl:=[(0, .t (.s))] },out:=.new (.tp [.t (.i .i64), .t (.b)]),cuts:=[] }
abbrev LP:Tm:={ sl:=[(0, .t (.s)),(1, .t (.i .i64))],ob:=[] }
abbrev EF:Tm:={ sl:=[(29, .t (.b))],ob:=[] }
noncomputable def f263:FI:={ fid:=263,fn:=Tryz.f263,c:=aj Tryz.f263,ins:={ sl:=[(0, .t (.s)),(1, .t (.i .i64))] },out:=.new (.t (.i .i64)),cuts:=[(7,LP),(117,EF)] }
abbrev D6:Tm:={ sl:=[(0, .t (.s)),(1, .t (.i .i64)),(4, .k (.ptr 0 3 0 0)),(7, .t (.i .i64)),(8, .t (.i .i64)),(9, .t (.b))],ob:=[.box [.t (.st .GToken)]] }
noncomputable def f205:FI:={ fid:=205,fn:=Tryz.f205,c:=aj Tryz.f205,ins:={ sl:=[(0, .t (.s)),(1, .t (.i .i64))] },out:=.new (.tp [.t (.st .GToken), .t (.i .i64), .t (.i .i64)]),cuts:=[(127,D6)] }
abbrev IS:Tm:={ sl:=[(0, .t (.s)),(5, .k (.row 0 3)),(6, .t (.i .i64))],ob:=[.row 236 (.st .GToken)] }
noncomputable def f157:FI:={ fid:=157,fn:=Tryz.f157,c:=aj Tryz.f157,ins:={ sl:=[(0, .t (.s))] },out:=.new (.tp [.t (.ls (.st .GToken)), .t (.i .i64), .t (.i .i64)]),cuts:=[(62,IS)] }
noncomputable def f84:FI:={ fid:=84,fn:=Tryz.f84,c:=aj Tryz.f84,ins:={ sl:=[(0, .t (.s))],ob:=[] },out:=.gen2 ({ sl:=[(2000000, .tp [.tp [.k (.c (.lit (.pointer none))), .t (.i .i64), .t (.i .i64)]])],ob:=[] }) ({ sl:=[(2000000, .tp [.tp [.k (.ptr 0 4 0 0), .t (.i .i64), .t (.i .i64)]])],ob:=[.box [.t (.st .GPensionref5_reader)]] }),cuts:=[] }
noncomputable def f162:FI:={ fid:=162,fn:=Tryz.f162,c:=aj Tryz.f162,ins:={ sl:=[(0, .dp (.st .GPensionref5_reader)),(1, .t (.s))] },out:=.new (.t (.b)),cuts:=[] }
noncomputable def f88:FI:={ fid:=88,fn:=Tryz.f88,c:=aj Tryz.f88,ins:={ sl:=[(0, .k (.ptr 0 4 0 0)),(1, .t (.s)),(1000000, .k (.ptr 0 4 0 0))],ob:=[.box [.t (.st .GPensionref5_reader)]] },out:=.gen ({ sl:=[(1000000, .k (.ptr 0 4 0 0)),(2000000, .tp [.t (.b)])],ob:=[.box [.t (.st .GPensionref5_reader)]] }),cuts:=[] }
noncomputable def f158:FI:={ fid:=158,fn:=Tryz.f158,c:=aj Tryz.f158,ins:={ sl:=[(0, .k (.ptr 0 4 0 0)),(1000000, .k (.ptr 0 4 0 0))],ob:=[.box [.t (.st .GPensionref5_reader)]] },out:=.gen ({ sl:=[(1000000, .k (.ptr 0 4 0 0)),(2000000, .tp [.tp []])],ob:=[.box [.t (.st .GPensionref5_reader)]] }),cuts:=[] }
noncomputable def f85:FI:={ fid:=85,fn:=Tryz.f85,c:=aj Tryz.f85,ins:={ sl:=[(0, .k (.ptr 0 4 0 0)),(1, .t (.s)),(1000000, .k (.ptr 0 4 0 0))],ob:=[.box [.t (.st .GPensionref5_reader)]] },out:=.gen ({ sl:=[(1000000, .k (.ptr 0 4 0 0)),(2000000, .tp [.tp []])],ob:=[.box [.t (.st .GPensionref5_reader)]] }),cuts:=[] }
noncomputable def f159:FI:={ fid:=159,fn:=Tryz.f159,c:=aj Tryz.f159,ins:={ sl:=[(0, .dp (.st .GPensionref5_reader)),(1, .t (.i .i64))] },out:=.new (.t (.b)),cuts:=[] }
abbrev IF:Tm:={ sl:=[(0, .t (.s)),(3, .t (.i .i64))],ob:=[] }
noncomputable def f206:FI:={ fid:=206,fn:=Tryz.f206,c:=aj Tryz.f206,ins:={ sl:=[(0, .t (.s))] },out:=.new (.t (.b)),cuts:=[(26,IF)] }
abbrev IM:Tm:={ sl:=[(4, .t (.b))],ob:=[] }
noncomputable def f207:FI:={ fid:=207,fn:=Tryz.f207,c:=aj Tryz.f207,ins:={ sl:=[(0, .t (.s))] },out:=.new (.t (.b)),cuts:=[(53,IM)] }
noncomputable def f160:FI:={ fid:=160,fn:=Tryz.f160,c:=aj Tryz.f160,ins:={ sl:=[(0, .t (.s))] },out:=.new (.t (.b)),cuts:=[] }
noncomputable def f86:FI:={ fid:=86,fn:=Tryz.f86,c:=aj Tryz.f86,ins:={ sl:=[(0, .k (.ptr 0 4 0 0)),(1000000, .k (.ptr 0 4 0 0))],ob:=[.box [.t (.st .GPensionref5_reader)]] },out:=.gen ({ sl:=[(1000000, .k (.ptr 0 4 0 0)),(2000000, .tp [.t (.s)])],ob:=[.box [.t (.st .GPensionref5_reader)]] }),cuts:=[] }
noncomputable def f149:FI:={ fid:=149,fn:=Tryz.f149,c:=aj Tryz.f149,ins:={ sl:=[(0, .t (.i .i64))] },out:=.new (.t (.i .u64)),cuts:=[] }
abbrev Wk:Tm:={ sl:=[(0, .t (.i .u64)),(2, .t (.i .i64))],ob:=[] }
abbrev Vj:Tm:={ sl:=[(0, .t (.i .u64)),(2, .t (.i .i64))],ob:=[] }
noncomputable def f234:FI:={ fid:=234,fn:=Tryz.f234,c:=aj Tryz.f234,ins:={ sl:=[(0, .t (.i .u64))] },out:=.new (.t (.i .i64)),cuts:=[(7,Wk),(15,Vj)] }
noncomputable def f256:FI:={ fid:=256,fn:=Tryz.f256,c:=aj Tryz.f256,ins:={ sl:=[(0, .t (.i .u64))] },out:=.new (.t (.i .i64)),cuts:=[] }
abbrev Ng:Tm:={ sl:=[(0, .t (.i .u64)),(1, .t (.i .u64)),(2, .t (.i .u64))],ob:=[] }
abbrev HZ:Tm:={ sl:=[(0, .t (.i .u64)),(1, .t (.i .u64)),(2, .t (.i .u64))],ob:=[] }
abbrev Q7:Tm:={ sl:=[(2, .t (.i .u64)),(8, .t (.i .u64)),(9, .t (.i .u64)),(10, .t (.i .u64)),(11, .t (.i .u64)),(13, .t (.i .u64)),(14, .t (.i .u64)),(15, .t (.i .u64))],ob:=[] }
abbrev Dz:Tm:={ sl:=[(2, .t (.i .u64)),(8, .t (.i .u64)),(9, .t (.i .u64)),(10, .t (.i .u64)),(11, .t (.i .u64)),(13, .t (.i .u64)),(14, .t (.i .u64)),(15, .t (.i .u64)),(16, .t (.i .u64))],ob:=[] }
abbrev Og:Tm:={ sl:=[(2, .t (.i .u64)),(8, .t (.i .u64)),(14, .t (.i .u64)),(15, .t (.i .u64)),(17, .t (.i .u64)),(18, .t (.i .u64))],ob:=[] }
abbrev NM:Tm:={ sl:=[(2, .t (.i .u64)),(8, .t (.i .u64)),(9, .t (.i .u64)),(10, .t (.i .u64)),(14, .t (.i .u64)),(15, .t (.i .u64)),(16, .t (.i .u64)),(17, .t (.i .u64)),(18, .t (.i .u64))],ob:=[] }
noncomputable def f192:FI:={ fid:=192,fn:=Tryz.f192,c:=aj Tryz.f192,ins:={ sl:=[(0, .t (.i .u64)),(1, .t (.i .u64)),(2, .t (.i .u64))] },out:=.new (.tp [.t (.i .u64), .t (.i .u64)]),cuts:=[(7,Ng),(15,HZ),(65535,Q7),(131068,Dz),(1048575,Og),(2097148,NM)] }
noncomputable def f202:FI:={ fid:=202,fn:=Tryz.f202,c:=aj Tryz.f202,ins:={ sl:=[(0, .t (.st .GPensionref1_wide)),(1, .t (.i .u64))] },out:=.new (.tp [.t (.st .GPensionref1_wide), .t (.i .u64)]),cuts:=[] }
abbrev I9:Tm:={ sl:=[(0, .t (.i .u64)),(1, .t (.i .u64))],ob:=[] }
noncomputable def f199:FI:={ fid:=199,fn:=Tryz.f199,c:=aj Tryz.f199,ins:={ sl:=[(0, .t (.i .u64)),(1, .t (.i .u64))] },out:=.new (.t (.i .u64)),cuts:=[(12,I9)] }
noncomputable def f168:FI:={ fid:=168,fn:=Tryz.f168,c:=aj Tryz.f168,ins:={ sl:=[(0, .t (.b)),(1, .t (.st .GPensionref1_wide)),(2, .t (.i .u64))] },out:=.new (.tp [.t (.st .GFraction), .t (.i .i64)]),cuts:=[] }
noncomputable def f94:FI:={ fid:=94,fn:=Tryz.f94,c:=aj Tryz.f94,ins:={ sl:=[(0, .t (.i .i64)),(1, .t (.i .i64))] },out:=.new (.tp [.t (.st .GFraction), .t (.i .i64)]),cuts:=[] }
abbrev Eo:Tm:={ sl:=[(2, .k (.ptr 0 2 0 0)),(5, .t (.s)),(6, .t (.s)),(7, .t (.i .i64)),(9, .t (.i .i64)),(10, .t (.i .i64)),(11, .t (.i .i64))],ob:=[.box [.t (.st .GFraction)]] }
noncomputable def f161:FI:={ fid:=161,fn:=Tryz.f161,c:=aj Tryz.f161,ins:={ sl:=[(0, .t (.s))] },out:=.new (.tp [.t (.st .GFraction), .t (.i .i64), .t (.b)]),cuts:=[(250,Eo)] }
noncomputable def f87:FI:={ fid:=87,fn:=Tryz.f87,c:=aj Tryz.f87,ins:={ sl:=[(0, .k (.ptr 0 4 0 0)),(1, .t (.i .i64)),(2, .t (.i .i64)),(1000000, .k (.ptr 0 4 0 0))],ob:=[.box [.t (.st .GPensionref5_reader)]] },out:=.gen ({ sl:=[(1000000, .k (.ptr 0 4 0 0)),(2000000, .tp [.t (.i .i64)])],ob:=[.box [.t (.st .GPensionref5_reader)]] }),cuts:=[] }
noncomputable def f163:FI:={ fid:=163,fn:=Tryz.f163,c:=aj Tryz.f163,ins:={ sl:=[(0, .t (.s))] },out:=.new (.t (.i .i64)),cuts:=[] }
noncomputable def f210:FI:={ fid:=210,fn:=Tryz.f210,c:=aj Tryz.f210,ins:={ sl:=[(0, .t (.s))] },out:=.new (.t (.i .i64)),cuts:=[] }
noncomputable def f211:FI:={ fid:=211,fn:=Tryz.f211,c:=aj Tryz.f211,ins:={ sl:=[(0, .t (.s))] },out:=.new (.t (.i .i64)),cuts:=[] }
noncomputable def f212:FI:={ fid:=212,fn:=Tryz.f212,c:=aj Tryz.f212,ins:={ sl:=[(0, .t (.s))] },out:=.new (.t (.i .i64)),cuts:=[] }
noncomputable def f164:FI:={ fid:=164,fn:=Tryz.f164,c:=aj Tryz.f164,ins:={ sl:=[(0, .k (.ptr 0 4 0 0)),(1, .t (.i .i64)),(1000000, .k (.ptr 0 4 0 0))],ob:=[.box [.t (.st .GPensionref5_reader)]] },out:=.gen ({ sl:=[(1000000, .k (.ptr 0 4 0 0)),(2000000, .tp [.t (.i .i64)])],ob:=[.box [.t (.st .GPensionref5_reader)]] }),cuts:=[] }
noncomputable def f269:FI:={ fid:=269,fn:=Tryz.f269,c:=aj Tryz.f269,ins:={ sl:=[(0, .t (.i .i64))] },out:=.new (.t (.i .i64)),cuts:=[] }
noncomputable def f287:FI:={ fid:=287,fn:=Tryz.f287,c:=aj Tryz.f287,ins:={ sl:=[(0, .k (.ptr 0 4 0 0)),(1, .t (.i .i64)),(1000000, .k (.ptr 0 4 0 0))],ob:=[.box [.t (.st .GPensionref5_reader)]] },out:=.gen ({ sl:=[(1000000, .k (.ptr 0 4 0 0)),(2000000, .tp [.t (.st .GExpr)])],ob:=[.box [.t (.st .GPensionref5_reader)]] }),cuts:=[] }
noncomputable def f266:FI:={ fid:=266,fn:=Tryz.f266,c:=aj Tryz.f266,ins:={ sl:=[(0, .k (.ptr 0 4 0 0)),(1000000, .k (.ptr 0 4 0 0))],ob:=[.box [.t (.st .GPensionref5_reader)]] },out:=.gen ({ sl:=[(1000000, .k (.ptr 0 4 0 0)),(2000000, .tp [.t (.st .GExpr)])],ob:=[.box [.t (.st .GPensionref5_reader)]] }),cuts:=[] }
abbrev zo:Tm:={ sl:=[(3, .t (.i .i64)),(12, .t (.b))],ob:=[] }
noncomputable def f288:FI:={ fid:=288,fn:=Tryz.f288,c:=aj Tryz.f288,ins:={ sl:=[(0, .t (.i .i64))] },out:=.new (.t (.i .i64)),cuts:=[(13823,zo)] }
noncomputable def f289:FI:={ fid:=289,fn:=Tryz.f289,c:=aj Tryz.f289,ins:={ sl:=[(0, .t (.i .i64))] },out:=.new (.t (.s)),cuts:=[] }
abbrev G4:Tm:={ sl:=[(0, .dp (.st .GPensionref5_reader)),(1, .t (.i .i64)),(5, .t (.i .i64))],ob:=[] }
noncomputable def f267:FI:={ fid:=267,fn:=Tryz.f267,c:=aj Tryz.f267,ins:={ sl:=[(0, .dp (.st .GPensionref5_reader)),(1, .t (.i .i64))] },out:=.new (.t (.i .i64)),cuts:=[(26,G4)] }
abbrev Em:Tm:={ sl:=[(0, .k (.ptr 0 4 0 0)),(1, .t (.i .i64)),(4, .k (.ptr 1 6 0 0)),(8, .k (.ptr 2 6 0 0)),(1000000, .k (.ptr 0 4 0 0))],ob:=[.box [.t (.st .GPensionref5_reader)], .box [.t (.i .i64), .t (.st .GFraction), .t (.i .i64), .t (.s), .k (.c .nil)], .box [.t (.i .i64), .t (.st .GFraction), .t (.i .i64), .t (.s), .t (.ls (.st .GExpr))]] }
noncomputable def f213:FI:={ fid:=213,fn:=Tryz.f213,c:=aj Tryz.f213,ins:={ sl:=[(0, .k (.ptr 0 4 0 0)),(1, .t (.i .i64)),(1000000, .k (.ptr 0 4 0 0))],ob:=[.box [.t (.st .GPensionref5_reader)]] },out:=.gen ({ sl:=[(1000000, .k (.ptr 0 4 0 0)),(2000000, .tp [.t (.st .GExpr)])],ob:=[.box [.t (.st .GPensionref5_reader)]] }),cuts:=[(124,Em)] }
abbrev EX:Tm:={ sl:=[(0, .k (.ptr 0 4 0 0)),(1000000, .k (.ptr 0 4 0 0)),(1000001, .k (.ptr 1 8 0 0))],ob:=[.box [.t (.st .GPensionref5_reader)], .box [.t (.i .i64), .t (.st .GRounding), .k (.row 2 2), .k (.row 3 3), .k (.row 4 7), .k (.row 5 13), .k (.row 6 7)], .row 130 (.st .GCredit), .row 182 (.st .GIndex), .row 189 (.st .GLet), .row 193 (.st .GGrant), .row 195 (.st .GReduce)] }
abbrev A1:Tm:={ sl:=[(0, .k (.ptr 0 4 0 0)),(1, .k (.ptr 1 8 0 0)),(4, .k (.ptr 2 2 0 0)),(1000000, .k (.ptr 0 4 0 0)),(1000001, .k (.ptr 1 8 0 0))],ob:=[.box [.t (.st .GPensionref5_reader)], .box [.t (.i .i64), .t (.st .GRounding), .k (.row 3 2), .k (.row 4 3), .k (.row 5 7), .k (.row 6 13), .k (.row 7 7)], .box [.t (.st .GCredit)], .row 130 (.st .GCredit), .row 182 (.st .GIndex), .row 189 (.st .GLet), .row 193 (.st .GGrant), .row 195 (.st .GReduce)] }
abbrev zI:Tm:={ sl:=[(0, .k (.ptr 0 4 0 0)),(1, .k (.ptr 1 8 0 0)),(6, .k (.ptr 2 3 0 0)),(1000000, .k (.ptr 0 4 0 0)),(1000001, .k (.ptr 1 8 0 0))],ob:=[.box [.t (.st .GPensionref5_reader)], .box [.t (.i .i64), .t (.st .GRounding), .k (.row 3 2), .k (.row 4 3), .k (.row 5 7), .k (.row 6 13), .k (.row 7 7)], .box [.t (.st .GIndex)], .row 130 (.st .GCredit), .row 182 (.st .GIndex), .row 189 (.st .GLet), .row 193 (.st .GGrant), .row 195 (.st .GReduce)] }
abbrev yW:Tm:={ sl:=[(0, .k (.ptr 0 4 0 0)),(1, .k (.ptr 1 8 0 0)),(6, .k (.ptr 2 3 0 0)),(1000000, .k (.ptr 0 4 0 0)),(1000001, .k (.ptr 1 8 0 0))],ob:=[.box [.t (.st .GPensionref5_reader)], .box [.t (.i .i64), .t (.st .GRounding), .k (.row 3 2), .k (.row 4 3), .k (.row 5 7), .k (.row 6 13), .k (.row 7 7)], .box [.t (.st .GIndex)], .row 130 (.st .GCredit), .row 182 (.st .GIndex), .row 189 (.st .GLet), .row 193 (.st .GGrant), .row 195 (.st .GReduce)] }
noncomputable def iR:FI:={ fid:=165,fn:=Tryz.f165,c:=aj Tryz.f165,ins:={ sl:=[(0, .k (.ptr 0 4 0 0)),(1, .k (.ptr 1 8 0 0)),(1000000, .k (.ptr 0 4 0 0)),(1000001, .k (.ptr 1 8 0 0))],ob:=[.box [.t (.st .GPensionref5_reader)], .box [.t (.i .i64), .t (.st .GRounding), .k (.row 2 2), .k (.row 3 3), .k (.row 4 7), .k (.row 5 13), .k (.row 6 7)], .row 130 (.st .GCredit), .row 182 (.st .GIndex), .row 189 (.st .GLet), .row 193 (.st .GGrant), .row 195 (.st .GReduce)] },out:=.gen ({ sl:=[(1000000, .k (.ptr 0 4 0 0)),(1000001, .k (.ptr 1 8 0 0)),(2000000, .tp [.tp []])],ob:=[.box [.t (.st .GPensionref5_reader)], .box [.t (.i .i64), .t (.st .GRounding), .k (.row 2 2), .k (.row 3 3), .k (.row 4 7), .k (.row 5 13), .k (.row 6 7)], .row 130 (.st .GCredit), .row 182 (.st .GIndex), .row 189 (.st .GLet), .row 193 (.st .GGrant), .row 195 (.st .GReduce)] }),cuts:=[(3,EX),(75,A1),(315,zI),(631,yW)] }
abbrev Ni:Tm:={ sl:=[(0, .k (.ptr 0 4 0 0)),(2, .k (.ptr 1 8 0 0)),(3, .k (.ptr 2 8 0 0)),(1000000, .k (.ptr 0 4 0 0))],ob:=[.box [.t (.st .GPensionref5_reader)], .box [.t (.i .i64), .t (.st .GRounding), .k (.c .nil), .k (.c .nil), .k (.c .nil), .k (.c .nil), .k (.c .nil)], .box [.t (.i .i64), .t (.st .GRounding), .k (.c .nil), .k (.c .nil), .k (.c .nil), .k (.c .nil), .k (.c .nil)]] }
abbrev EG:Tm:={ sl:=[(0, .k (.ptr 0 4 0 0)),(2, .k (.ptr 1 8 0 0)),(3, .k (.ptr 2 8 0 0)),(1000000, .k (.ptr 0 4 0 0))],ob:=[.box [.t (.st .GPensionref5_reader)], .box [.t (.i .i64), .t (.st .GRounding), .k (.c .nil), .k (.c .nil), .k (.c .nil), .k (.c .nil), .k (.c .nil)], .box [.t (.i .i64), .t (.st .GRounding), .k (.row 3 2), .k (.row 4 3), .k (.row 5 7), .k (.row 6 13), .k (.row 7 7)], .row 130 (.st .GCredit), .row 182 (.st .GIndex), .row 189 (.st .GLet), .row 193 (.st .GGrant), .row 195 (.st .GReduce)] }
noncomputable def f89:FI:={ fid:=89,fn:=Tryz.f89,c:=aj Tryz.f89,ins:={ sl:=[(0, .k (.ptr 0 4 0 0)),(1000000, .k (.ptr 0 4 0 0))],ob:=[.box [.t (.st .GPensionref5_reader)]] },out:=.gen ({ sl:=[(1000000, .k (.ptr 0 4 0 0)),(2000000, .tp [.t (.st .GVersion)])],ob:=[.box [.t (.st .GPensionref5_reader)]] }),cuts:=[(31,Ni),(4092,EG)] }
noncomputable def f90:FI:={ fid:=90,fn:=Tryz.f90,c:=aj Tryz.f90,ins:={ sl:=[(0, .dp (.st .GPensionref5_reader))] },out:=.new (.t (.i .i64)),cuts:=[] }
noncomputable def f78:FI:={ fid:=78,fn:=Tryz.f78,c:=aj Tryz.f78,ins:={ sl:=[(0, .t (.i .i64))] },out:=.new (.t (.b)),cuts:=[] }
noncomputable def f147:FI:={ fid:=147,fn:=Tryz.f147,c:=aj Tryz.f147,ins:={ sl:=[(0, .t (.st .GRounding))] },out:=.new (.t (.b)),cuts:=[] }
abbrev HG:Tm:={ sl:=[(0, .t (.i .i64)),(1, .t (.i .i64)),(5, .k (.row 0 1)),(6, .t (.i .i64))],ob:=[.row 9 (.s)] }
noncomputable def f214:FI:={ fid:=214,fn:=Tryz.f214,c:=aj Tryz.f214,ins:={ sl:=[(0, .t (.i .i64)),(1, .t (.i .i64))] },out:=.new (.t (.s)),cuts:=[(58,HG)] }
noncomputable def f140:FI:={ fid:=140,fn:=Tryz.f140,c:=aj Tryz.f140,ins:={ sl:=[(0, .t (.st .GFraction))] },out:=.new (.t (.b)),cuts:=[] }
abbrev Hr:Tm:={ sl:=[(0, .t (.i .i64)),(1, .t (.i .i64)),(5, .t (.s))],ob:=[] }
noncomputable def f290:FI:={ fid:=290,fn:=Tryz.f290,c:=aj Tryz.f290,ins:={ sl:=[(0, .t (.i .i64)),(1, .t (.i .i64))] },out:=.new (.t (.s)),cuts:=[(28,Hr)] }
abbrev Ii:Tm:={ sl:=[(1, .k (.ptr 0 2 0 0)),(3, .t (.s))],ob:=[.box [.t (.st .GFraction)]] }
noncomputable def f268:FI:={ fid:=268,fn:=Tryz.f268,c:=aj Tryz.f268,ins:={ sl:=[(0, .t (.st .GFraction))] },out:=.new (.t (.s)),cuts:=[(31,Ii)] }
abbrev Bk:Tm:={ sl:=[(1, .t (.i .i64)),(7, .t (.s)),(8, .t (.i .i64)),(9, .t (.i .i64))],ob:=[] }
noncomputable def f215:FI:={ fid:=215,fn:=Tryz.f215,c:=aj Tryz.f215,ins:={ sl:=[(0, .t (.st .GFraction)),(1, .t (.i .i64))] },out:=.new (.tp [.t (.s), .t (.b)]),cuts:=[(2042,Bk)] }
abbrev HL:Tm:={ sl:=[(1, .k (.ptr 0 6 0 0)),(3, .t (.i .i64)),(4, .t (.i .i64))],ob:=[.box [.t (.i .i64), .t (.st .GFraction), .t (.i .i64), .t (.s), .t (.ls (.st .GExpr))]] }
noncomputable def f218:FI:={ fid:=218,fn:=Tryz.f218,c:=aj Tryz.f218,ins:={ sl:=[(0, .t (.st .GExpr))] },out:=.data (.t (.i .i64)),cuts:=[(58,HL)] }
abbrev Im:Tm:={ sl:=[(1, .k (.ptr 0 6 0 0)),(3, .t (.i .i64)),(4, .t (.i .i64))],ob:=[.box [.t (.i .i64), .t (.st .GFraction), .t (.i .i64), .t (.s), .t (.ls (.st .GExpr))]] }
noncomputable def f219:FI:={ fid:=219,fn:=Tryz.f219,c:=aj Tryz.f219,ins:={ sl:=[(0, .t (.st .GExpr))] },out:=.data (.t (.i .i64)),cuts:=[(58,Im)] }
abbrev Ev:Tm:={ sl:=[(1, .k (.ptr 0 6 0 0)),(3, .t (.b)),(6, .t (.i .i64))],ob:=[.box [.t (.i .i64), .t (.st .GFraction), .t (.i .i64), .t (.s), .t (.ls (.st .GExpr))]] }
noncomputable def f220:FI:={ fid:=220,fn:=Tryz.f220,c:=aj Tryz.f220,ins:={ sl:=[(0, .t (.st .GExpr))] },out:=.new (.t (.b)),cuts:=[(250,Ev)] }
noncomputable def f170:FI:={ fid:=170,fn:=Tryz.f170,c:=aj Tryz.f170,ins:={ sl:=[(0, .t (.st .GExpr))] },out:=.new (.t (.b)),cuts:=[] }
abbrev Js:Tm:={ sl:=[(1, .k (.ptr 0 8 0 0)),(3, .t (.i .i64))],ob:=[.box [.t (.i .i64), .t (.st .GRounding), .t (.ls (.st .GCredit)), .t (.ls (.st .GIndex)), .t (.ls (.st .GLet)), .t (.ls (.st .GGrant)), .t (.ls (.st .GReduce))]] }
abbrev Ec:Tm:={ sl:=[(1, .k (.ptr 0 8 0 0)),(4, .t (.i .i64))],ob:=[.box [.t (.i .i64), .t (.st .GRounding), .t (.ls (.st .GCredit)), .t (.ls (.st .GIndex)), .t (.ls (.st .GLet)), .t (.ls (.st .GGrant)), .t (.ls (.st .GReduce))]] }
abbrev ED:Tm:={ sl:=[(1, .k (.ptr 0 8 0 0)),(7, .t (.i .i64))],ob:=[.box [.t (.i .i64), .t (.st .GRounding), .t (.ls (.st .GCredit)), .t (.ls (.st .GIndex)), .t (.ls (.st .GLet)), .t (.ls (.st .GGrant)), .t (.ls (.st .GReduce))]] }
abbrev Ea:Tm:={ sl:=[(1, .k (.ptr 0 8 0 0)),(8, .t (.i .i64))],ob:=[.box [.t (.i .i64), .t (.st .GRounding), .t (.ls (.st .GCredit)), .t (.ls (.st .GIndex)), .t (.ls (.st .GLet)), .t (.ls (.st .GGrant)), .t (.ls (.st .GReduce))]] }
abbrev BG:Tm:={ sl:=[(1, .k (.ptr 0 8 0 0)),(9, .t (.i .i64))],ob:=[.box [.t (.i .i64), .t (.st .GRounding), .t (.ls (.st .GCredit)), .t (.ls (.st .GIndex)), .t (.ls (.st .GLet)), .t (.ls (.st .GGrant)), .t (.ls (.st .GReduce))]] }
noncomputable def f166:FI:={ fid:=166,fn:=Tryz.f166,c:=aj Tryz.f166,ins:={ sl:=[(0, .t (.st .GVersion))] },out:=.new (.t (.b)),cuts:=[(58,Js),(122,Ec),(250,ED),(506,Ea),(1018,BG)] }
abbrev LR:Tm:={ sl:=[(1, .k (.ptr 0 3 0 0)),(3, .t (.i .i64))],ob:=[.box [.t (.s), .t (.i .i64), .t (.ls (.st .GVersion))]] }
noncomputable def f91:FI:={ fid:=91,fn:=Tryz.f91,c:=aj Tryz.f91,ins:={ sl:=[(0, .t (.st .GStatute))] },out:=.new (.t (.b)),cuts:=[(58,LR)] }
abbrev Ez:Tm:={ sl:=[(2, .k (.ptr 0 3 0 0)),(5, .k (.ptr 1 4 0 0)),(8, .k (.ptr 2 3 0 0)),(9, .t (.b))],ob:=[.box [.t (.s), .t (.i .i64), .k (.c .nil)], .box [.t (.st .GPensionref5_reader)], .box [.t (.s), .t (.i .i64), .k (.row 3 8)], .row 107 (.st .GVersion)] }
noncomputable def f36:FI:={ fid:=36,fn:=Tryz.f36,c:=aj Tryz.f36,ins:={ sl:=[(0, .t (.s))] },out:=.data (.tp [.t (.st .GStatute), .t (.i .i64), .t (.i .i64)]),cuts:=[(4090,Ez)] }
abbrev QS:Tm:={ sl:=[(0, .t (.ls (.i .i64))),(2, .k (.ptr 0 3 0 0)),(3, .k (.ptr 1 3 0 0)),(4, .t (.i .i64))],ob:=[.box [.k (.c .nil), .k (.c .nil), .k (.c .nil)], .box [.k (.row 2 4), .k (.c .nil), .k (.row 3 4)], .row 97 (.st .GState), .row 89 (.st .GRate)] }
noncomputable def f9:FI:={ fid:=9,fn:=Tryz.f9,c:=aj Tryz.f9,ins:={ sl:=[(0, .t (.ls (.i .i64)))] },out:=.data (.t (.st .GLaws)),cuts:=[(58,QS)] }
noncomputable def f10:FI:={ fid:=10,fn:=Tryz.f10,c:=aj Tryz.f10,ins:={ sl:=[(0, .t (.i .i64)),(1, .t (.i .i64))] },out:=.new (.t (.i .i64)),cuts:=[] }
abbrev M1:Tm:={ sl:=[(0, .t (.ls (.i .i64))),(3, .k (.row 0 14)),(4, .t (.i .i64))],ob:=[.row 61 (.st .GFact)] }
noncomputable def f26:FI:={ fid:=26,fn:=Tryz.f26,c:=aj Tryz.f26,ins:={ sl:=[(0, .t (.ls (.i .i64)))] },out:=.own true 61 (.st .GFact),cuts:=[(58,M1)] }
abbrev Mk:Tm:={ sl:=[(0, .t (.ls (.st .GFact))),(1, .t (.i .i64)),(5, .k (.row 0 14)),(6, .t (.i .i64))],ob:=[.row 61 (.st .GFact)] }
noncomputable def f25:FI:={ fid:=25,fn:=Tryz.f25,c:=aj Tryz.f25,ins:={ sl:=[(0, .t (.ls (.st .GFact))),(1, .t (.i .i64))] },out:=.own true 61 (.st .GFact),cuts:=[(58,Mk)] }
noncomputable def f74:FI:={ fid:=74,fn:=Tryz.f74,c:=aj Tryz.f74,ins:={ sl:=[(0, .t (.i .i64))] },out:=.new (.t (.s)),cuts:=[] }
abbrev Ix:Tm:={ sl:=[(1, .t (.i .u8)),(5, .t (.s)),(6, .t (.i .i64))],ob:=[] }
noncomputable def f203:FI:={ fid:=203,fn:=Tryz.f203,c:=aj Tryz.f203,ins:={ sl:=[(0, .t (.i .i64)),(1, .t (.i .u8))] },out:=.new (.t (.b)),cuts:=[(58,Ix)] }
noncomputable def f152:FI:={ fid:=152,fn:=Tryz.f152,c:=aj Tryz.f152,ins:={ sl:=[(0, .t (.i .i64)),(1, .t (.i .u8)),(2, .t (.i .i64)),(3, .t (.i .i64)),(4, .t (.i .i64))] },out:=.new (.t (.b)),cuts:=[] }
noncomputable def f75:FI:={ fid:=75,fn:=Tryz.f75,c:=aj Tryz.f75,ins:={ sl:=[(0, .t (.st .GFact))] },out:=.new (.t (.b)),cuts:=[] }
noncomputable def f76:FI:={ fid:=76,fn:=Tryz.f76,c:=aj Tryz.f76,ins:={ sl:=[(0, .t (.st .GFact)),(1, .t (.st .GFact))] },out:=.new (.t (.i .i64)),cuts:=[] }
abbrev VE:Tm:={ sl:=[(0, .k (.row 0 1)),(1, .t (.i .i64)),(7, .t (.i .i64))],ob:=[.row 5 (.i .u8)] }
noncomputable def f204:FI:={ fid:=204,fn:=Tryz.f204,c:=aj Tryz.f204,ins:={ sl:=[(0, .k (.c .nil)),(1, .t (.i .i64)),(2, .t (.i .i64))],ob:=[] },out:=.gen ({ sl:=[(2000000, .tp [.k (.row 0 1)])],ob:=[.row 5 (.i .u8)] }),cuts:=[(26,VE)] }
abbrev Cq:Tm:={ sl:=[(0, .k (.row 0 1)),(1, .t (.i .i64)),(7, .t (.i .i64))],ob:=[.row 5 (.i .u8)] }
noncomputable def rU:FI:={ fid:=204,fn:=Tryz.f204,c:=aj Tryz.f204,ins:={ sl:=[(0, .k (.row 0 1)),(1, .t (.i .i64)),(2, .t (.i .i64))],ob:=[.row 5 (.i .u8)] },out:=.gen ({ sl:=[(2000000, .tp [.k (.row 0 1)])],ob:=[.row 5 (.i .u8)] }),cuts:=[(26,Cq)] }
abbrev IG:Tm:={ sl:=[(1, .k (.ptr 0 14 0 0)),(3, .t (.i .i64))],ob:=[.box [.t (.st .GFact)]] }
abbrev Bw:Tm:={ sl:=[(1, .k (.ptr 0 14 0 0)),(4, .k (.row 1 1)),(5, .t (.s)),(6, .t (.i .i64))],ob:=[.box [.t (.st .GFact)], .row 5 (.i .u8)] }
abbrev BS:Tm:={ sl:=[(1, .k (.ptr 0 14 0 0)),(4, .k (.row 1 1)),(5, .t (.s)),(6, .t (.i .i64))],ob:=[.box [.t (.st .GFact)], .row 5 (.i .u8)] }
noncomputable def f153:FI:={ fid:=153,fn:=Tryz.f153,c:=aj Tryz.f153,ins:={ sl:=[(0, .t (.st .GFact))] },out:=.own true 5 (.i .u8),cuts:=[(31,IG),(1018,Bw),(8147,BS)] }
noncomputable def f77:FI:={ fid:=77,fn:=Tryz.f77,c:=aj Tryz.f77,ins:={ sl:=[(0, .t (.st .GFact)),(1, .t (.st .GFact))] },out:=.new (.t (.b)),cuts:=[] }
abbrev L7:Tm:={ sl:=[(0, .t (.ls (.st .GFact))),(1, .t (.ls (.st .GFact))),(5, .k (.row 0 14)),(6, .t (.i .i64))],ob:=[.row 61 (.st .GFact)] }
abbrev Ey:Tm:={ sl:=[(0, .t (.ls (.st .GFact))),(1, .t (.ls (.st .GFact))),(5, .k (.row 0 14)),(6, .t (.i .i64)),(7, .k (.ptr 1 14 0 0))],ob:=[.row 61 (.st .GFact), .box [.t (.st .GFact)]] }
abbrev Cg:Tm:={ sl:=[(0, .t (.ls (.st .GFact))),(1, .t (.ls (.st .GFact))),(5, .k (.row 0 14)),(6, .t (.i .i64)),(7, .k (.ptr 1 14 0 0)),(8, .t (.i .i64))],ob:=[.row 61 (.st .GFact), .box [.t (.st .GFact)]] }
noncomputable def f27:FI:={ fid:=27,fn:=Tryz.f27,c:=aj Tryz.f27,ins:={ sl:=[(0, .t (.ls (.st .GFact))),(1, .t (.ls (.st .GFact)))] },out:=.own true 61 (.st .GFact),cuts:=[(58,L7),(3731,Ey),(59708,Cg)] }
noncomputable def f73:FI:={ fid:=73,fn:=Tryz.f73,c:=aj Tryz.f73,ins:={ sl:=[(0, .t (.i .i64))] },out:=.new (.t (.i .i64)),cuts:=[] }
abbrev Jm:Tm:={ sl:=[(1, .k (.ptr 0 13 0 0)),(2, .k (.ptr 1 14 0 0)),(3, .k (.ptr 2 14 0 0)),(4, .t (.i .i64)),(5, .t (.i .i64))],ob:=[.box [.t (.st .GPensionhand_Fact)], .box [.t (.st .GFact)], .box [.t (.st .GFact)]] }
abbrev EV:Tm:={ sl:=[(1, .k (.ptr 0 13 0 0)),(2, .k (.ptr 1 14 0 0)),(3, .k (.ptr 2 14 0 0)),(4, .t (.i .i64)),(5, .t (.i .i64)),(6, .t (.s)),(7, .t (.i .i64))],ob:=[.box [.t (.st .GPensionhand_Fact)], .box [.t (.st .GFact)], .box [.t (.st .GFact)]] }
abbrev Bz:Tm:={ sl:=[(1, .k (.ptr 0 13 0 0)),(2, .k (.ptr 1 14 0 0)),(3, .k (.ptr 2 14 0 0)),(4, .t (.i .i64)),(5, .t (.i .i64)),(6, .t (.s)),(7, .t (.i .i64))],ob:=[.box [.t (.st .GPensionhand_Fact)], .box [.t (.st .GFact)], .box [.t (.st .GFact)]] }
noncomputable def f24:FI:={ fid:=24,fn:=Tryz.f24,c:=aj Tryz.f24,ins:={ sl:=[(0, .t (.st .GPensionhand_Fact))] },out:=.new (.t (.st .GFact)),cuts:=[(127,Jm),(2042,EV),(16339,Bz)] }
abbrev Nl:Tm:={ sl:=[(0, .t (.ls (.st .GPensionhand_Fact))),(1, .t (.ls (.i .i64))),(5, .k (.row 0 14)),(6, .t (.i .i64))],ob:=[.row 61 (.st .GFact)] }
abbrev Eu:Tm:={ sl:=[(0, .t (.ls (.st .GPensionhand_Fact))),(1, .t (.ls (.i .i64))),(5, .k (.row 0 14)),(6, .t (.i .i64)),(7, .k (.ptr 1 13 0 0))],ob:=[.row 61 (.st .GFact), .box [.t (.st .GPensionhand_Fact)]] }
noncomputable def f19:FI:={ fid:=19,fn:=Tryz.f19,c:=aj Tryz.f19,ins:={ sl:=[(0, .t (.ls (.st .GPensionhand_Fact))),(1, .t (.ls (.i .i64)))] },out:=.own true 61 (.st .GFact),cuts:=[(58,Nl),(7463,Eu)] }
abbrev Hg:Tm:={ sl:=[(4, .t (.s)),(5, .t (.b))],ob:=[] }
abbrev DM:Tm:={ sl:=[(4, .t (.s)),(9, .t (.b))],ob:=[] }
noncomputable def f271:FI:={ fid:=271,fn:=Tryz.f271,c:=aj Tryz.f271,ins:={ sl:=[(0, .t (.s))] },out:=.new (.tp [.t (.i .i64), .t (.b)]),cuts:=[(53,Hg),(215,DM)] }
noncomputable def f305:FI:={ fid:=305,fn:=Tryz.f305,c:=aj Tryz.f305,ins:={ sl:=[(0, .t (.i .i64)),(1, .t (.ls (.i .i64)))] },out:=.new (.t (.i .i64)),cuts:=[] }
abbrev DO:Tm:={ sl:=[(1, .t (.ls (.st .GBinding))),(2, .k (.ptr 0 6 0 0)),(9, .k (.row 1 1)),(10, .t (.i .i64))],ob:=[.box [.t (.i .i64), .t (.st .GFraction), .t (.i .i64), .t (.s), .t (.ls (.st .GExpr))], .row 3 (.i .i64)] }
abbrev yI:Tm:={ sl:=[(1, .t (.ls (.st .GBinding))),(2, .k (.ptr 0 6 0 0)),(8, .t (.i .i64))],ob:=[.box [.t (.i .i64), .t (.st .GFraction), .t (.i .i64), .t (.s), .t (.ls (.st .GExpr))]] }
noncomputable def f304:FI:={ fid:=304,fn:=Tryz.f304,c:=aj Tryz.f304,ins:={ sl:=[(0, .t (.st .GExpr)),(1, .t (.ls (.st .GBinding)))] },out:=.new (.tp [.t (.i .i64), .t (.i .i64)]),cuts:=[(122,DO),(27626,yI)] }
abbrev Hd:Tm:={ sl:=[(1, .t (.ls (.st .GBinding))),(2, .k (.ptr 0 6 0 0)),(6, .t (.i .i64))],ob:=[.box [.t (.i .i64), .t (.st .GFraction), .t (.i .i64), .t (.s), .t (.ls (.st .GExpr))]] }
noncomputable def f301:FI:={ fid:=301,fn:=Tryz.f301,c:=aj Tryz.f301,ins:={ sl:=[(0, .t (.st .GExpr)),(1, .t (.ls (.st .GBinding)))] },out:=.new (.tp [.t (.i .i64), .t (.i .i64)]),cuts:=[(58,Hd)] }
abbrev EK:Tm:={ sl:=[(0, .t (.ls (.st .GLet))),(4, .k (.row 0 2)),(5, .t (.i .i64))],ob:=[.row 191 (.st .GBinding)] }
abbrev zA:Tm:={ sl:=[(0, .t (.ls (.st .GLet))),(4, .k (.row 0 2)),(5, .t (.i .i64)),(8, .t (.i .i64)),(31, .t (.ls (.st .GLet))),(32, .t (.i .i64)),(35, .t (.s)),(36, .t (.b)),(37, .t (.b))],ob:=[.row 191 (.st .GBinding)] }
noncomputable def f292:FI:={ fid:=292,fn:=Tryz.f292,c:=aj Tryz.f292,ins:={ sl:=[(0, .t (.ls (.st .GLet)))] },out:=.new (.tp [.t (.ls (.st .GBinding)), .t (.i .i64)]),cuts:=[(122,EK),(31306,zA)] }
noncomputable def f293:FI:={ fid:=293,fn:=Tryz.f293,c:=aj Tryz.f293,ins:={ sl:=[(0, .t (.st .GExpr)),(1, .t (.ls (.st .GBinding))),(2, .t (.i .i64))] },out:=.new (.t (.i .i64)),cuts:=[] }
abbrev Eb:Tm:={ sl:=[(1, .k (.ptr 0 8 0 0)),(3, .t (.ls (.st .GBinding))),(5, .t (.i .i64))],ob:=[.box [.t (.i .i64), .t (.st .GRounding), .t (.ls (.st .GCredit)), .t (.ls (.st .GIndex)), .t (.ls (.st .GLet)), .t (.ls (.st .GGrant)), .t (.ls (.st .GReduce))]] }
abbrev Ej:Tm:={ sl:=[(1, .k (.ptr 0 8 0 0)),(3, .t (.ls (.st .GBinding))),(7, .t (.i .i64))],ob:=[.box [.t (.i .i64), .t (.st .GRounding), .t (.ls (.st .GCredit)), .t (.ls (.st .GIndex)), .t (.ls (.st .GLet)), .t (.ls (.st .GGrant)), .t (.ls (.st .GReduce))]] }
abbrev E7:Tm:={ sl:=[(1, .k (.ptr 0 8 0 0)),(3, .t (.ls (.st .GBinding))),(8, .t (.i .i64))],ob:=[.box [.t (.i .i64), .t (.st .GRounding), .t (.ls (.st .GCredit)), .t (.ls (.st .GIndex)), .t (.ls (.st .GLet)), .t (.ls (.st .GGrant)), .t (.ls (.st .GReduce))]] }
abbrev BI:Tm:={ sl:=[(1, .k (.ptr 0 8 0 0)),(3, .t (.ls (.st .GBinding))),(12, .t (.i .i64))],ob:=[.box [.t (.i .i64), .t (.st .GRounding), .t (.ls (.st .GCredit)), .t (.ls (.st .GIndex)), .t (.ls (.st .GLet)), .t (.ls (.st .GGrant)), .t (.ls (.st .GReduce))]] }
abbrev BW:Tm:={ sl:=[(1, .k (.ptr 0 8 0 0)),(3, .t (.ls (.st .GBinding))),(5, .t (.i .i64)),(6, .t (.i .i64))],ob:=[.box [.t (.i .i64), .t (.st .GRounding), .t (.ls (.st .GCredit)), .t (.ls (.st .GIndex)), .t (.ls (.st .GLet)), .t (.ls (.st .GGrant)), .t (.ls (.st .GReduce))]] }
abbrev zi:Tm:={ sl:=[(1, .k (.ptr 0 8 0 0)),(3, .t (.ls (.st .GBinding))),(8, .t (.i .i64)),(9, .t (.i .i64))],ob:=[.box [.t (.i .i64), .t (.st .GRounding), .t (.ls (.st .GCredit)), .t (.ls (.st .GIndex)), .t (.ls (.st .GLet)), .t (.ls (.st .GGrant)), .t (.ls (.st .GReduce))]] }
abbrev xj:Tm:={ sl:=[(1, .k (.ptr 0 8 0 0)),(3, .t (.ls (.st .GBinding))),(12, .t (.i .i64)),(13, .t (.i .i64))],ob:=[.box [.t (.i .i64), .t (.st .GRounding), .t (.ls (.st .GCredit)), .t (.ls (.st .GIndex)), .t (.ls (.st .GLet)), .t (.ls (.st .GGrant)), .t (.ls (.st .GReduce))]] }
noncomputable def f277:FI:={ fid:=277,fn:=Tryz.f277,c:=aj Tryz.f277,ins:={ sl:=[(0, .t (.st .GVersion))] },out:=.new (.t (.i .i64)),cuts:=[(122,Eb),(250,Ej),(506,E7),(1018,BI),(7826,BW),(64802,zi),(130338,xj)] }
abbrev IY:Tm:={ sl:=[(1, .k (.ptr 0 3 0 0)),(4, .t (.i .i64))],ob:=[.box [.t (.s), .t (.i .i64), .t (.ls (.st .GVersion))]] }
noncomputable def f243:FI:={ fid:=243,fn:=Tryz.f243,c:=aj Tryz.f243,ins:={ sl:=[(0, .t (.st .GStatute))] },out:=.new (.tp [.t (.i .i64), .t (.i .i64)]),cuts:=[(58,IY)] }
abbrev HT:Tm:={ sl:=[(0, .t (.ls (.st .GRules))),(3, .t (.i .i64))],ob:=[] }
abbrev Bx:Tm:={ sl:=[(0, .t (.ls (.st .GRules))),(3, .t (.i .i64)),(4, .k (.ptr 0 5 0 0)),(5, .t (.i .i64))],ob:=[.box [.t (.st .GRules)]] }
noncomputable def f28:FI:={ fid:=28,fn:=Tryz.f28,c:=aj Tryz.f28,ins:={ sl:=[(0, .t (.ls (.st .GRules)))] },out:=.new (.t (.i .i64)),cuts:=[(122,HT),(31310,Bx)] }
noncomputable def f139:FI:={ fid:=139,fn:=Tryz.f139,c:=aj Tryz.f139,ins:={ sl:=[(0, .t (.i .i64))] },out:=.new (.t (.b)),cuts:=[] }
abbrev N8:Tm:={ sl:=[(0, .t (.ls (.st .GRate))),(3, .t (.i .i64))],ob:=[] }
noncomputable def f66:FI:={ fid:=66,fn:=Tryz.f66,c:=aj Tryz.f66,ins:={ sl:=[(0, .t (.ls (.st .GRate)))] },out:=.new (.t (.i .i64)),cuts:=[(58,N8)] }
abbrev I4:Tm:={ sl:=[(1, .k (.ptr 0 3 0 0)),(3, .t (.i .i64))],ob:=[.box [.t (.ls (.st .GState)), .t (.ls (.st .GRules)), .t (.ls (.st .GRate))]] }
abbrev Ht:Tm:={ sl:=[(1, .k (.ptr 0 3 0 0)),(5, .t (.i .i64))],ob:=[.box [.t (.ls (.st .GState)), .t (.ls (.st .GRules)), .t (.ls (.st .GRate))]] }
noncomputable def f181:FI:={ fid:=181,fn:=Tryz.f181,c:=aj Tryz.f181,ins:={ sl:=[(0, .t (.st .GLaws))] },out:=.new (.t (.i .i64)),cuts:=[(26,I4),(58,Ht)] }
noncomputable def f114:FI:={ fid:=114,fn:=Tryz.f114,c:=aj Tryz.f114,ins:={ sl:=[(0, .t (.st .GLaws)),(1, .t (.i .i64))] },out:=.new (.t (.i .i64)),cuts:=[] }
abbrev Mq:Tm:={ sl:=[(0, .t (.ls (.st .GRules))),(1, .t (.i .i64)),(4, .k (.ptr 0 5 0 0)),(6, .t (.i .i64))],ob:=[.box [.t (.st .GRules)]] }
noncomputable def f33:FI:={ fid:=33,fn:=Tryz.f33,c:=aj Tryz.f33,ins:={ sl:=[(0, .t (.ls (.st .GRules))),(1, .t (.i .i64))] },out:=.new (.tp [.t (.st .GRules), .t (.b)]),cuts:=[(26,Mq)] }
abbrev HM:Tm:={ sl:=[(0, .t (.ls (.i .i64))),(1, .t (.i .i64)),(5, .t (.i .i64))],ob:=[] }
noncomputable def f245:FI:={ fid:=245,fn:=Tryz.f245,c:=aj Tryz.f245,ins:={ sl:=[(0, .t (.ls (.i .i64))),(1, .t (.i .i64))] },out:=.new (.t (.b)),cuts:=[(26,HM)] }
noncomputable def f185:FI:={ fid:=185,fn:=Tryz.f185,c:=aj Tryz.f185,ins:={ sl:=[(0, .t (.ls (.st .GRules))),(1, .t (.i .i64)),(2, .t (.i .i64))] },out:=.new (.t (.b)),cuts:=[] }
abbrev HO:Tm:={ sl:=[(1, .t (.i .i64)),(2, .k (.ptr 0 3 0 0)),(5, .k (.row 1 1)),(6, .t (.i .i64))],ob:=[.box [.t (.ls (.st .GState)), .t (.ls (.st .GRules)), .t (.ls (.st .GRate))], .row 3 (.i .i64)] }
noncomputable def f116:FI:={ fid:=116,fn:=Tryz.f116,c:=aj Tryz.f116,ins:={ sl:=[(0, .t (.st .GLaws)),(1, .t (.i .i64))] },out:=.own true 3 (.i .i64),cuts:=[(58,HO)] }
abbrev ID:Tm:={ sl:=[(1, .t (.i .i64)),(2, .k (.ptr 0 3 0 0)),(5, .t (.i .i64))],ob:=[.box [.t (.ls (.st .GState)), .t (.ls (.st .GRules)), .t (.ls (.st .GRate))]] }
noncomputable def f183:FI:={ fid:=183,fn:=Tryz.f183,c:=aj Tryz.f183,ins:={ sl:=[(0, .t (.st .GLaws)),(1, .t (.i .i64))] },out:=.new (.t (.i .i64)),cuts:=[(26,ID)] }
abbrev H5:Tm:={ sl:=[(1, .t (.i .i64)),(2, .k (.ptr 0 3 0 0)),(4, .k (.ptr 1 8 0 0)),(6, .t (.i .i64))],ob:=[.box [.t (.s), .t (.i .i64), .t (.ls (.st .GVersion))], .box [.t (.i .i64), .t (.st .GRounding), .k (.c .nil), .k (.c .nil), .k (.c .nil), .k (.c .nil), .k (.c .nil)]] }
noncomputable def f182:FI:={ fid:=182,fn:=Tryz.f182,c:=aj Tryz.f182,ins:={ sl:=[(0, .t (.st .GStatute)),(1, .t (.i .i64))] },out:=.data (.tp [.t (.st .GVersion), .t (.b)]),cuts:=[(58,H5)] }
abbrev Mz:Tm:={ sl:=[(0, .t (.ls (.st .GFact))),(3, .k (.row 0 14)),(4, .t (.i .i64))],ob:=[.row 61 (.st .GFact)] }
noncomputable def f29:FI:={ fid:=29,fn:=Tryz.f29,c:=aj Tryz.f29,ins:={ sl:=[(0, .t (.ls (.st .GFact)))] },out:=.own true 61 (.st .GFact),cuts:=[(58,Mz)] }
abbrev EL:Tm:={ sl:=[(1, .t (.i .i64)),(6, .k (.row 0 14)),(7, .t (.i .i64)),(8, .t (.b)),(9, .t (.i .i64))],ob:=[.row 61 (.st .GFact)] }
noncomputable def f154:FI:={ fid:=154,fn:=Tryz.f154,c:=aj Tryz.f154,ins:={ sl:=[(0, .t (.ls (.st .GFact))),(1, .t (.i .i64))] },out:=.new (.tp [.t (.i .i64), .t (.b)]),cuts:=[(122,EL)] }
noncomputable def f80:FI:={ fid:=80,fn:=Tryz.f80,c:=aj Tryz.f80,ins:={ sl:=[(0, .t (.ls (.st .GFact)))] },out:=.new (.tp [.t (.i .i64), .t (.b)]),cuts:=[] }
noncomputable def f81:FI:={ fid:=81,fn:=Tryz.f81,c:=aj Tryz.f81,ins:={ sl:=[(0, .t (.ls (.st .GFact)))] },out:=.new (.tp [.t (.i .i64), .t (.b)]),cuts:=[] }
noncomputable def f31:FI:={ fid:=31,fn:=Tryz.f31,c:=aj Tryz.f31,ins:={ sl:=[(0, .t (.ls (.st .GFact)))] },out:=.new (.t (.st .GSpan)),cuts:=[] }
noncomputable def f180:FI:={ fid:=180,fn:=Tryz.f180,c:=aj Tryz.f180,ins:={ sl:=[(0, .t (.st .GSpan))] },out:=.new (.tp [.t (.st .GSpan), .t (.b)]),cuts:=[] }
abbrev M6:Tm:={ sl:=[(0, .t (.ls (.i .i64))),(1, .t (.i .i64)),(5, .t (.i .i64))],ob:=[] }
noncomputable def f32:FI:={ fid:=32,fn:=Tryz.f32,c:=aj Tryz.f32,ins:={ sl:=[(0, .t (.ls (.i .i64))),(1, .t (.i .i64))] },out:=.data (.t (.ls (.i .i64))),cuts:=[(28,M6)] }
abbrev Hv:Tm:={ sl:=[(0, .t (.ls (.ls (.st .GSpan)))),(3, .t (.ls (.i .i64))),(4, .t (.i .i64))],ob:=[] }
abbrev Cm:Tm:={ sl:=[(0, .t (.ls (.ls (.st .GSpan)))),(3, .t (.ls (.i .i64))),(4, .t (.i .i64)),(5, .t (.i .i64))],ob:=[] }
noncomputable def f111:FI:={ fid:=111,fn:=Tryz.f111,c:=aj Tryz.f111,ins:={ sl:=[(0, .t (.ls (.ls (.st .GSpan))))] },out:=.data (.t (.ls (.i .i64))),cuts:=[(58,Hv),(3730,Cm)] }
abbrev IU:Tm:={ sl:=[(0, .t (.ls (.st .GSpan))),(1, .t (.i .i64)),(5, .t (.i .i64))],ob:=[] }
noncomputable def f112:FI:={ fid:=112,fn:=Tryz.f112,c:=aj Tryz.f112,ins:={ sl:=[(0, .t (.ls (.st .GSpan))),(1, .t (.i .i64))] },out:=.new (.t (.b)),cuts:=[(26,IU)] }
noncomputable def f113:FI:={ fid:=113,fn:=Tryz.f113,c:=aj Tryz.f113,ins:={ sl:=[(0, .t (.ls (.st .GSpan))),(1, .t (.st .GSpan))] },out:=.own true 50 (.st .GSpan),cuts:=[] }
abbrev Hp:Tm:={ sl:=[(0, .t (.ls (.st .GSpan))),(1, .t (.ls (.st .GSpan))),(2, .t (.i .i64)),(7, .t (.ls (.i .i64))),(8, .k (.row 0 2)),(9, .t (.i .i64))],ob:=[.row 50 (.st .GSpan)] }
noncomputable def f55:FI:={ fid:=55,fn:=Tryz.f55,c:=aj Tryz.f55,ins:={ sl:=[(0, .t (.ls (.st .GSpan))),(1, .t (.ls (.st .GSpan))),(2, .t (.i .i64))] },out:=.own true 50 (.st .GSpan),cuts:=[(122,Hp)] }
noncomputable def f18:FI:={ fid:=18,fn:=Tryz.f18,c:=aj Tryz.f18,ins:={ sl:=[(0, .t (.ls (.st .GSpan))),(1, .t (.st .GSpan))] },out:=.own true 50 (.st .GSpan),cuts:=[] }
abbrev N4:Tm:={ sl:=[(0, .t (.ls (.st .GPosting))),(3, .k (.ptr 0 4 0 0)),(5, .t (.i .i64))],ob:=[.box [.t (.st .GPosting)]] }
noncomputable def f79:FI:={ fid:=79,fn:=Tryz.f79,c:=aj Tryz.f79,ins:={ sl:=[(0, .t (.ls (.st .GPosting))),(1, .t (.st .GPosting))] },out:=.own true 78 (.st .GPosting),cuts:=[(28,N4)] }
abbrev It:Tm:={ sl:=[(0, .t (.ls (.st .GFact))),(3, .k (.row 0 14)),(4, .k (.row 1 4)),(5, .t (.i .i64))],ob:=[.row 61 (.st .GFact), .row 78 (.st .GPosting)] }
abbrev DN:Tm:={ sl:=[(0, .t (.ls (.st .GFact))),(3, .k (.row 0 14)),(4, .k (.row 1 4)),(5, .t (.i .i64)),(6, .t (.i .i64))],ob:=[.row 61 (.st .GFact), .row 78 (.st .GPosting)] }
abbrev xd:Tm:={ sl:=[(0, .t (.ls (.st .GFact))),(3, .k (.row 0 14)),(4, .k (.row 1 4)),(5, .t (.i .i64)),(6, .t (.i .i64)),(7, .k (.row 2 2)),(8, .t (.i .i64))],ob:=[.row 61 (.st .GFact), .row 78 (.st .GPosting), .row 50 (.st .GSpan)] }
abbrev wQ:Tm:={ sl:=[(0, .t (.ls (.st .GFact))),(3, .k (.row 0 14)),(4, .k (.row 1 4)),(5, .t (.i .i64)),(6, .t (.i .i64)),(7, .k (.row 2 2)),(9, .t (.i .i64))],ob:=[.row 61 (.st .GFact), .row 78 (.st .GPosting), .row 50 (.st .GSpan)] }
noncomputable def f30:FI:={ fid:=30,fn:=Tryz.f30,c:=aj Tryz.f30,ins:={ sl:=[(0, .t (.ls (.st .GFact)))] },out:=.own true 78 (.st .GPosting),cuts:=[(122,It),(7826,DN),(2003530,xd),(4007070,wQ)] }
noncomputable def f34:FI:={ fid:=34,fn:=Tryz.f34,c:=aj Tryz.f34,ins:={ sl:=[(0, .t (.st .GSpan)),(1, .t (.i .i64))] },out:=.new (.t (.b)),cuts:=[] }
abbrev Ir:Tm:={ sl:=[(0, .t (.ls (.st .GFact))),(1, .t (.i .i64)),(4, .k (.ptr 0 1 0 0)),(5, .k (.ptr 1 1 0 0)),(6, .t (.i .i64))],ob:=[.row 230 (.i .i64), .row 230 (.i .i64)] }
noncomputable def f155:FI:={ fid:=155,fn:=Tryz.f155,c:=aj Tryz.f155,ins:={ sl:=[(0, .t (.ls (.st .GFact))),(1, .t (.i .i64))] },out:=.new (.t (.arr 6 (.i .i64))),cuts:=[(58,Ir)] }
abbrev I6:Tm:={ sl:=[(0, .t (.ls (.st .GFact))),(1, .t (.i .i64)),(6, .k (.row 0 14)),(7, .t (.i .i64)),(8, .t (.i .i64))],ob:=[.row 61 (.st .GFact)] }
noncomputable def f83:FI:={ fid:=83,fn:=Tryz.f83,c:=aj Tryz.f83,ins:={ sl:=[(0, .t (.ls (.st .GFact))),(1, .t (.i .i64))] },out:=.new (.tp [.t (.i .i64), .t (.b)]),cuts:=[(122,I6)] }
abbrev H6:Tm:={ sl:=[(0, .t (.ls (.st .GFact))),(1, .t (.i .i64)),(5, .t (.ls (.i .i64))),(6, .t (.i .i64))],ob:=[] }
noncomputable def f156:FI:={ fid:=156,fn:=Tryz.f156,c:=aj Tryz.f156,ins:={ sl:=[(0, .t (.ls (.st .GFact))),(1, .t (.i .i64))] },out:=.data (.t (.ls (.i .i64))),cuts:=[(58,H6)] }
abbrev HX:Tm:={ sl:=[(0, .t (.ls (.st .GFact))),(1, .t (.ls (.st .GFact))),(3, .t (.i .i64)),(6, .k (.ptr 0 5 0 0)),(10, .k (.ptr 1 1 0 0)),(11, .t (.i .i64)),(12, .t (.i .i64)),(13, .t (.i .i64)),(14, .t (.i .i64))],ob:=[.box [.t (.st .GRules)], .row 230 (.i .i64)] }
noncomputable def f82:FI:={ fid:=82,fn:=Tryz.f82,c:=aj Tryz.f82,ins:={ sl:=[(0, .t (.ls (.st .GFact))),(1, .t (.ls (.st .GFact))),(2, .t (.st .GRules)),(3, .t (.i .i64))] },out:=.new (.tp [.t (.i .i64), .t (.b)]),cuts:=[(122,HX)] }
abbrev No:Tm:={ sl:=[(0, .t (.ls (.st .GFact))),(1, .t (.ls (.st .GFact))),(2, .t (.ls (.st .GPosting))),(4, .t (.i .i64)),(8, .k (.ptr 0 5 0 0)),(12, .t (.i .i64)),(13, .t (.i .i64))],ob:=[.box [.t (.st .GRules)]] }
abbrev IA:Tm:={ sl:=[(0, .t (.ls (.st .GFact))),(1, .t (.ls (.st .GFact))),(4, .t (.i .i64)),(8, .k (.ptr 0 5 0 0)),(12, .t (.i .i64)),(14, .t (.i .i64))],ob:=[.box [.t (.st .GRules)]] }
abbrev Fc:Tm:={ sl:=[(0, .t (.ls (.st .GFact))),(1, .t (.ls (.st .GFact))),(4, .t (.i .i64)),(12, .t (.i .i64)),(17, .t (.i .i64))],ob:=[] }
noncomputable def f35:FI:={ fid:=35,fn:=Tryz.f35,c:=aj Tryz.f35,ins:={ sl:=[(0, .t (.ls (.st .GFact))),(1, .t (.ls (.st .GFact))),(2, .t (.ls (.st .GPosting))),(3, .t (.st .GRules)),(4, .t (.i .i64))] },out:=.new (.tp [.t (.i .i64), .t (.i .i64)]),cuts:=[(58,No),(250,IA),(2042,Fc)] }
abbrev M5:Tm:={ sl:=[(0, .t (.ls (.st .GFact))),(1, .t (.ls (.st .GRules))),(5, .k (.row 0 14)),(6, .k (.row 1 4)),(7, .k (.ptr 2 2 0 0)),(8, .t (.ls (.i .i64))),(9, .t (.i .i64))],ob:=[.row 61 (.st .GFact), .row 78 (.st .GPosting), .box [.t (.st .GSpan)]] }
abbrev Mv:Tm:={ sl:=[(0, .t (.ls (.st .GFact))),(1, .t (.ls (.st .GRules))),(5, .k (.row 0 14)),(6, .k (.row 1 4)),(7, .k (.ptr 2 2 0 0)),(8, .t (.ls (.i .i64))),(10, .t (.i .i64))],ob:=[.row 61 (.st .GFact), .row 78 (.st .GPosting), .box [.t (.st .GSpan)]] }
abbrev Jv:Tm:={ sl:=[(0, .t (.ls (.st .GFact))),(1, .t (.ls (.st .GRules))),(5, .k (.row 0 14)),(6, .k (.row 1 4)),(7, .k (.ptr 2 2 0 0)),(8, .t (.ls (.i .i64))),(12, .t (.i .i64))],ob:=[.row 61 (.st .GFact), .row 78 (.st .GPosting), .box [.t (.st .GSpan)]] }
abbrev Hh:Tm:={ sl:=[(0, .t (.ls (.st .GFact))),(1, .t (.ls (.st .GRules))),(5, .k (.row 0 14)),(6, .k (.row 1 4)),(7, .k (.ptr 2 2 0 0)),(8, .t (.ls (.i .i64))),(13, .k (.row 3 4)),(14, .t (.i .i64))],ob:=[.row 61 (.st .GFact), .row 78 (.st .GPosting), .box [.t (.st .GSpan)], .row 85 (.st .GSegment)] }
abbrev EY:Tm:={ sl:=[(0, .t (.ls (.st .GFact))),(1, .t (.ls (.st .GRules))),(5, .k (.row 0 14)),(6, .k (.row 1 4)),(7, .k (.ptr 2 2 0 0)),(8, .t (.ls (.i .i64))),(10, .t (.i .i64)),(11, .t (.i .i64))],ob:=[.row 61 (.st .GFact), .row 78 (.st .GPosting), .box [.t (.st .GSpan)]] }
noncomputable def f8:FI:={ fid:=8,fn:=Tryz.f8,c:=aj Tryz.f8,ins:={ sl:=[(0, .t (.ls (.st .GFact))),(1, .t (.ls (.st .GRules)))] },out:=.own true 85 (.st .GSegment),cuts:=[(250,M5),(506,Mv),(1018,Jv),(4090,Hh),(64806,EY)] }
noncomputable def f105:FI:={ fid:=105,fn:=Tryz.f105,c:=aj Tryz.f105,ins:={ sl:=[(0, .t (.ls (.st .GSpan)))] },out:=.own true 50 (.st .GSpan),cuts:=[] }
abbrev M0:Tm:={ sl:=[(0, .t (.ls (.st .GSegment))),(1, .t (.i .i64)),(2, .t (.i .i64)),(7, .k (.row 0 2)),(8, .t (.i .i64))],ob:=[.row 50 (.st .GSpan)] }
noncomputable def f50:FI:={ fid:=50,fn:=Tryz.f50,c:=aj Tryz.f50,ins:={ sl:=[(0, .t (.ls (.st .GSegment))),(1, .t (.i .i64)),(2, .t (.i .i64))] },out:=.own true 50 (.st .GSpan),cuts:=[(58,M0)] }
abbrev Fa:Tm:={ sl:=[(1, .t (.i .i64)),(5, .k (.row 0 2)),(6, .k (.row 1 2)),(7, .t (.i .i64))],ob:=[.row 50 (.st .GSpan), .row 50 (.st .GSpan)] }
noncomputable def f104:FI:={ fid:=104,fn:=Tryz.f104,c:=aj Tryz.f104,ins:={ sl:=[(0, .t (.ls (.st .GSpan))),(1, .t (.i .i64))] },out:=.own true 50 (.st .GSpan),cuts:=[(122,Fa)] }
noncomputable def f49:FI:={ fid:=49,fn:=Tryz.f49,c:=aj Tryz.f49,ins:={ sl:=[(0, .t (.ls (.st .GSpan))),(1, .t (.i .i64)),(2, .t (.i .i64))] },out:=.own true 50 (.st .GSpan),cuts:=[] }
noncomputable def f106:FI:={ fid:=106,fn:=Tryz.f106,c:=aj Tryz.f106,ins:={ sl:=[(0, .t (.i .i64))] },out:=.new (.t (.i .i64)),cuts:=[] }
abbrev Ox:Tm:={ sl:=[(0, .t (.i .i64)),(3, .t (.i .i64))],ob:=[] }
noncomputable def f52:FI:={ fid:=52,fn:=Tryz.f52,c:=aj Tryz.f52,ins:={ sl:=[(0, .t (.i .i64))] },out:=.new (.t (.i .i64)),cuts:=[(26,Ox)] }
abbrev Mm:Tm:={ sl:=[(1, .t (.i .i64)),(2, .k (.ptr 0 8 0 0)),(6, .t (.i .i64))],ob:=[.box [.t (.i .i64), .t (.st .GRounding), .t (.ls (.st .GCredit)), .t (.ls (.st .GIndex)), .t (.ls (.st .GLet)), .t (.ls (.st .GGrant)), .t (.ls (.st .GReduce))]] }
noncomputable def f51:FI:={ fid:=51,fn:=Tryz.f51,c:=aj Tryz.f51,ins:={ sl:=[(0, .t (.st .GVersion)),(1, .t (.i .i64))] },out:=.new (.tp [.t (.i .i64), .t (.b)]),cuts:=[(26,Mm)] }
abbrev E6:Tm:={ sl:=[(0, .t (.ls (.st .GFact))),(1, .t (.i .i64)),(2, .t (.i .i64)),(7, .k (.row 0 14)),(8, .k (.row 1 2)),(9, .t (.i .i64))],ob:=[.row 61 (.st .GFact), .row 50 (.st .GSpan)] }
noncomputable def f107:FI:={ fid:=107,fn:=Tryz.f107,c:=aj Tryz.f107,ins:={ sl:=[(0, .t (.ls (.st .GFact))),(1, .t (.i .i64)),(2, .t (.i .i64))] },out:=.own true 50 (.st .GSpan),cuts:=[(122,E6)] }
abbrev Ic:Tm:={ sl:=[(0, .t (.ls (.st .GFact))),(2, .t (.i .i64)),(3, .t (.i .i64)),(4, .t (.i .i64)),(11, .k (.row 0 14)),(12, .k (.row 1 2)),(13, .t (.i .i64))],ob:=[.row 61 (.st .GFact), .row 50 (.st .GSpan)] }
abbrev Bq:Tm:={ sl:=[(0, .t (.ls (.st .GFact))),(2, .t (.i .i64)),(3, .t (.i .i64)),(4, .t (.i .i64)),(11, .k (.row 0 14)),(12, .k (.row 1 2)),(13, .t (.i .i64)),(14, .k (.row 2 2)),(15, .t (.i .i64))],ob:=[.row 61 (.st .GFact), .row 50 (.st .GSpan), .row 50 (.st .GSpan)] }
noncomputable def f53:FI:={ fid:=53,fn:=Tryz.f53,c:=aj Tryz.f53,ins:={ sl:=[(0, .t (.ls (.st .GFact))),(1, .t (.i .i64)),(2, .t (.i .i64)),(3, .t (.i .i64)),(4, .t (.i .i64))] },out:=.own true 50 (.st .GSpan),cuts:=[(250,Ic),(64074,Bq)] }
abbrev Ou:Tm:={ sl:=[(0, .t (.ls (.st .GFact))),(1, .t (.ls (.st .GSegment))),(2, .t (.ls (.st .GScheme))),(3, .t (.i .i64)),(10, .t (.i .i64))],ob:=[] }
abbrev Iw:Tm:={ sl:=[(0, .t (.ls (.st .GFact))),(1, .t (.ls (.st .GSegment))),(2, .t (.ls (.st .GScheme))),(3, .t (.i .i64)),(12, .k (.row 0 4)),(13, .t (.i .i64))],ob:=[.row 115 (.st .GPeriod)] }
abbrev B8:Tm:={ sl:=[(0, .t (.ls (.st .GFact))),(1, .t (.ls (.st .GSegment))),(2, .t (.ls (.st .GScheme))),(3, .t (.i .i64)),(12, .k (.row 0 4)),(13, .t (.i .i64)),(14, .t (.i .i64)),(15, .t (.i .i64))],ob:=[.row 115 (.st .GPeriod)] }
abbrev xr:Tm:={ sl:=[(0, .t (.ls (.st .GFact))),(1, .t (.ls (.st .GSegment))),(2, .t (.ls (.st .GScheme))),(3, .t (.i .i64)),(12, .k (.row 0 4)),(13, .t (.i .i64)),(14, .t (.i .i64)),(15, .t (.i .i64)),(16, .k (.row 1 2)),(19, .t (.i .i64))],ob:=[.row 115 (.st .GPeriod), .row 50 (.st .GSpan)] }
noncomputable def f13:FI:={ fid:=13,fn:=Tryz.f13,c:=aj Tryz.f13,ins:={ sl:=[(0, .t (.ls (.st .GFact))),(1, .t (.ls (.st .GSegment))),(2, .t (.ls (.st .GScheme))),(3, .t (.i .i64))] },out:=.new (.tp [.t (.ls (.st .GPeriod)), .t (.i .i64)]),cuts:=[(58,Ou),(250,Iw),(32038,B8),(8201806,xr)] }
abbrev Ja:Tm:={ sl:=[(0, .t (.ls (.st .GPeriod))),(1, .t (.i .i64)),(2, .t (.i .i64)),(3, .t (.i .i64)),(9, .t (.i .i64))],ob:=[] }
noncomputable def f278:FI:={ fid:=278,fn:=Tryz.f278,c:=aj Tryz.f278,ins:={ sl:=[(0, .t (.ls (.st .GPeriod))),(1, .t (.i .i64)),(2, .t (.i .i64)),(3, .t (.i .i64))] },out:=.new (.t (.b)),cuts:=[(26,Ja)] }
abbrev HN:Tm:={ sl:=[(0, .t (.ls (.st .GPeriod))),(1, .t (.i .i64)),(2, .t (.i .i64)),(7, .t (.i .i64)),(8, .t (.i .i64))],ob:=[] }
noncomputable def f294:FI:={ fid:=294,fn:=Tryz.f294,c:=aj Tryz.f294,ins:={ sl:=[(0, .t (.ls (.st .GPeriod))),(1, .t (.i .i64)),(2, .t (.i .i64))] },out:=.new (.t (.i .i64)),cuts:=[(58,HN)] }
abbrev H4:Tm:={ sl:=[(0, .t (.ls (.st .GPeriod))),(1, .t (.i .i64)),(2, .t (.i .i64)),(7, .t (.i .i64)),(8, .t (.i .i64))],ob:=[] }
noncomputable def f295:FI:={ fid:=295,fn:=Tryz.f295,c:=aj Tryz.f295,ins:={ sl:=[(0, .t (.ls (.st .GPeriod))),(1, .t (.i .i64)),(2, .t (.i .i64))] },out:=.new (.t (.i .i64)),cuts:=[(58,H4)] }
noncomputable def f279:FI:={ fid:=279,fn:=Tryz.f279,c:=aj Tryz.f279,ins:={ sl:=[(0, .t (.ls (.st .GPeriod))),(1, .t (.i .i64)),(2, .t (.i .i64)),(3, .t (.i .i64))] },out:=.new (.t (.b)),cuts:=[] }
abbrev Hm:Tm:={ sl:=[(0, .t (.ls (.st .GPeriod))),(1, .t (.i .i64)),(7, .t (.i .i64))],ob:=[] }
abbrev zY:Tm:={ sl:=[(0, .t (.ls (.st .GPeriod))),(1, .t (.i .i64)),(7, .t (.i .i64)),(8, .t (.i .i64)),(9, .t (.i .i64))],ob:=[] }
noncomputable def f244:FI:={ fid:=244,fn:=Tryz.f244,c:=aj Tryz.f244,ins:={ sl:=[(0, .t (.ls (.st .GPeriod))),(1, .t (.i .i64))] },out:=.new (.tp [.t (.i .i64), .t (.i .i64), .t (.b)]),cuts:=[(58,Hm),(14922,zY)] }
abbrev IV:Tm:={ sl:=[(0, .t (.ls (.st .GPeriod))),(3, .t (.ls (.i .i64))),(4, .t (.i .i64))],ob:=[] }
abbrev Ed:Tm:={ sl:=[(0, .t (.ls (.st .GPeriod))),(3, .t (.ls (.i .i64))),(6, .k (.row 0 4)),(7, .t (.i .i64))],ob:=[.row 272 (.st .GCounted)] }
abbrev zG:Tm:={ sl:=[(0, .t (.ls (.st .GPeriod))),(3, .t (.ls (.i .i64))),(4, .t (.i .i64)),(5, .k (.ptr 0 2 0 0))],ob:=[.box [.t (.st .GSpan)]] }
abbrev yC:Tm:={ sl:=[(0, .t (.ls (.st .GPeriod))),(3, .t (.ls (.i .i64))),(4, .t (.i .i64)),(5, .k (.ptr 0 2 0 0))],ob:=[.box [.t (.st .GSpan)]] }
noncomputable def f184:FI:={ fid:=184,fn:=Tryz.f184,c:=aj Tryz.f184,ins:={ sl:=[(0, .t (.ls (.st .GPeriod)))] },out:=.own true 272 (.st .GCounted),cuts:=[(58,IV),(250,Ed),(14927,zG),(29855,yC)] }
abbrev Hq:Tm:={ sl:=[(1, .t (.ls (.st .GFact))),(2, .t (.ls (.i .i64))),(3, .t (.i .i64)),(4, .k (.ptr 0 3 0 0)),(9, .k (.row 1 9)),(10, .t (.i .i64))],ob:=[.box [.t (.ls (.st .GState)), .t (.ls (.st .GRules)), .t (.ls (.st .GRate))], .row 113 (.st .GScheme)] }
noncomputable def f115:FI:={ fid:=115,fn:=Tryz.f115,c:=aj Tryz.f115,ins:={ sl:=[(0, .t (.st .GLaws)),(1, .t (.ls (.st .GFact))),(2, .t (.ls (.i .i64))),(3, .t (.i .i64))] },out:=.own true 272 (.st .GCounted),cuts:=[(58,Hq)] }
noncomputable def f56:FI:={ fid:=56,fn:=Tryz.f56,c:=aj Tryz.f56,ins:={ sl:=[(0, .t (.st .GLaws)),(1, .t (.ls (.st .GFact))),(2, .t (.i .i64))] },out:=.new (.tp [.t (.ls (.st .GCounted)), .t (.i .i64)]),cuts:=[] }
noncomputable def f20:FI:={ fid:=20,fn:=Tryz.f20,c:=aj Tryz.f20,ins:={ sl:=[(0, .t (.st .GLaws)),(1, .k (.row 0 14)),(2, .t (.i .i64)),(1000001, .k (.row 0 14))],ob:=[.row 61 (.st .GFact)] },out:=.gen ({ sl:=[(1000001, .k (.row 0 14)),(2000000, .tp [.t (.ls (.st .GCounted))])],ob:=[.row 61 (.st .GFact)] }),cuts:=[] }
noncomputable def f117:FI:={ fid:=117,fn:=Tryz.f117,c:=aj Tryz.f117,ins:={ sl:=[(0, .t (.i .i64))] },out:=.new (.t (.b)),cuts:=[] }
noncomputable def f246:FI:={ fid:=246,fn:=Tryz.f246,c:=aj Tryz.f246,ins:={ sl:=[(0, .t (.i .i64))] },out:=.new (.t (.b)),cuts:=[] }
noncomputable def f189:FI:={ fid:=189,fn:=Tryz.f189,c:=aj Tryz.f189,ins:={ sl:=[(0, .t (.i .i64))] },out:=.new (.t (.b)),cuts:=[] }
noncomputable def f126:FI:={ fid:=126,fn:=Tryz.f126,c:=aj Tryz.f126,ins:={ sl:=[(0, .t (.i .i64)),(1, .t (.i .i64))] },out:=.new (.t (.i .i64)),cuts:=[] }
noncomputable def f186:FI:={ fid:=186,fn:=Tryz.f186,c:=aj Tryz.f186,ins:={ sl:=[(0, .t (.i .i64))] },out:=.new (.t (.i .i64)),cuts:=[] }
noncomputable def f118:FI:={ fid:=118,fn:=Tryz.f118,c:=aj Tryz.f118,ins:={ sl:=[(0, .t (.i .i64))] },out:=.new (.t (.b)),cuts:=[] }
noncomputable def f188:FI:={ fid:=188,fn:=Tryz.f188,c:=aj Tryz.f188,ins:={ sl:=[(0, .t (.i .i64))] },out:=.new (.t (.i .u64)),cuts:=[] }
abbrev Jg:Tm:={ sl:=[(0, .t (.i .u64)),(1, .t (.i .u64))],ob:=[] }
noncomputable def f187:FI:={ fid:=187,fn:=Tryz.f187,c:=aj Tryz.f187,ins:={ sl:=[(0, .t (.i .u64)),(1, .t (.i .u64))] },out:=.new (.t (.i .u64)),cuts:=[(12,Jg)] }
noncomputable def f119:FI:={ fid:=119,fn:=Tryz.f119,c:=aj Tryz.f119,ins:={ sl:=[(0, .t (.st .GFraction))] },out:=.new (.t (.b)),cuts:=[] }
noncomputable def f120:FI:={ fid:=120,fn:=Tryz.f120,c:=aj Tryz.f120,ins:={ sl:=[(0, .t (.i .i64))] },out:=.new (.t (.b)),cuts:=[] }
abbrev Np:Tm:={ sl:=[(0, .t (.ls (.st .GRate))),(8, .t (.ls (.st .GRate))),(9, .t (.i .i64)),(10, .t (.i .i64))],ob:=[] }
noncomputable def f57:FI:={ fid:=57,fn:=Tryz.f57,c:=aj Tryz.f57,ins:={ sl:=[(0, .t (.ls (.st .GRate)))] },out:=.new (.t (.i .i64)),cuts:=[(58,Np)] }
abbrev Fb:Tm:={ sl:=[(3, .t (.i .i64)),(6, .t (.b))],ob:=[] }
abbrev Br:Tm:={ sl:=[(3, .t (.i .i64)),(11, .t (.b))],ob:=[] }
abbrev wA:Tm:={ sl:=[(3, .t (.i .i64)),(20, .t (.b))],ob:=[] }
noncomputable def f193:FI:={ fid:=193,fn:=Tryz.f193,c:=aj Tryz.f193,ins:={ sl:=[(0, .t (.i .i64))] },out:=.new (.t (.s)),cuts:=[(215,Fb),(3455,Br),(221183,wA)] }
noncomputable def f196:FI:={ fid:=196,fn:=Tryz.f196,c:=aj Tryz.f196,ins:={ sl:=[(0, .t (.i .i64)),(1, .t (.i .i64)),(2, .t (.i .i64))] },out:=.new (.t (.b)),cuts:=[] }
noncomputable def f302:FI:={ fid:=302,fn:=Tryz.f302,c:=aj Tryz.f302,ins:={ sl:=[(0, .t (.s)),(1, .t (.i .u8))] },out:=.data (.t (.i .i64)),cuts:=[] }
noncomputable def f297:FI:={ fid:=297,fn:=Tryz.f297,c:=aj Tryz.f297,ins:={ sl:=[(0, .t (.s)),(1, .t (.i .u8))] },out:=.new (.t (.i .i64)),cuts:=[] }
noncomputable def f286:FI:={ fid:=286,fn:=Tryz.f286,c:=aj Tryz.f286,ins:={ sl:=[(0, .t (.s)),(1, .t (.s))] },out:=.new (.t (.i .i64)),cuts:=[] }
noncomputable def f257:FI:={ fid:=257,fn:=Tryz.f257,c:=aj Tryz.f257,ins:={ sl:=[(0, .t (.s)),(1, .t (.s))] },out:=.new (.t (.i .i64)),cuts:=[] }
noncomputable def f195:FI:={ fid:=195,fn:=Tryz.f195,c:=aj Tryz.f195,ins:={ sl:=[(0, .t (.s)),(1, .t (.s))] },out:=.new (.t (.b)),cuts:=[] }
noncomputable def f194:FI:={ fid:=194,fn:=Tryz.f194,c:=aj Tryz.f194,ins:={ sl:=[(0, .t (.s)),(1, .dp (.s))] },out:=.new (.t (.b)),cuts:=[] }
noncomputable def f197:FI:={ fid:=197,fn:=Tryz.f197,c:=aj Tryz.f197,ins:={ sl:=[(0, .t (.b)),(1, .t (.i .i64)),(2, .t (.i .i64)),(3, .t (.i .i64))] },out:=.new (.t (.b)),cuts:=[] }
noncomputable def f198:FI:={ fid:=198,fn:=Tryz.f198,c:=aj Tryz.f198,ins:={ sl:=[(0, .t (.st .GSpan))] },out:=.new (.t (.b)),cuts:=[] }
abbrev BU:Tm:={ sl:=[(1, .k (.ptr 0 14 0 0)),(89, .t (.i .i64)),(97, .t (.b))],ob:=[.box [.t (.st .GFact)]] }
noncomputable def f138:FI:={ fid:=138,fn:=Tryz.f138,c:=aj Tryz.f138,ins:={ sl:=[(0, .t (.st .GFact))] },out:=.new (.t (.b)),cuts:=[(2007,BU)] }
noncomputable def f101:FI:={ fid:=101,fn:=Tryz.f101,c:=aj Tryz.f101,ins:={ sl:=[(0, .t (.st .GFact))] },out:=.new (.t (.b)),cuts:=[] }
abbrev Io:Tm:={ sl:=[(1, .fn 101 []),(5, .k (.row 0 14)),(8, .t (.ls (.st .GFact))),(9, .t (.i .i64)),(10, .t (.i .i64))],ob:=[.row 61 (.st .GFact)] }
noncomputable def f174:FI:={ fid:=174,fn:=Tryz.f174,c:=aj Tryz.f174,ins:={ sl:=[(0, .t (.ls (.st .GFact))),(1, .fn 101 [])] },out:=.own true 61 (.st .GFact),cuts:=[(58,Io)] }
noncomputable def f103:FI:={ fid:=103,fn:=Tryz.f103,c:=aj Tryz.f103,ins:={ sl:=[(0, .t (.ls (.st .GFact)))] },out:=.own true 61 (.st .GFact),cuts:=[] }
noncomputable def f121:FI:={ fid:=121,fn:=Tryz.f121,c:=aj Tryz.f121,ins:={ sl:=[(0, .t (.st .GFact)),(1, .t (.i .i64))] },out:=.new (.t (.i .i64)),cuts:=[] }
noncomputable def f108:FI:={ fid:=108,fn:=Tryz.f108,c:=aj Tryz.f108,ins:={ sl:=[(0, .t (.st .GSpan))] },out:=.new (.t (.st .GSpan)),cuts:=[] }
abbrev Oj:Tm:={ sl:=[(3, .k (.ptr 0 1 0 0)),(10, .t (.ls (.st .GSpan))),(11, .t (.i .i64)),(12, .t (.i .i64))],ob:=[.box [.k (.row 1 2)], .row 50 (.st .GSpan)] }
abbrev IQ:Tm:={ sl:=[(6, .k (.row 0 2)),(32, .k (.row 1 2)),(33, .t (.i .i64)),(34, .t (.i .i64))],ob:=[.row 50 (.st .GSpan), .row 50 (.st .GSpan)] }
noncomputable def f54:FI:={ fid:=54,fn:=Tryz.f54,c:=aj Tryz.f54,ins:={ sl:=[(0, .t (.ls (.st .GSpan)))] },out:=.own true 50 (.st .GSpan),cuts:=[(58,Oj),(506,IQ)] }
abbrev Id:Tm:={ sl:=[(1, .t (.i .i64)),(2, .t (.i .i64)),(7, .k (.row 0 2)),(10, .t (.ls (.st .GCounted))),(11, .t (.i .i64)),(12, .t (.i .i64))],ob:=[.row 50 (.st .GSpan)] }
noncomputable def f122:FI:={ fid:=122,fn:=Tryz.f122,c:=aj Tryz.f122,ins:={ sl:=[(0, .t (.ls (.st .GCounted))),(1, .t (.i .i64)),(2, .t (.i .i64))] },out:=.own true 50 (.st .GSpan),cuts:=[(58,Id)] }
abbrev HR:Tm:={ sl:=[(0, .k (.row 0 2)),(1, .k (.row 1 2)),(5, .k (.row 2 2)),(6, .t (.i .i64)),(7, .t (.i .i64))],ob:=[.row 50 (.st .GSpan), .row 50 (.st .GSpan), .row 50 (.st .GSpan)] }
abbrev DH:Tm:={ sl:=[(0, .k (.row 0 2)),(1, .k (.row 1 2)),(5, .k (.row 2 2)),(6, .t (.i .i64)),(7, .t (.i .i64))],ob:=[.row 50 (.st .GSpan), .row 50 (.st .GSpan), .row 50 (.st .GSpan)] }
noncomputable def f98:FI:={ fid:=98,fn:=Tryz.f98,c:=aj Tryz.f98,ins:={ sl:=[(0, .t (.ls (.st .GSpan))),(1, .t (.ls (.st .GSpan)))] },out:=.own true 50 (.st .GSpan),cuts:=[(122,HR),(3915,DH)] }
noncomputable def f42:FI:={ fid:=42,fn:=Tryz.f42,c:=aj Tryz.f42,ins:={ sl:=[(0, .t (.ls (.st .GSpan))),(1, .t (.st .GSpan))] },out:=.own true 50 (.st .GSpan),cuts:=[] }
abbrev HQ:Tm:={ sl:=[(1, .t (.i .i64)),(6, .t (.i .i64)),(7, .t (.b)),(10, .t (.ls (.st .GFact))),(11, .t (.i .i64)),(12, .t (.i .i64))],ob:=[] }
noncomputable def f223:FI:={ fid:=223,fn:=Tryz.f223,c:=aj Tryz.f223,ins:={ sl:=[(0, .t (.ls (.st .GFact))),(1, .t (.i .i64))] },out:=.new (.tp [.t (.i .i64), .t (.b)]),cuts:=[(58,HQ)] }
noncomputable def f172:FI:={ fid:=172,fn:=Tryz.f172,c:=aj Tryz.f172,ins:={ sl:=[(0, .t (.ls (.st .GFact)))] },out:=.new (.tp [.t (.i .i64), .t (.b)]),cuts:=[] }
noncomputable def f173:FI:={ fid:=173,fn:=Tryz.f173,c:=aj Tryz.f173,ins:={ sl:=[(0, .t (.ls (.st .GFact)))] },out:=.new (.tp [.t (.i .i64), .t (.b)]),cuts:=[] }
noncomputable def f102:FI:={ fid:=102,fn:=Tryz.f102,c:=aj Tryz.f102,ins:={ sl:=[(0, .t (.ls (.st .GFact)))] },out:=.new (.t (.st .GSpan)),cuts:=[] }
abbrev LZ:Tm:={ sl:=[(0, .k (.row 0 14)),(1, .t (.ls (.st .GCounted))),(2, .t (.i .i64)),(7, .k (.row 1 15)),(13, .k (.row 2 14)),(14, .t (.i .i64)),(15, .t (.i .i64)),(1000000, .k (.row 0 14))],ob:=[.row 61 (.st .GFact), .row 140 (.st .GEarnings_income), .row 61 (.st .GFact)] }
noncomputable def f58:FI:={ fid:=58,fn:=Tryz.f58,c:=aj Tryz.f58,ins:={ sl:=[(0, .k (.row 0 14)),(1, .t (.ls (.st .GCounted))),(2, .t (.i .i64)),(1000000, .k (.row 0 14))],ob:=[.row 61 (.st .GFact)] },out:=.gen ({ sl:=[(1000000, .k (.row 0 14)),(2000000, .tp [.k (.row 1 15)])],ob:=[.row 61 (.st .GFact), .row 140 (.st .GEarnings_income)] }),cuts:=[(58,LZ)] }
noncomputable def f123:FI:={ fid:=123,fn:=Tryz.f123,c:=aj Tryz.f123,ins:={ sl:=[(0, .t (.i .i64))] },out:=.new (.t (.b)),cuts:=[] }
noncomputable def f124:FI:={ fid:=124,fn:=Tryz.f124,c:=aj Tryz.f124,ins:={ sl:=[(0, .t (.i .i64))] },out:=.new (.t (.i .i64)),cuts:=[] }
noncomputable def f125:FI:={ fid:=125,fn:=Tryz.f125,c:=aj Tryz.f125,ins:={ sl:=[(0, .t (.i .i64))] },out:=.new (.t (.i .i64)),cuts:=[] }
abbrev NW:Tm:={ sl:=[(0, .t (.i .i64)),(2, .t (.i .i64))],ob:=[] }
abbrev G5:Tm:={ sl:=[(2, .t (.i .i64)),(3, .t (.i .i64)),(6, .t (.i .i64))],ob:=[] }
noncomputable def f59:FI:={ fid:=59,fn:=Tryz.f59,c:=aj Tryz.f59,ins:={ sl:=[(0, .t (.i .i64))] },out:=.new (.tp [.t (.i .i64), .t (.i .i64), .t (.i .i64), .t (.b)]),cuts:=[(60,NW),(508,G5)] }
abbrev DG:Tm:={ sl:=[(0, .t (.i .i64)),(1, .t (.i .i64)),(8, .t (.i .i64)),(9, .t (.i .i64))],ob:=[] }
noncomputable def f131:FI:={ fid:=131,fn:=Tryz.f131,c:=aj Tryz.f131,ins:={ sl:=[(0, .t (.i .i64)),(1, .t (.i .i64)),(2, .t (.i .i64))] },out:=.new (.tp [.t (.i .i64), .t (.b)]),cuts:=[(122,DG)] }
noncomputable def f63:FI:={ fid:=63,fn:=Tryz.f63,c:=aj Tryz.f63,ins:={ sl:=[(0, .t (.i .i64))] },out:=.new (.t (.st .GSpan)),cuts:=[] }
abbrev Jl:Tm:={ sl:=[(1, .t (.i .i64)),(5, .t (.i .i64)),(9, .k (.row 0 2)),(10, .t (.i .i64)),(11, .t (.i .i64))],ob:=[.row 50 (.st .GSpan)] }
noncomputable def f130:FI:={ fid:=130,fn:=Tryz.f130,c:=aj Tryz.f130,ins:={ sl:=[(0, .t (.ls (.st .GSpan))),(1, .t (.i .i64))] },out:=.new (.t (.i .i64)),cuts:=[(58,Jl)] }
noncomputable def f62:FI:={ fid:=62,fn:=Tryz.f62,c:=aj Tryz.f62,ins:={ sl:=[(0, .t (.ls (.st .GSpan)))] },out:=.new (.t (.i .i64)),cuts:=[] }
noncomputable def f65:FI:={ fid:=65,fn:=Tryz.f65,c:=aj Tryz.f65,ins:={ sl:=[(0, .t (.st .GFact)),(1, .t (.i .i64))] },out:=.new (.t (.i .i64)),cuts:=[] }
noncomputable def f132:FI:={ fid:=132,fn:=Tryz.f132,c:=aj Tryz.f132,ins:={ sl:=[(0, .t (.i .i64))] },out:=.new (.t (.b)),cuts:=[] }
abbrev IH:Tm:={ sl:=[(1, .k (.ptr 0 2 0 0)),(5, .t (.b))],ob:=[.box [.t (.st .GRounding)]] }
noncomputable def f133:FI:={ fid:=133,fn:=Tryz.f133,c:=aj Tryz.f133,ins:={ sl:=[(0, .t (.st .GRounding))] },out:=.new (.t (.b)),cuts:=[(53,IH)] }
noncomputable def f135:FI:={ fid:=135,fn:=Tryz.f135,c:=aj Tryz.f135,ins:={ sl:=[(0, .t (.i .i64))] },out:=.new (.t (.i .u64)),cuts:=[] }
abbrev ER:Tm:={ sl:=[(9, .k (.ptr 0 2 0 0)),(12, .t (.i .u64)),(14, .t (.i .u64)),(15, .t (.i .i64))],ob:=[.box [.t (.st .GRounding)]] }
abbrev BH:Tm:={ sl:=[(9, .k (.ptr 0 2 0 0)),(15, .t (.i .i64)),(16, .t (.b))],ob:=[.box [.t (.st .GRounding)]] }
abbrev BC:Tm:={ sl:=[(9, .k (.ptr 0 2 0 0)),(15, .t (.i .i64))],ob:=[.box [.t (.st .GRounding)]] }
noncomputable def f134:FI:={ fid:=134,fn:=Tryz.f134,c:=aj Tryz.f134,ins:={ sl:=[(0, .t (.b)),(1, .t (.i .u64)),(2, .t (.i .u64)),(3, .t (.i .u64)),(4, .t (.st .GRounding))] },out:=.new (.tp [.t (.i .i64), .t (.i .i64)]),cuts:=[(255,ER),(1023,BH),(2047,BC)] }
abbrev Hs:Tm:={ sl:=[(0, .t (.ls (.st .GRate))),(1, .t (.i .i64)),(2, .t (.i .i64)),(6, .k (.ptr 0 2 0 0)),(8, .t (.i .i64)),(11, .t (.ls (.st .GRate))),(12, .t (.i .i64)),(13, .t (.i .i64))],ob:=[.box [.t (.st .GFraction)]] }
noncomputable def f136:FI:={ fid:=136,fn:=Tryz.f136,c:=aj Tryz.f136,ins:={ sl:=[(0, .t (.ls (.st .GRate))),(1, .t (.i .i64)),(2, .t (.i .i64))] },out:=.new (.tp [.t (.st .GFraction), .t (.b)]),cuts:=[(58,Hs)] }
noncomputable def f137:FI:={ fid:=137,fn:=Tryz.f137,c:=aj Tryz.f137,ins:={ sl:=[(0, .t (.i .u64)),(1, .t (.i .u64))] },out:=.new (.tp [.t (.i .u64), .t (.i .u64)]),cuts:=[] }
noncomputable def f64:FI:={ fid:=64,fn:=Tryz.f64,c:=aj Tryz.f64,ins:={ sl:=[(0, .t (.i .i64)),(1, .t (.i .i64)),(2, .t (.i .i64)),(3, .t (.i .i64)),(4, .t (.ls (.st .GRate))),(5, .t (.st .GRounding))] },out:=.new (.tp [.t (.i .i64), .t (.i .i64)]),cuts:=[] }
abbrev Jb:Tm:={ sl:=[(3, .t (.i .i64)),(4, .t (.ls (.st .GRate))),(12, .k (.row 0 15)),(13, .fn 2000000000 [.k (.ptr 1 1 0 0)]),(60, .k (.row 0 15)),(61, .t (.i .i64)),(62, .t (.i .i64)),(1000000, .k (.row 2 14))],ob:=[.row 140 (.st .GEarnings_income), .map 138 (.i .i64) (.i .i64), .row 61 (.st .GFact)] }
abbrev Ei:Tm:={ sl:=[(3, .t (.i .i64)),(4, .t (.ls (.st .GRate))),(12, .k (.row 0 15)),(13, .fn 2000000000 [.k (.ptr 1 1 0 0)]),(27, .k (.row 2 2)),(102, .k (.row 3 1)),(103, .t (.i .i64)),(104, .t (.i .i64)),(1000000, .k (.row 4 14))],ob:=[.row 140 (.st .GEarnings_income), .map 138 (.i .i64) (.i .i64), .row 58 (.st .GEarning), .row 3 (.i .i64), .row 61 (.st .GFact)] }
abbrev BA:Tm:={ sl:=[(3, .t (.i .i64)),(4, .t (.ls (.st .GRate))),(12, .k (.row 0 15)),(13, .fn 2000000000 [.k (.ptr 1 1 0 0)]),(60, .k (.row 0 15)),(61, .t (.i .i64)),(62, .t (.i .i64)),(67, .t (.ls (.st .GSpan))),(68, .t (.i .i64)),(69, .t (.i .i64)),(1000000, .k (.row 2 14))],ob:=[.row 140 (.st .GEarnings_income), .map 138 (.i .i64) (.i .i64), .row 61 (.st .GFact)] }
abbrev xo:Tm:={ sl:=[(3, .t (.i .i64)),(4, .t (.ls (.st .GRate))),(12, .k (.row 0 15)),(13, .fn 2000000000 [.k (.ptr 1 1 0 0)]),(27, .k (.row 2 2)),(29, .t (.i .i64)),(30, .t (.i .i64)),(102, .k (.row 3 1)),(103, .t (.i .i64)),(104, .t (.i .i64)),(112, .k (.row 0 15)),(113, .t (.i .i64)),(114, .t (.i .i64)),(1000000, .k (.row 4 14))],ob:=[.row 140 (.st .GEarnings_income), .map 138 (.i .i64) (.i .i64), .row 58 (.st .GEarning), .row 3 (.i .i64), .row 61 (.st .GFact)] }
abbrev uZ:Tm:={ sl:=[(3, .t (.i .i64)),(4, .t (.ls (.st .GRate))),(12, .k (.row 0 15)),(13, .fn 2000000000 [.k (.ptr 1 1 0 0)]),(22, .t (.i .i64)),(26, .t (.i .i64)),(60, .k (.row 0 15)),(61, .t (.i .i64)),(62, .t (.i .i64)),(67, .t (.ls (.st .GSpan))),(68, .t (.i .i64)),(69, .t (.i .i64)),(1000000, .k (.row 2 14))],ob:=[.row 140 (.st .GEarnings_income), .map 138 (.i .i64) (.i .i64), .row 61 (.st .GFact)] }
noncomputable def f21:FI:={ fid:=21,fn:=Tryz.f21,c:=aj Tryz.f21,ins:={ sl:=[(0, .k (.row 0 14)),(1, .t (.ls (.st .GCounted))),(2, .t (.i .i64)),(3, .t (.i .i64)),(4, .t (.ls (.st .GRate))),(1000000, .k (.row 0 14))],ob:=[.row 61 (.st .GFact)] },out:=.gen ({ sl:=[(1000000, .k (.row 0 14)),(2000000, .tp [.tp [.t (.ls (.st .GEarning)), .t (.i .i64)]])],ob:=[.row 61 (.st .GFact)] }),cuts:=[(250,Jb),(1018,Ei),(64102,BA),(1042842,xo),(65640862,uZ)] }
abbrev Hc:Tm:={ sl:=[(0, .t (.ls (.st .GCounted))),(1, .t (.i .i64)),(2, .t (.i .i64)),(7, .k (.row 0 2)),(8, .t (.i .i64))],ob:=[.row 50 (.st .GSpan)] }
noncomputable def f142:FI:={ fid:=142,fn:=Tryz.f142,c:=aj Tryz.f142,ins:={ sl:=[(0, .t (.ls (.st .GCounted))),(1, .t (.i .i64)),(2, .t (.i .i64))] },out:=.own true 50 (.st .GSpan),cuts:=[(58,Hc)] }
noncomputable def f141:FI:={ fid:=141,fn:=Tryz.f141,c:=aj Tryz.f141,ins:={ sl:=[(0, .t (.ls (.st .GSpan))),(1, .t (.ls (.st .GSpan)))] },out:=.own true 50 (.st .GSpan),cuts:=[] }
abbrev Ns:Tm:={ sl:=[(0, .t (.ls (.st .GFact))),(2, .t (.ls (.st .GCounted))),(3, .t (.i .i64)),(5, .k (.ptr 0 14 0 0)),(9, .t (.i .i64))],ob:=[.box [.t (.st .GFact)]] }
noncomputable def f67:FI:={ fid:=67,fn:=Tryz.f67,c:=aj Tryz.f67,ins:={ sl:=[(0, .t (.ls (.st .GFact))),(1, .t (.st .GFact)),(2, .t (.ls (.st .GCounted))),(3, .t (.i .i64))] },out:=.new (.t (.ls (.st .GSpan))),cuts:=[(15,Ns)] }
abbrev I1:Tm:={ sl:=[(0, .t (.i .i64)),(4, .t (.i .i64))],ob:=[] }
noncomputable def f200:FI:={ fid:=200,fn:=Tryz.f200,c:=aj Tryz.f200,ins:={ sl:=[(0, .t (.i .i64))] },out:=.new (.tp [.t (.i .i64), .t (.i .i64)]),cuts:=[(14,I1)] }
noncomputable def f143:FI:={ fid:=143,fn:=Tryz.f143,c:=aj Tryz.f143,ins:={ sl:=[(0, .t (.i .i64))] },out:=.new (.tp [.t (.i .i64), .t (.i .i64), .t (.i .i64), .t (.b)]),cuts:=[] }
abbrev MP:Tm:={ sl:=[(0, .t (.ls (.st .GSpan))),(4, .t (.i .i64)),(5, .t (.i .i64)),(6, .t (.i .i64))],ob:=[] }
noncomputable def f68:FI:={ fid:=68,fn:=Tryz.f68,c:=aj Tryz.f68,ins:={ sl:=[(0, .t (.ls (.st .GSpan)))] },out:=.new (.tp [.t (.i .i64), .t (.i .i64)]),cuts:=[(58,MP)] }
noncomputable def f69:FI:={ fid:=69,fn:=Tryz.f69,c:=aj Tryz.f69,ins:={ sl:=[(0, .t (.i .i64))] },out:=.new (.tp [.t (.i .i64), .t (.b)]),cuts:=[] }
abbrev HS:Tm:={ sl:=[(3, .t (.i .i64)),(4, .k (.row 0 2)),(5, .t (.i .i64))],ob:=[.row 50 (.st .GSpan)] }
noncomputable def f70:FI:={ fid:=70,fn:=Tryz.f70,c:=aj Tryz.f70,ins:={ sl:=[(0, .t (.ls (.st .GSpan)))] },out:=.new (.t (.i .i64)),cuts:=[(122,HS)] }
noncomputable def f72:FI:={ fid:=72,fn:=Tryz.f72,c:=aj Tryz.f72,ins:={ sl:=[(0, .t (.st .GFact)),(1, .t (.i .i64))] },out:=.new (.t (.i .i64)),cuts:=[] }
noncomputable def f145:FI:={ fid:=145,fn:=Tryz.f145,c:=aj Tryz.f145,ins:={ sl:=[(0, .t (.i .i64))] },out:=.new (.t (.b)),cuts:=[] }
noncomputable def f146:FI:={ fid:=146,fn:=Tryz.f146,c:=aj Tryz.f146,ins:={ sl:=[(0, .t (.i .i64))] },out:=.new (.t (.b)),cuts:=[] }
abbrev Ep:Tm:={ sl:=[(0, .t (.b)),(10, .t (.i .u64)),(13, .t (.i .u64))],ob:=[] }
noncomputable def f148:FI:={ fid:=148,fn:=Tryz.f148,c:=aj Tryz.f148,ins:={ sl:=[(0, .t (.b)),(1, .t (.st .GPensionref1_wide)),(2, .t (.i .u64)),(3, .t (.st .GRounding))] },out:=.new (.tp [.t (.i .i64), .t (.i .i64)]),cuts:=[(255,Ep)] }
abbrev Jw:Tm:={ sl:=[(0, .t (.ls (.st .GRate))),(1, .t (.i .i64)),(2, .t (.i .i64)),(6, .k (.ptr 0 2 0 0)),(8, .t (.i .i64)),(9, .t (.i .i64))],ob:=[.box [.t (.st .GFraction)]] }
noncomputable def f150:FI:={ fid:=150,fn:=Tryz.f150,c:=aj Tryz.f150,ins:={ sl:=[(0, .t (.ls (.st .GRate))),(1, .t (.i .i64)),(2, .t (.i .i64))] },out:=.new (.tp [.t (.st .GFraction), .t (.b)]),cuts:=[(58,Jw)] }
noncomputable def f151:FI:={ fid:=151,fn:=Tryz.f151,c:=aj Tryz.f151,ins:={ sl:=[(0, .t (.i .u64)),(1, .t (.i .u64))] },out:=.new (.t (.st .GPensionref1_wide)),cuts:=[] }
noncomputable def f71:FI:={ fid:=71,fn:=Tryz.f71,c:=aj Tryz.f71,ins:={ sl:=[(0, .t (.i .i64)),(1, .t (.i .i64)),(2, .t (.i .i64)),(3, .t (.i .i64)),(4, .t (.ls (.st .GRate))),(5, .t (.st .GRounding))] },out:=.new (.tp [.t (.i .i64), .t (.i .i64)]),cuts:=[] }
abbrev Hy:Tm:={ sl:=[(0, .k (.row 0 14)),(1, .t (.ls (.st .GCounted))),(2, .t (.i .i64)),(3, .t (.i .i64)),(4, .t (.ls (.st .GRate))),(12, .k (.row 1 1)),(13, .k (.row 2 2)),(14, .t (.i .i64)),(1000000, .k (.row 0 14))],ob:=[.row 61 (.st .GFact), .row 45 (.ls (.st .GSpan)), .row 50 (.st .GSpan)] }
abbrev EC:Tm:={ sl:=[(0, .k (.row 0 14)),(3, .t (.i .i64)),(4, .t (.ls (.st .GRate))),(12, .k (.row 1 1)),(13, .k (.row 2 2)),(16, .k (.row 3 2)),(17, .k (.ptr 4 2 0 0)),(19, .t (.i .i64)),(20, .t (.i .i64)),(1000000, .k (.row 0 14))],ob:=[.row 61 (.st .GFact), .row 45 (.ls (.st .GSpan)), .row 50 (.st .GSpan), .row 58 (.st .GEarning), .box [.t (.st .GRounding)]] }
abbrev yJ:Tm:={ sl:=[(0, .k (.row 0 14)),(3, .t (.i .i64)),(4, .t (.ls (.st .GRate))),(12, .k (.row 1 1)),(13, .k (.row 2 2)),(16, .k (.row 3 2)),(17, .k (.ptr 4 2 0 0)),(19, .t (.i .i64)),(20, .t (.i .i64)),(21, .t (.i .i64)),(23, .t (.i .i64)),(1000000, .k (.row 0 14))],ob:=[.row 61 (.st .GFact), .row 45 (.ls (.st .GSpan)), .row 50 (.st .GSpan), .row 58 (.st .GEarning), .box [.t (.st .GRounding)]] }
abbrev uF:Tm:={ sl:=[(0, .k (.row 0 14)),(3, .t (.i .i64)),(4, .t (.ls (.st .GRate))),(12, .k (.row 1 1)),(13, .k (.row 2 2)),(16, .k (.row 3 2)),(17, .k (.ptr 4 2 0 0)),(19, .t (.i .i64)),(20, .t (.i .i64)),(25, .k (.ptr 5 2 0 0)),(26, .t (.i .i64)),(27, .t (.i .i64)),(1000000, .k (.row 0 14))],ob:=[.row 61 (.st .GFact), .row 45 (.ls (.st .GSpan)), .row 50 (.st .GSpan), .row 58 (.st .GEarning), .box [.t (.st .GRounding)], .box [.t (.st .GSpan)]] }
noncomputable def f22:FI:={ fid:=22,fn:=Tryz.f22,c:=aj Tryz.f22,ins:={ sl:=[(0, .k (.row 0 14)),(1, .t (.ls (.st .GCounted))),(2, .t (.i .i64)),(3, .t (.i .i64)),(4, .t (.ls (.st .GRate))),(1000000, .k (.row 0 14))],ob:=[.row 61 (.st .GFact)] },out:=.gen ({ sl:=[(1000000, .k (.row 0 14)),(2000000, .tp [.tp [.t (.ls (.st .GEarning)), .t (.i .i64)]])],ob:=[.row 61 (.st .GFact)] }),cuts:=[(250,Hy),(4090,EC),(523559,yJ),(33507834,uF)] }
noncomputable def f23:FI:={ fid:=23,fn:=Tryz.f23,c:=aj Tryz.f23,ins:={ sl:=[] },out:=.new (.t (.b)),cuts:=[] }
abbrev Wf:Tm:={ sl:=[(3, .t (.i .i64)),(4, .t (.i .i64)),(13, .k (.ptr 0 3 0 0)),(14, .k (.row 1 14)),(15, .t (.ls (.st .GCounted)))],ob:=[.box [.t (.ls (.st .GState)), .t (.ls (.st .GRules)), .t (.ls (.st .GRate))], .row 61 (.st .GFact)] }
abbrev UR:Tm:={ sl:=[(16, .t (.ls (.st .GEarning))),(18, .t (.ls (.st .GEarning))),(20, .t (.i .i64))],ob:=[] }
noncomputable def f5:FI:={ fid:=5,fn:=Tryz.f5,c:=aj Tryz.f5,ins:={ sl:=[(0, .t (.ls (.st .GPensionhand_Fact))),(1, .t (.ls (.i .i64))),(2, .t (.i .i64)),(3, .t (.i .i64)),(4, .t (.i .i64)),(5, .t (.i .i64))] },out:=.new (.t (.b)),cuts:=[(511,Wf),(32762,UR)] }
abbrev Oi:Tm:={ sl:=[(8, .k (.row 0 14)),(9, .t (.ls (.st .GCounted))),(10, .t (.i .i64))],ob:=[.row 61 (.st .GFact)] }
abbrev Ip:Tm:={ sl:=[(8, .k (.row 0 14)),(9, .t (.ls (.st .GCounted))),(11, .t (.i .i64)),(12, .t (.i .i64)),(13, .t (.i .i64))],ob:=[.row 61 (.st .GFact)] }
abbrev I8:Tm:={ sl:=[(8, .k (.row 0 14)),(11, .t (.i .i64)),(12, .t (.i .i64)),(17, .t (.i .i64))],ob:=[.row 61 (.st .GFact)] }
abbrev A5:Tm:={ sl:=[(8, .k (.row 0 14)),(9, .t (.ls (.st .GCounted))),(11, .t (.i .i64)),(12, .t (.i .i64)),(13, .t (.i .i64)),(14, .t (.ls (.st .GEarning))),(16, .t (.i .i64))],ob:=[.row 61 (.st .GFact)] }
noncomputable def f6:FI:={ fid:=6,fn:=Tryz.f6,c:=aj Tryz.f6,ins:={ sl:=[(0, .t (.ls (.st .GPensionhand_Fact))),(1, .t (.ls (.i .i64))),(2, .t (.i .i64))] },out:=.new (.t (.b)),cuts:=[(506,Oi),(2042,Ip),(4090,I8),(522830,A5)] }
noncomputable def TL:XT→HP f302.ins.tys→Option (HP f302.out.tys):=fun _ (a:ByteArray × Int)=>some (Go.firstIdx a.1 a.2.toNat.toUInt8)
noncomputable def Tb:kM:={ P:=Tryz.prog,fs:=[(92,[f92]),(38,[f38]),(39,[f39]),(167,[f167]),(93,[f93]),(37,[f37]),(259,[f259]),(260,[f260]),(262,[f262]),(261,[f261]),(208,[f208]),(264,[f264]),(258,[f258]),(201,[f201]),(144,[f144]),(265,[f265]),(209,[f209]),(263,[f263]),(205,[f205]),(157,[f157]),(84,[f84]),(162,[f162]),(88,[f88]),(158,[f158]),(85,[f85]),(159,[f159]),(206,[f206]),(207,[f207]),(160,[f160]),(86,[f86]),(149,[f149]),(234,[f234]),(256,[f256]),(192,[f192]),(202,[f202]),(199,[f199]),(168,[f168]),(94,[f94]),(161,[f161]),(87,[f87]),(163,[f163]),(210,[f210]),(211,[f211]),(212,[f212]),(164,[f164]),(269,[f269]),(287,[f287]),(266,[f266]),(288,[f288]),(289,[f289]),(267,[f267]),(213,[f213]),(165,[iR]),(89,[f89]),(90,[f90]),(78,[f78]),(147,[f147]),(214,[f214]),(140,[f140]),(290,[f290]),(268,[f268]),(215,[f215]),(218,[f218]),(219,[f219]),(220,[f220]),(170,[f170]),(166,[f166]),(91,[f91]),(36,[f36]),(9,[f9]),(10,[f10]),(26,[f26]),(25,[f25]),(74,[f74]),(203,[f203]),(152,[f152]),(75,[f75]),(76,[f76]),(204,[rU,f204]),(153,[f153]),(77,[f77]),(27,[f27]),(73,[f73]),(24,[f24]),(19,[f19]),(271,[f271]),(305,[f305]),(304,[f304]),(301,[f301]),(292,[f292]),(293,[f293]),(277,[f277]),(243,[f243]),(28,[f28]),(139,[f139]),(66,[f66]),(181,[f181]),(114,[f114]),(33,[f33]),(245,[f245]),(185,[f185]),(116,[f116]),(183,[f183]),(182,[f182]),(29,[f29]),(154,[f154]),(80,[f80]),(81,[f81]),(31,[f31]),(180,[f180]),(32,[f32]),(111,[f111]),(112,[f112]),(113,[f113]),(55,[f55]),(18,[f18]),(79,[f79]),(30,[f30]),(34,[f34]),(155,[f155]),(83,[f83]),(156,[f156]),(82,[f82]),(35,[f35]),(8,[f8]),(105,[f105]),(50,[f50]),(104,[f104]),(49,[f49]),(106,[f106]),(52,[f52]),(51,[f51]),(107,[f107]),(53,[f53]),(13,[f13]),(278,[f278]),(294,[f294]),(295,[f295]),(279,[f279]),(244,[f244]),(184,[f184]),(115,[f115]),(56,[f56]),(20,[f20]),(117,[f117]),(246,[f246]),(189,[f189]),(126,[f126]),(186,[f186]),(118,[f118]),(188,[f188]),(187,[f187]),(119,[f119]),(120,[f120]),(57,[f57]),(193,[f193]),(196,[f196]),(297,[f297]),(286,[f286]),(257,[f257]),(195,[f195]),(194,[f194]),(197,[f197]),(198,[f198]),(138,[f138]),(101,[f101]),(174,[f174]),(103,[f103]),(121,[f121]),(108,[f108]),(54,[f54]),(122,[f122]),(98,[f98]),(42,[f42]),(223,[f223]),(172,[f172]),(173,[f173]),(102,[f102]),(58,[f58]),(123,[f123]),(124,[f124]),(125,[f125]),(59,[f59]),(131,[f131]),(63,[f63]),(130,[f130]),(62,[f62]),(65,[f65]),(132,[f132]),(133,[f133]),(135,[f135]),(134,[f134]),(136,[f136]),(137,[f137]),(64,[f64]),(21,[f21]),(142,[f142]),(141,[f141]),(67,[f67]),(200,[f200]),(143,[f143]),(68,[f68]),(69,[f69]),(70,[f70]),(72,[f72]),(145,[f145]),(146,[f146]),(148,[f148]),(150,[f150]),(151,[f151]),(71,[f71]),(22,[f22]),(23,[f23]),(5,[f5]),(6,[f6])],sp:=(fun f=>(bif Nat.beq f 302 then .hand f302 TL else (bif Nat.beq f 109 then .mut (fun _=>ua 45 110 50 (.st .GSpan) jZ) else (bif Nat.beq f 61 then .mut (fun _=>Ly 129) else (bif Nat.beq f 60 then .mut (fun _=>CF 129 3) else .none))))) }
theorem ai:jr Tb:=⟨fun f=>(.cnd (.h _) (.cnd (.m _) (.cnd (.m _) (.cnd (.m _) trivial))))⟩
noncomputable def vG (t0:ByteArray) (t1:Int):Option Int:=TL (Xc Tb) (t0,t1)
noncomputable def bH (n:Int):Option ByteArray:=Xf Tb f92 1 f92.ins n
noncomputable def lr (n:Int) (s:ByteArray):Option ByteArray:=Xf Tb f92 28 LW (n,s)
noncomputable def am (n:Int) (m:Int):Option Int:=Xf Tb f38 1 f38.ins (n,m)
noncomputable def ax (n:List Int) (i:Int):Option Int:=Xf Tb f39 1 f39.ins (n,i)
noncomputable def fK (n:Int):Option ByteArray:=Xf Tb f167 1 f167.ins n
noncomputable def lZ (xfrom:ByteArray) (n:List Int) (xat:Int):Option ByteArray:=Xf Tb f93 1 f93.ins (xfrom,n,xat)
noncomputable def fh (n:List Int) (xat:Int) (years:ByteArray) (s:ByteArray):Option ByteArray:=Xf Tb f93 31 NI (n,xat,years,s)
noncomputable def jk (n:List Int) (xat:Int) (years:ByteArray) (s:ByteArray):Option ByteArray:=Xf Tb f93 127 II (n,xat,years,s)
noncomputable def js (n:List Int) (xat:Int) (years:ByteArray) (s:ByteArray):Option ByteArray:=Xf Tb f93 255 Iq (n,xat,years,s)
noncomputable def iV (n:List Int) (xat:Int) (s:ByteArray):Option ByteArray:=Xf Tb f93 8191 Fd (n,xat,s)
noncomputable def ii (n:List Int) (xat:Int) (s:ByteArray):Option ByteArray:=Xf Tb f93 65535 Bf (n,xat,s)
noncomputable def B0 (state:Int) (n:List Int):Option ByteArray:=Xf Tb f37 1 f37.ins (state,n)
noncomputable def od (state:Int) (n:List Int) (s:ByteArray):Option ByteArray:=Xf Tb f37 31 Nv (state,n,s)
noncomputable def JD (s:ByteArray) (xat:Int):Option Int:=Xf Tb f259 1 f259.ins (s,xat)
noncomputable def gi (s:ByteArray) (xat:Int) (comment:Bool):Option Int:=Xf Tb f259 28 H1 (s,xat,comment)
noncomputable def kY (c:Int):Option Bool:=Xf Tb f260 1 f260.ins c
noncomputable def kE (c:Int):Option Bool:=Xf Tb f262 1 f262.ins c
noncomputable def zC (s:ByteArray) (xat:Int) (point:Bool):Option Int:=Xf Tb f261 1 f261.ins (s,xat,point)
noncomputable def hY (s:ByteArray) (xat:Int) (point:Bool) (n:Int):Option Int:=Xf Tb f261 28 Jr (s,xat,point,n)
noncomputable def tG (s:ByteArray):Option (ByteArray × ByteArray × Int × Bool):=Xf Tb f208 1 f208.ins s
noncomputable def jN (s:ByteArray) (dim:Int):Option (ByteArray × ByteArray × Int × Bool):=Xf Tb f208 15 Iu (s,dim)
noncomputable def iE (s:ByteArray) (dim:Int) (xat:Int) (i:Int):Option (ByteArray × ByteArray × Int × Bool):=Xf Tb f208 250 DY (s,dim,xat,i)
noncomputable def lN (dim:Int) (a:ByteArray) (b:ByteArray):Option (ByteArray × ByteArray × Int × Bool):=Xf Tb f208 255 DX (dim,a,b)
noncomputable def kc (dim:Int) (a:ByteArray) (b:ByteArray) (i:Int):Option (ByteArray × ByteArray × Int × Bool):=Xf Tb f208 2042 Cj (dim,a,b,i)
noncomputable def pq (s:ByteArray):Option (Int × Bool):=Xf Tb f264 1 f264.ins s
noncomputable def mJ (s:ByteArray) (n:Int) (i:Int):Option (Int × Bool):=Xf Tb f264 58 I7 (s,n,i)
noncomputable def vN (year:Int):Option Bool:=Xf Tb f258 1 f258.ins year
noncomputable def je (year:Int) (month:Int):Option Int:=Xf Tb f201 1 f201.ins (year,month)
noncomputable def tZ (month:Int):Option Int:=Xf Tb f144 1 f144.ins month
noncomputable def jF (month:Int) (n:Int) (m:Int):Option Int:=Xf Tb f144 58 IR (month,n,m)
noncomputable def D2 (year:Int) (month:Int) (dom:Int):Option (Int × Bool):=Xf Tb f265 1 f265.ins (year,month,dom)
noncomputable def nR (s:ByteArray):Option (Int × Bool):=Xf Tb f209 1 f209.ins s
noncomputable def BY (s:ByteArray) (xat:Int):Option Int:=Xf Tb f263 1 f263.ins (s,xat)
noncomputable def pR (s:ByteArray) (xat:Int):Option Int:=Xf Tb f263 7 LP (s,xat)
noncomputable def bn (t29:Bool):Option Int:=Xf Tb f263 117 EF t29
noncomputable def Bc (s:ByteArray) (xat:Int):Option (GToken × Int × Int):=Xf Tb f205 1 f205.ins (s,xat)
noncomputable def ed (s:ByteArray) (xat:Int) (kind:Int) (n:Int) (ok:Bool) (t4:GToken):Option (GToken × Int × Int):=Xf Tb f205 127 D6 (s,xat,kind,n,ok,t4)
noncomputable def Eh (s:ByteArray):Option (List GToken × Int × Int):=Xf Tb f157 1 f157.ins s
noncomputable def pX (s:ByteArray) (xat:Int) (out:List GToken):Option (List GToken × Int × Int):=Xf Tb f157 62 IS (s,xat,out)
noncomputable def yN (s:ByteArray):Option (Bool × Int × Int × Int × Int × GPensionref5_reader):=Xf Tb f84 1 f84.ins s
noncomputable def fm (r:GPensionref5_reader) (s:ByteArray):Option Bool:=Xf Tb f162 1 f162.ins (r,s)
noncomputable def aN (s:ByteArray) (r:GPensionref5_reader):Option (Bool × GPensionref5_reader):=Xf Tb f88 1 f88.ins (s,r)
noncomputable def bc (r:GPensionref5_reader):Option GPensionref5_reader:=Xf Tb f158 1 f158.ins r
noncomputable def az (s:ByteArray) (r:GPensionref5_reader):Option GPensionref5_reader:=Xf Tb f85 1 f85.ins (s,r)
noncomputable def dw (r:GPensionref5_reader) (k:Int):Option Bool:=Xf Tb f159 1 f159.ins (r,k)
noncomputable def xg (s:ByteArray):Option Bool:=Xf Tb f206 1 f206.ins s
noncomputable def fQ (s:ByteArray) (i:Int):Option Bool:=Xf Tb f206 26 IF (s,i)
noncomputable def uq (s:ByteArray):Option Bool:=Xf Tb f207 1 f207.ins s
noncomputable def av (t4:Bool):Option Bool:=Xf Tb f207 53 IM t4
noncomputable def jc (s:ByteArray):Option Bool:=Xf Tb f160 1 f160.ins s
noncomputable def gZ (r:GPensionref5_reader):Option (ByteArray × GPensionref5_reader):=Xf Tb f86 1 f86.ins r
noncomputable def ek (n:Int):Option Int:=Xf Tb f149 1 f149.ins n
noncomputable def uo (x:Int):Option Int:=Xf Tb f256 1 f256.ins x
noncomputable def iD (hi:Int) (lo:Int) (y:Int):Option (Int × Int):=Xf Tb f192 1 f192.ins (hi,lo,y)
noncomputable def sk (hi:Int) (lo:Int) (y:Int):Option (Int × Int):=Xf Tb f192 7 Ng (hi,lo,y)
noncomputable def p5 (hi:Int) (lo:Int) (y:Int):Option (Int × Int):=Xf Tb f192 15 HZ (hi,lo,y)
noncomputable def vH (y:Int) (s:Int) (yn1:Int) (yn0:Int) (un32:Int) (un1:Int) (un0:Int) (q1:Int) (rhat:Int):Option (Int × Int):=Xf Tb f192 131068 Dz (y,s,yn1,yn0,un32,un1,un0,q1,rhat)
noncomputable def jK (w:GPensionref1_wide) (d:Int):Option (GPensionref1_wide × Int):=Xf Tb f202 1 f202.ins (w,d)
noncomputable def DT (a:Int) (b:Int):Option Int:=Xf Tb f199 1 f199.ins (a,b)
noncomputable def bJ (a:Int) (b:Int):Option Int:=Xf Tb f199 12 I9 (a,b)
noncomputable def w7 (negative:Bool) (n:GPensionref1_wide) (d:Int):Option (GFraction × Int):=Xf Tb f168 1 f168.ins (negative,n,d)
noncomputable def mY (num:Int) (den:Int):Option (GFraction × Int):=Xf Tb f94 1 f94.ins (num,den)
noncomputable def l4 (text:ByteArray):Option (GFraction × Int × Bool):=Xf Tb f161 1 f161.ins text
noncomputable def gk (a:ByteArray) (b:ByteArray) (dim:Int) (num:Int) (den:Int) (i:Int) (t2:GFraction):Option (GFraction × Int × Bool):=Xf Tb f161 250 Eo (a,b,dim,num,den,i,t2)
noncomputable def dI (least:Int) (most:Int) (r:GPensionref5_reader):Option (Int × GPensionref5_reader):=Xf Tb f87 1 f87.ins (least,most,r)
noncomputable def GW (s:ByteArray):Option Int:=Xf Tb f163 1 f163.ins s
noncomputable def wj (s:ByteArray):Option Int:=Xf Tb f210 1 f210.ins s
noncomputable def lW (s:ByteArray):Option Int:=Xf Tb f211 1 f211.ins s
noncomputable def lS (s:ByteArray):Option Int:=Xf Tb f212 1 f212.ins s
noncomputable def gP (what:Int) (r:GPensionref5_reader):Option (Int × GPensionref5_reader):=Xf Tb f164 1 f164.ins (what,r)
noncomputable def sg (op:Int):Option Int:=Xf Tb f269 1 f269.ins op
noncomputable def g9 (op:Int) (r:GPensionref5_reader):Option (GExpr × GPensionref5_reader):=Xf Tb f287 1 f287.ins (op,r)
noncomputable def lX (r:GPensionref5_reader):Option (GExpr × GPensionref5_reader):=Xf Tb f266 1 f266.ins r
noncomputable def z6 (op:Int):Option Int:=Xf Tb f288 1 f288.ins op
noncomputable def cR (t3:Int) (t12:Bool):Option Int:=Xf Tb f288 13823 zo (t3,t12)
noncomputable def wO (op:Int):Option ByteArray:=Xf Tb f289 1 f289.ins op
noncomputable def lR (r:GPensionref5_reader) (n:Int):Option Int:=Xf Tb f267 1 f267.ins (r,n)
noncomputable def dS (r:GPensionref5_reader) (n:Int) (op:Int):Option Int:=Xf Tb f267 26 G4 (r,n,op)
noncomputable def aC (n:Int) (r:GPensionref5_reader):Option (GExpr × GPensionref5_reader):=Xf Tb f213 1 f213.ins (n,r)
noncomputable def fW (n:Int) (r:GPensionref5_reader) (Op:Int) (Value:GFraction) (Dim:Int) (Name:ByteArray) (Op2:Int) (Value2:GFraction) (Dim2:Int) (Name2:ByteArray) (Args:List GExpr):Option (GExpr × GPensionref5_reader):=Xf Tb f213 124 Em (n,r,Op,Value,Dim,Name,Op2,Value2,Dim2,Name2,Args)
noncomputable def mg (r:GPensionref5_reader) (From:Int) (Rounding:GRounding) (Credits:List GCredit) (Series:List GIndex) (Lets:List GLet) (Grants:List GGrant) (Reduces:List GReduce):Option (GPensionref5_reader × Int × GRounding × List GCredit × List GIndex × List GLet × List GGrant × List GReduce):=Xf Tb iR 1 iR.ins (r,From,Rounding,Credits,Series,Lets,Grants,Reduces)
noncomputable def bQ (r:GPensionref5_reader) (From:Int) (Rounding:GRounding) (Credits:List GCredit) (Series:List GIndex) (Lets:List GLet) (Grants:List GGrant) (Reduces:List GReduce):Option (GPensionref5_reader × Int × GRounding × List GCredit × List GIndex × List GLet × List GGrant × List GReduce):=Xf Tb iR 3 EX (r,From,Rounding,Credits,Series,Lets,Grants,Reduces)
noncomputable def fy (r:GPensionref5_reader) (From:Int) (Rounding:GRounding) (c:GCredit) (Credits:List GCredit) (Series:List GIndex) (Lets:List GLet) (Grants:List GGrant) (Reduces:List GReduce):Option (GPensionref5_reader × Int × GRounding × List GCredit × List GIndex × List GLet × List GGrant × List GReduce):=Xf Tb iR 75 A1 (r,From,Rounding,c,Credits,Series,Lets,Grants,Reduces)
noncomputable def dE (r:GPensionref5_reader) (From:Int) (Rounding:GRounding) (x:GIndex) (Credits:List GCredit) (Series:List GIndex) (Lets:List GLet) (Grants:List GGrant) (Reduces:List GReduce):Option (GPensionref5_reader × Int × GRounding × List GCredit × List GIndex × List GLet × List GGrant × List GReduce):=Xf Tb iR 315 zI (r,From,Rounding,x,Credits,Series,Lets,Grants,Reduces)
noncomputable def eW (r:GPensionref5_reader) (From:Int) (Rounding:GRounding) (x:GIndex) (Credits:List GCredit) (Series:List GIndex) (Lets:List GLet) (Grants:List GGrant) (Reduces:List GReduce):Option (GPensionref5_reader × Int × GRounding × List GCredit × List GIndex × List GLet × List GGrant × List GReduce):=Xf Tb iR 631 yW (r,From,Rounding,x,Credits,Series,Lets,Grants,Reduces)
noncomputable def ij (r:GPensionref5_reader):Option (GVersion × GPensionref5_reader):=Xf Tb f89 1 f89.ins r
noncomputable def eY (r:GPensionref5_reader) (From:Int) (Rounding:GRounding) (From2:Int) (Rounding2:GRounding):Option (GVersion × GPensionref5_reader):=Xf Tb f89 31 Ni (r,From,Rounding,From2,Rounding2)
noncomputable def ew (r:GPensionref5_reader) (From:Int) (Rounding:GRounding) (From2:Int) (Rounding2:GRounding) (Credits:List GCredit) (Series:List GIndex) (Lets:List GLet) (Grants:List GGrant) (Reduces:List GReduce):Option (GVersion × GPensionref5_reader):=Xf Tb f89 4092 EG (r,From,Rounding,From2,Rounding2,Credits,Series,Lets,Grants,Reduces)
noncomputable def jz (r:GPensionref5_reader):Option Int:=Xf Tb f90 1 f90.ins r
noncomputable def dy (day:Int):Option Bool:=Xf Tb f78 1 f78.ins day
noncomputable def iJ (r:GRounding):Option Bool:=Xf Tb f147 1 f147.ins r
noncomputable def nk (n:Int) (of:Int):Option ByteArray:=Xf Tb f214 1 f214.ins (n,of)
noncomputable def bW (n:Int) (of:Int) (i:Int) (l:List ByteArray):Option ByteArray:=Xf Tb f214 58 HG (n,of,i,l)
noncomputable def aS (f:GFraction):Option Bool:=Xf Tb f140 1 f140.ins f
noncomputable def nc (n:Int) (least:Int):Option ByteArray:=Xf Tb f290 1 f290.ins (n,least)
noncomputable def lH (n:Int) (least:Int) (s:ByteArray):Option ByteArray:=Xf Tb f290 28 Hr (n,least,s)
noncomputable def lg (a:GFraction):Option ByteArray:=Xf Tb f268 1 f268.ins a
noncomputable def ir (s:ByteArray) (a:GFraction):Option ByteArray:=Xf Tb f268 31 Ii (s,a)
noncomputable def iZ (value:GFraction) (dim:Int):Option (ByteArray × Bool):=Xf Tb f215 1 f215.ins (value,dim)
noncomputable def dx (dim:Int) (s:ByteArray) (rest:Int) (k:Int):Option (ByteArray × Bool):=Xf Tb f215 2042 Bk (dim,s,rest,k)
noncomputable def tO (e:GExpr):Option Int:=Xf Tb f218 1 f218.ins e
noncomputable def mB (n:Int) (i:Int) (Op:Int) (Value:GFraction) (Dim:Int) (Name:ByteArray) (Args:List GExpr):Option Int:=Xf Tb f218 58 HL (n,i,Op,Value,Dim,Name,Args)
noncomputable def vV (e:GExpr):Option Int:=Xf Tb f219 1 f219.ins e
noncomputable def nY (n:Int) (i:Int) (Op:Int) (Value:GFraction) (Dim:Int) (Name:ByteArray) (Args:List GExpr):Option Int:=Xf Tb f219 58 Im (n,i,Op,Value,Dim,Name,Args)
noncomputable def nJ (e:GExpr):Option Bool:=Xf Tb f220 1 f220.ins e
noncomputable def ia (zero:Bool) (i:Int) (Op:Int) (Value:GFraction) (Dim:Int) (Name:ByteArray) (Args:List GExpr):Option Bool:=Xf Tb f220 250 Ev (zero,i,Op,Value,Dim,Name,Args)
noncomputable def ee (e:GExpr):Option Bool:=Xf Tb f170 1 f170.ins e
noncomputable def jo (v:GVersion):Option Bool:=Xf Tb f166 1 f166.ins v
noncomputable def db (i:Int) (From:Int) (Rounding:GRounding) (Credits:List GCredit) (Series:List GIndex) (Lets:List GLet) (Grants:List GGrant) (Reduces:List GReduce):Option Bool:=Xf Tb f166 58 Js (i,From,Rounding,Credits,Series,Lets,Grants,Reduces)
noncomputable def fB (i:Int) (From:Int) (Rounding:GRounding) (Credits:List GCredit) (Series:List GIndex) (Lets:List GLet) (Grants:List GGrant) (Reduces:List GReduce):Option Bool:=Xf Tb f166 122 Ec (i,From,Rounding,Credits,Series,Lets,Grants,Reduces)
noncomputable def fu (i:Int) (From:Int) (Rounding:GRounding) (Credits:List GCredit) (Series:List GIndex) (Lets:List GLet) (Grants:List GGrant) (Reduces:List GReduce):Option Bool:=Xf Tb f166 250 ED (i,From,Rounding,Credits,Series,Lets,Grants,Reduces)
noncomputable def fA (i:Int) (From:Int) (Rounding:GRounding) (Credits:List GCredit) (Series:List GIndex) (Lets:List GLet) (Grants:List GGrant) (Reduces:List GReduce):Option Bool:=Xf Tb f166 506 Ea (i,From,Rounding,Credits,Series,Lets,Grants,Reduces)
noncomputable def eX (i:Int) (From:Int) (Rounding:GRounding) (Credits:List GCredit) (Series:List GIndex) (Lets:List GLet) (Grants:List GGrant) (Reduces:List GReduce):Option Bool:=Xf Tb f166 1018 BG (i,From,Rounding,Credits,Series,Lets,Grants,Reduces)
noncomputable def kx (x:GStatute):Option Bool:=Xf Tb f91 1 f91.ins x
noncomputable def jG (i:Int) (Name:ByteArray) (Currency:Int) (Versions:List GVersion):Option Bool:=Xf Tb f91 58 LR (i,Name,Currency,Versions)
noncomputable def yP (s:ByteArray):Option (GStatute × Int × Int):=Xf Tb f36 1 f36.ins s
noncomputable def fk (first:Bool) (Name:ByteArray) (Currency:Int) (r:GPensionref5_reader) (Name2:ByteArray) (Currency2:Int) (Versions:List GVersion):Option (GStatute × Int × Int):=Xf Tb f36 4090 Ez (first,Name,Currency,r,Name2,Currency2,Versions)
noncomputable def BE (n:List Int):Option GLaws:=Xf Tb f9 1 f9.ins n
noncomputable def kJ (n:List Int) (s:Int) (States:List GState) (Rates:List GRate):Option GLaws:=Xf Tb f9 58 QS (n,s,States,Rates)
noncomputable def su (n:Int) (k:Int):Option Int:=Xf Tb f10 1 f10.ins (n,k)
noncomputable def tY (n:List Int):Option (List GFact):=Xf Tb f26 1 f26.ins n
noncomputable def mH (n:List Int) (p:Int) (out:List GFact):Option (List GFact):=Xf Tb f26 58 M1 (n,p,out)
noncomputable def Aj (l:List GFact) (person:Int):Option (List GFact):=Xf Tb f25 1 f25.ins (l,person)
noncomputable def fH (l:List GFact) (person:Int) (i:Int) (out:List GFact):Option (List GFact):=Xf Tb f25 58 Mk (l,person,i,out)
noncomputable def mR (kind:Int):Option ByteArray:=Xf Tb f74 1 f74.ins kind
noncomputable def zb (kind:Int) (c:Int):Option Bool:=Xf Tb f203 1 f203.ins (kind,c)
noncomputable def fa (c:Int) (s:ByteArray) (i:Int):Option Bool:=Xf Tb f203 58 Ix (c,s,i)
noncomputable def co (kind:Int) (c:Int) (n:Int) (least:Int) (most:Int):Option Bool:=Xf Tb f152 1 f152.ins (kind,c,n,least,most)
noncomputable def fw (f:GFact):Option Bool:=Xf Tb f75 1 f75.ins f
noncomputable def qO (a:GFact) (b:GFact):Option Int:=Xf Tb f76 1 f76.ins (a,b)
noncomputable def br (n:Int) (size:Int) (b:List Int):Option (List Int):=Xf Tb rU 1 rU.ins (n,size,b)
noncomputable def ky (n:Int) (i:Int) (b:List Int):Option (List Int):=Xf Tb rU 26 Cq (n,i,b)
noncomputable def rF (f:GFact):Option (List Int):=Xf Tb f153 1 f153.ins f
noncomputable def lz (gone:Int) (f:GFact):Option (List Int):=Xf Tb f153 31 IG (gone,f)
noncomputable def jx (s:ByteArray) (i:Int) (f:GFact) (b:List Int):Option (List Int):=Xf Tb f153 1018 Bw (s,i,f,b)
noncomputable def cl (s:ByteArray) (i:Int) (f:GFact) (b:List Int):Option (List Int):=Xf Tb f153 8147 BS (s,i,f,b)
noncomputable def oT (a:GFact) (b:GFact):Option Bool:=Xf Tb f77 1 f77.ins (a,b)
noncomputable def kX (a:List GFact) (b:List GFact):Option (List GFact):=Xf Tb f27 1 f27.ins (a,b)
noncomputable def aZ (a:List GFact) (b:List GFact) (i:Int) (out:List GFact):Option (List GFact):=Xf Tb f27 58 L7 (a,b,i,out)
noncomputable def ji (a:List GFact) (b:List GFact) (i:Int) (out:List GFact) (f:GFact):Option (List GFact):=Xf Tb f27 3731 Ey (a,b,i,out,f)
noncomputable def iA (a:List GFact) (b:List GFact) (i:Int) (xat:Int) (out:List GFact) (f:GFact):Option (List GFact):=Xf Tb f27 59708 Cg (a,b,i,xat,out,f)
noncomputable def wJ (n:Int):Option Int:=Xf Tb f73 1 f73.ins n
noncomputable def Bo (r:GPensionhand_Fact):Option GFact:=Xf Tb f24 1 f24.ins r
noncomputable def gM (xfrom:Int) (to:Int) (r:GPensionhand_Fact) (t2:GFact) (f:GFact):Option GFact:=Xf Tb f24 127 Jm (xfrom,to,r,t2,f)
noncomputable def lm (xfrom:Int) (to:Int) (u:ByteArray) (i:Int) (r:GPensionhand_Fact) (t2:GFact) (f:GFact):Option GFact:=Xf Tb f24 2042 EV (xfrom,to,u,i,r,t2,f)
noncomputable def bY (xfrom:Int) (to:Int) (u:ByteArray) (i:Int) (r:GPensionhand_Fact) (t2:GFact) (f:GFact):Option GFact:=Xf Tb f24 16339 Bz (xfrom,to,u,i,r,t2,f)
noncomputable def uv (l:List GPensionhand_Fact) (n:List Int):Option (List GFact):=Xf Tb f19 1 f19.ins (l,n)
noncomputable def ki (l:List GPensionhand_Fact) (n:List Int) (i:Int) (out:List GFact):Option (List GFact):=Xf Tb f19 58 Nl (l,n,i,out)
noncomputable def iH (l:List GPensionhand_Fact) (n:List Int) (i:Int) (out:List GFact) (r:GPensionhand_Fact):Option (List GFact):=Xf Tb f19 7463 Eu (l,n,i,out,r)
noncomputable def tD (name:ByteArray):Option (Int × Bool):=Xf Tb f271 1 f271.ins name
noncomputable def mD (t4:ByteArray) (t5:Bool):Option (Int × Bool):=Xf Tb f271 53 Hg (t4,t5)
noncomputable def dL (t4:ByteArray) (t9:Bool):Option (Int × Bool):=Xf Tb f271 215 DM (t4,t9)
noncomputable def rD (op:Int) (d:List Int):Option Int:=Xf Tb f305 1 f305.ins (op,d)
noncomputable def tS (e:GExpr) (env:List GBinding):Option (Int × Int):=Xf Tb f304 1 f304.ins (e,env)
noncomputable def lM (env:List GBinding) (i:Int) (Op:Int) (Value:GFraction) (Dim:Int) (Name:ByteArray) (Args:List GExpr) (d:List Int):Option (Int × Int):=Xf Tb f304 122 DO (env,i,Op,Value,Dim,Name,Args,d)
noncomputable def ju (env:List GBinding) (i:Int) (Op:Int) (Value:GFraction) (Dim:Int) (Name:ByteArray) (Args:List GExpr):Option (Int × Int):=Xf Tb f304 27626 yI (env,i,Op,Value,Dim,Name,Args)
noncomputable def pV (e:GExpr) (env:List GBinding):Option (Int × Int):=Xf Tb f301 1 f301.ins (e,env)
noncomputable def mx (env:List GBinding) (i:Int) (Op:Int) (Value:GFraction) (Dim:Int) (Name:ByteArray) (Args:List GExpr):Option (Int × Int):=Xf Tb f301 58 Hd (env,i,Op,Value,Dim,Name,Args)
noncomputable def A6 (l:List GLet):Option (List GBinding × Int):=Xf Tb f292 1 f292.ins l
noncomputable def jI (l:List GLet) (i:Int) (out:List GBinding):Option (List GBinding × Int):=Xf Tb f292 122 EK (l,i,out)
noncomputable def j7 (l:List GLet) (i:Int) (k:Int) (t31:List GLet) (t32:Int) (t35:ByteArray) (t36:Bool) (t37:Bool) (out:List GBinding):Option (List GBinding × Int):=Xf Tb f292 31306 zA (l,i,k,t31,t32,t35,t36,t37,out)
noncomputable def pF (e:GExpr) (env:List GBinding) (dim:Int):Option Int:=Xf Tb f293 1 f293.ins (e,env,dim)
noncomputable def uz (v:GVersion):Option Int:=Xf Tb f277 1 f277.ins v
noncomputable def jv (env:List GBinding) (i:Int) (From:Int) (Rounding:GRounding) (Credits:List GCredit) (Series:List GIndex) (Lets:List GLet) (Grants:List GGrant) (Reduces:List GReduce):Option Int:=Xf Tb f277 122 Eb (env,i,From,Rounding,Credits,Series,Lets,Grants,Reduces)
noncomputable def jy (env:List GBinding) (i:Int) (From:Int) (Rounding:GRounding) (Credits:List GCredit) (Series:List GIndex) (Lets:List GLet) (Grants:List GGrant) (Reduces:List GReduce):Option Int:=Xf Tb f277 250 Ej (env,i,From,Rounding,Credits,Series,Lets,Grants,Reduces)
noncomputable def jm (env:List GBinding) (i:Int) (From:Int) (Rounding:GRounding) (Credits:List GCredit) (Series:List GIndex) (Lets:List GLet) (Grants:List GGrant) (Reduces:List GReduce):Option Int:=Xf Tb f277 506 E7 (env,i,From,Rounding,Credits,Series,Lets,Grants,Reduces)
noncomputable def iX (env:List GBinding) (i:Int) (From:Int) (Rounding:GRounding) (Credits:List GCredit) (Series:List GIndex) (Lets:List GLet) (Grants:List GGrant) (Reduces:List GReduce):Option Int:=Xf Tb f277 1018 BI (env,i,From,Rounding,Credits,Series,Lets,Grants,Reduces)
noncomputable def iW (env:List GBinding) (i:Int) (k:Int) (From:Int) (Rounding:GRounding) (Credits:List GCredit) (Series:List GIndex) (Lets:List GLet) (Grants:List GGrant) (Reduces:List GReduce):Option Int:=Xf Tb f277 7826 BW (env,i,k,From,Rounding,Credits,Series,Lets,Grants,Reduces)
noncomputable def iq (env:List GBinding) (i:Int) (k:Int) (From:Int) (Rounding:GRounding) (Credits:List GCredit) (Series:List GIndex) (Lets:List GLet) (Grants:List GGrant) (Reduces:List GReduce):Option Int:=Xf Tb f277 64802 zi (env,i,k,From,Rounding,Credits,Series,Lets,Grants,Reduces)
noncomputable def gu (env:List GBinding) (i:Int) (k:Int) (From:Int) (Rounding:GRounding) (Credits:List GCredit) (Series:List GIndex) (Lets:List GLet) (Grants:List GGrant) (Reduces:List GReduce):Option Int:=Xf Tb f277 130338 xj (env,i,k,From,Rounding,Credits,Series,Lets,Grants,Reduces)
noncomputable def uQ (x:GStatute):Option (Int × Int):=Xf Tb f243 1 f243.ins x
noncomputable def kw (i:Int) (Name:ByteArray) (Currency:Int) (Versions:List GVersion):Option (Int × Int):=Xf Tb f243 58 IY (i,Name,Currency,Versions)
noncomputable def no (t:List GRules):Option Int:=Xf Tb f28 1 f28.ins t
noncomputable def kA (t:List GRules) (i:Int):Option Int:=Xf Tb f28 122 HT (t,i)
noncomputable def iw (t:List GRules) (i:Int) (k:Int) (r:GRules):Option Int:=Xf Tb f28 31310 Bx (t,i,k,r)
noncomputable def dO (month:Int):Option Bool:=Xf Tb f139 1 f139.ins month
noncomputable def dN (t:List GRate):Option Int:=Xf Tb f66 1 f66.ins t
noncomputable def bN (t:List GRate) (i:Int):Option Int:=Xf Tb f66 58 N8 (t,i)
noncomputable def wv (x:GLaws):Option Int:=Xf Tb f181 1 f181.ins x
noncomputable def io (i:Int) (States:List GState) (Treaty:List GRules) (Rates:List GRate):Option Int:=Xf Tb f181 26 I4 (i,States,Treaty,Rates)
noncomputable def il (i:Int) (States:List GState) (Treaty:List GRules) (Rates:List GRate):Option Int:=Xf Tb f181 58 Ht (i,States,Treaty,Rates)
noncomputable def xh (x:GLaws) (day:Int):Option Int:=Xf Tb f114 1 f114.ins (x,day)
noncomputable def kO (t:List GRules) (day:Int):Option (GRules × Bool):=Xf Tb f33 1 f33.ins (t,day)
noncomputable def gm (t:List GRules) (day:Int) (i:Int) (t4:GRules):Option (GRules × Bool):=Xf Tb f33 26 Mq (t,day,i,t4)
noncomputable def Kq (l:List Int) (n:Int):Option Bool:=Xf Tb f245 1 f245.ins (l,n)
noncomputable def n8 (l:List Int) (n:Int) (i:Int):Option Bool:=Xf Tb f245 26 HM (l,n,i)
noncomputable def uf (t:List GRules) (state:Int) (day:Int):Option Bool:=Xf Tb f185 1 f185.ins (t,state,day)
noncomputable def sW (x:GLaws) (day:Int):Option (List Int):=Xf Tb f116 1 f116.ins (x,day)
noncomputable def gn (day:Int) (i:Int) (States:List GState) (Treaty:List GRules) (Rates:List GRate) (out:List Int):Option (List Int):=Xf Tb f116 58 HO (day,i,States,Treaty,Rates,out)
noncomputable def wF (x:GLaws) (state:Int):Option Int:=Xf Tb f183 1 f183.ins (x,state)
noncomputable def lG (state:Int) (i:Int) (States:List GState) (Treaty:List GRules) (Rates:List GRate):Option Int:=Xf Tb f183 26 ID (state,i,States,Treaty,Rates)
noncomputable def Jh (x:GStatute) (day:Int):Option (GVersion × Bool):=Xf Tb f182 1 f182.ins (x,day)
noncomputable def qW (day:Int) (i:Int) (Name:ByteArray) (Currency:Int) (Versions:List GVersion) (From:Int) (Rounding:GRounding):Option (GVersion × Bool):=Xf Tb f182 58 H5 (day,i,Name,Currency,Versions,From,Rounding)
noncomputable def eQ (l:List GFact):Option (List GFact):=Xf Tb f29 1 f29.ins l
noncomputable def cN (l:List GFact) (i:Int) (out:List GFact):Option (List GFact):=Xf Tb f29 58 Mz (l,i,out)
noncomputable def rB (l:List GFact) (kind:Int):Option (Int × Bool):=Xf Tb f154 1 f154.ins (l,kind)
noncomputable def dj (kind:Int) (day:Int) (ok:Bool) (i:Int) (c:List GFact):Option (Int × Bool):=Xf Tb f154 122 EL (kind,day,ok,i,c)
noncomputable def wX (l:List GFact):Option (Int × Bool):=Xf Tb f80 1 f80.ins l
noncomputable def wY (l:List GFact):Option (Int × Bool):=Xf Tb f81 1 f81.ins l
noncomputable def iB (l:List GFact):Option GSpan:=Xf Tb f31 1 f31.ins l
noncomputable def uh (s:GSpan):Option (GSpan × Bool):=Xf Tb f180 1 f180.ins s
noncomputable def bT (l:List Int) (n:Int):Option (List Int):=Xf Tb f32 1 f32.ins (l,n)
noncomputable def jJ (l:List Int) (n:Int) (xat:Int):Option (List Int):=Xf Tb f32 28 M6 (l,n,xat)
noncomputable def yD (lists:List (List GSpan)):Option (List Int):=Xf Tb f111 1 f111.ins lists
noncomputable def fc (lists:List (List GSpan)) (out:List Int) (i:Int):Option (List Int):=Xf Tb f111 58 Hv (lists,out,i)
noncomputable def dt (lists:List (List GSpan)) (out:List Int) (i:Int) (k:Int):Option (List Int):=Xf Tb f111 3730 Cm (lists,out,i,k)
noncomputable def nQ (l:List GSpan) (day:Int):Option Bool:=Xf Tb f112 1 f112.ins (l,day)
noncomputable def cg (l:List GSpan) (day:Int) (i:Int):Option Bool:=Xf Tb f112 26 IU (l,day,i)
noncomputable def ES (l:List GSpan) (s:GSpan):Option (List GSpan):=Xf Tb f113 1 f113.ins (l,s)
noncomputable def mj (a:List GSpan) (b:List GSpan) (kind:Int):Option (List GSpan):=Xf Tb f55 1 f55.ins (a,b,kind)
noncomputable def ce (a:List GSpan) (b:List GSpan) (kind:Int) (e:List Int) (i:Int) (out:List GSpan):Option (List GSpan):=Xf Tb f55 122 Hp (a,b,kind,e,i,out)
noncomputable def gK (l:List GSpan) (s:GSpan):Option (List GSpan):=Xf Tb f18 1 f18.ins (l,s)
noncomputable def uk (l:List GPosting) (p:GPosting):Option (List GPosting):=Xf Tb f79 1 f79.ins (l,p)
noncomputable def kC (l:List GPosting) (xat:Int) (p:GPosting):Option (List GPosting):=Xf Tb f79 28 N4 (l,xat,p)
noncomputable def qS (l:List GFact):Option (List GPosting):=Xf Tb f30 1 f30.ins l
noncomputable def e8 (l:List GFact) (seat:Int) (c:List GFact) (out:List GPosting):Option (List GPosting):=Xf Tb f30 122 It (l,seat,c,out)
noncomputable def cF (l:List GFact) (seat:Int) (state:Int) (c:List GFact) (out:List GPosting):Option (List GPosting):=Xf Tb f30 7826 DN (l,seat,state,c,out)
noncomputable def cz (l:List GFact) (seat:Int) (state:Int) (i:Int) (c:List GFact) (out:List GPosting) (s:List GSpan):Option (List GPosting):=Xf Tb f30 2003530 xd (l,seat,state,i,c,out,s)
noncomputable def eV (l:List GFact) (seat:Int) (state:Int) (i:Int) (c:List GFact) (out:List GPosting) (s:List GSpan):Option (List GPosting):=Xf Tb f30 4007070 wQ (l,seat,state,i,c,out,s)
noncomputable def gU (s:GSpan) (day:Int):Option Bool:=Xf Tb f34 1 f34.ins (s,day)
noncomputable def ur (c:List GFact) (day:Int):Option (List Int):=Xf Tb f155 1 f155.ins (c,day)
noncomputable def du (c:List GFact) (day:Int) (i:Int) (t4:List Int) (out:List Int):Option (List Int):=Xf Tb f155 58 Ir (c,day,i,t4,out)
noncomputable def lC (l:List GFact) (day:Int):Option (Int × Bool):=Xf Tb f83 1 f83.ins (l,day)
noncomputable def cD (l:List GFact) (day:Int) (xat:Int) (i:Int) (c:List GFact):Option (Int × Bool):=Xf Tb f83 122 I6 (l,day,xat,i,c)
noncomputable def xb (c:List GFact) (day:Int):Option (List Int):=Xf Tb f156 1 f156.ins (c,day)
noncomputable def fR (c:List GFact) (day:Int) (out:List Int) (i:Int):Option (List Int):=Xf Tb f156 58 H6 (c,day,out,i)
noncomputable def qB (l:List GFact) (c:List GFact) (r:GRules) (day:Int):Option (Int × Bool):=Xf Tb f82 1 f82.ins (l,c,r,day)
noncomputable def cT (l:List GFact) (c:List GFact) (day:Int) (sum:Int) (n:Int) (best:Int) (i:Int) (r:GRules) (s:List Int):Option (Int × Bool):=Xf Tb f82 122 HX (l,c,day,sum,n,best,i,r,s)
noncomputable def Be (l:List GFact) (c:List GFact) (p:List GPosting) (r:GRules) (day:Int):Option (Int × Int):=Xf Tb f35 1 f35.ins (l,c,p,r,day)
noncomputable def fZ (l:List GFact) (c:List GFact) (p:List GPosting) (day:Int) (best:Int) (i:Int) (r:GRules):Option (Int × Int):=Xf Tb f35 58 No (l,c,p,day,best,i,r)
noncomputable def fg (l:List GFact) (c:List GFact) (day:Int) (best:Int) (i:Int) (r:GRules):Option (Int × Int):=Xf Tb f35 250 IA (l,c,day,best,i,r)
noncomputable def bm (l:List GFact) (c:List GFact) (day:Int) (best:Int) (i:Int):Option (Int × Int):=Xf Tb f35 2042 Fc (l,c,day,best,i)
noncomputable def v7 (l:List GFact) (t:List GRules):Option (List GSegment):=Xf Tb f8 1 f8.ins (l,t)
noncomputable def mF (l:List GFact) (t:List GRules) (e:List Int) (i:Int) (c:List GFact) (p:List GPosting) (life:GSpan):Option (List GSegment):=Xf Tb f8 250 M5 (l,t,e,i,c,p,life)
noncomputable def gQ (l:List GFact) (t:List GRules) (e:List Int) (i:Int) (c:List GFact) (p:List GPosting) (life:GSpan):Option (List GSegment):=Xf Tb f8 506 Mv (l,t,e,i,c,p,life)
noncomputable def iS (l:List GFact) (t:List GRules) (e:List Int) (k:Int) (c:List GFact) (p:List GPosting) (life:GSpan):Option (List GSegment):=Xf Tb f8 1018 Jv (l,t,e,k,c,p,life)
noncomputable def cn (l:List GFact) (t:List GRules) (e:List Int) (i:Int) (c:List GFact) (p:List GPosting) (life:GSpan) (out:List GSegment):Option (List GSegment):=Xf Tb f8 4090 Hh (l,t,e,i,c,p,life,out)
noncomputable def ka (l:List GFact) (t:List GRules) (e:List Int) (i:Int) (k:Int) (c:List GFact) (p:List GPosting) (life:GSpan):Option (List GSegment):=Xf Tb f8 64806 EY (l,t,e,i,k,c,p,life)
noncomputable def fe (l:List GSpan):Option (List GSpan):=Xf Tb f105 1 f105.ins l
noncomputable def wP (law:List GSegment) (state:Int) (rule:Int):Option (List GSpan):=Xf Tb f50 1 f50.ins (law,state,rule)
noncomputable def dP (law:List GSegment) (state:Int) (rule:Int) (i:Int) (out:List GSpan):Option (List GSpan):=Xf Tb f50 58 M0 (law,state,rule,i,out)
noncomputable def xi (l:List GSpan) (n:Int):Option (List GSpan):=Xf Tb f104 1 f104.ins (l,n)
noncomputable def kq (n:Int) (i:Int) (out:List GSpan) (m:List GSpan):Option (List GSpan):=Xf Tb f104 122 Fa (n,i,out,m)
noncomputable def kP (l:List GSpan) (before:Int) (limit:Int):Option (List GSpan):=Xf Tb f49 1 f49.ins (l,before,limit)
noncomputable def dA (kind:Int):Option Int:=Xf Tb f106 1 f106.ins kind
noncomputable def dv (rank:Int):Option Int:=Xf Tb f52 1 f52.ins rank
noncomputable def gW (rank:Int) (k:Int):Option Int:=Xf Tb f52 26 Ox (rank,k)
noncomputable def w9 (v:GVersion) (kind:Int):Option (Int × Bool):=Xf Tb f51 1 f51.ins (v,kind)
noncomputable def lv (kind:Int) (i:Int) (From:Int) (Rounding:GRounding) (Credits:List GCredit) (Series:List GIndex) (Lets:List GLet) (Grants:List GGrant) (Reduces:List GReduce):Option (Int × Bool):=Xf Tb f51 26 Mm (kind,i,From,Rounding,Credits,Series,Lets,Grants,Reduces)
noncomputable def xl (l:List GFact) (kind:Int) (state:Int):Option (List GSpan):=Xf Tb f107 1 f107.ins (l,kind,state)
noncomputable def dq (l:List GFact) (kind:Int) (state:Int) (i:Int) (c:List GFact) (out:List GSpan):Option (List GSpan):=Xf Tb f107 122 E6 (l,kind,state,i,c,out)
noncomputable def qL (l:List GFact) (kind:Int) (state:Int) (before:Int) (limit:Int):Option (List GSpan):=Xf Tb f53 1 f53.ins (l,kind,state,before,limit)
noncomputable def ca (l:List GFact) (state:Int) (before:Int) (limit:Int) (ref:Int) (c:List GFact) (out:List GSpan):Option (List GSpan):=Xf Tb f53 250 Ic (l,state,before,limit,ref,c,out)
noncomputable def bz (l:List GFact) (state:Int) (before:Int) (limit:Int) (ref:Int) (i:Int) (c:List GFact) (out:List GSpan) (one:List GSpan):Option (List GSpan):=Xf Tb f53 64074 Bq (l,state,before,limit,ref,i,c,out,one)
noncomputable def pC (l:List GFact) (law:List GSegment) (schemes:List GScheme) (before:Int):Option (List GPeriod × Int):=Xf Tb f13 1 f13.ins (l,law,schemes,before)
noncomputable def e9 (l:List GFact) (law:List GSegment) (schemes:List GScheme) (before:Int) (i:Int):Option (List GPeriod × Int):=Xf Tb f13 58 Ou (l,law,schemes,before,i)
noncomputable def cO (l:List GFact) (law:List GSegment) (schemes:List GScheme) (before:Int) (i:Int) (out:List GPeriod):Option (List GPeriod × Int):=Xf Tb f13 250 Iw (l,law,schemes,before,i,out)
noncomputable def bO (l:List GFact) (law:List GSegment) (schemes:List GScheme) (before:Int) (i:Int) (s:Int) (rank:Int) (out:List GPeriod):Option (List GPeriod × Int):=Xf Tb f13 32038 B8 (l,law,schemes,before,i,s,rank,out)
noncomputable def bw (l:List GFact) (law:List GSegment) (schemes:List GScheme) (before:Int) (i:Int) (s:Int) (rank:Int) (k:Int) (out:List GPeriod) (d:List GSpan):Option (List GPeriod × Int):=Xf Tb f13 8201806 xr (l,law,schemes,before,i,s,rank,k,out,d)
noncomputable def wL (claims:List GPeriod) (state:Int) (rank:Int) (day:Int):Option Bool:=Xf Tb f278 1 f278.ins (claims,state,rank,day)
noncomputable def lx (claims:List GPeriod) (state:Int) (rank:Int) (day:Int) (i:Int):Option Bool:=Xf Tb f278 26 Ja (claims,state,rank,day,i)
noncomputable def pG (claims:List GPeriod) (state:Int) (day:Int):Option Int:=Xf Tb f294 1 f294.ins (claims,state,day)
noncomputable def gT (claims:List GPeriod) (state:Int) (day:Int) (best:Int) (i:Int):Option Int:=Xf Tb f294 58 HN (claims,state,day,best,i)
noncomputable def ry (claims:List GPeriod) (state:Int) (day:Int):Option Int:=Xf Tb f295 1 f295.ins (claims,state,day)
noncomputable def iT (claims:List GPeriod) (state:Int) (day:Int) (best:Int) (i:Int):Option Int:=Xf Tb f295 58 H4 (claims,state,day,best,i)
noncomputable def uK (claims:List GPeriod) (s:Int) (b:Int) (day:Int):Option Bool:=Xf Tb f279 1 f279.ins (claims,s,b,day)
noncomputable def oR (claims:List GPeriod) (day:Int):Option (Int × Int × Bool):=Xf Tb f244 1 f244.ins (claims,day)
noncomputable def ig (claims:List GPeriod) (day:Int) (rank:Int):Option (Int × Int × Bool):=Xf Tb f244 58 Hm (claims,day,rank)
noncomputable def bZ (claims:List GPeriod) (day:Int) (rank:Int) (best:Int) (s:Int):Option (Int × Int × Bool):=Xf Tb f244 14922 zY (claims,day,rank,best,s)
noncomputable def nU (claims:List GPeriod):Option (List GCounted):=Xf Tb f184 1 f184.ins claims
noncomputable def eL (claims:List GPeriod) (e:List Int) (i:Int):Option (List GCounted):=Xf Tb f184 58 IV (claims,e,i)
noncomputable def ct (claims:List GPeriod) (e:List Int) (i:Int) (out:List GCounted):Option (List GCounted):=Xf Tb f184 250 Ed (claims,e,i,out)
noncomputable def gF (claims:List GPeriod) (e:List Int) (i:Int) (s:GSpan):Option (List GCounted):=Xf Tb f184 14927 zG (claims,e,i,s)
noncomputable def gx (claims:List GPeriod) (e:List Int) (i:Int) (s:GSpan):Option (List GCounted):=Xf Tb f184 29855 yC (claims,e,i,s)
noncomputable def qR (x:GLaws) (l:List GFact) (states:List Int) (day:Int):Option (List GCounted):=Xf Tb f115 1 f115.ins (x,l,states,day)
noncomputable def iM (l:List GFact) (states:List Int) (day:Int) (i:Int) (States:List GState) (Treaty:List GRules) (Rates:List GRate) (schemes:List GScheme):Option (List GCounted):=Xf Tb f115 58 Hq (l,states,day,i,States,Treaty,Rates,schemes)
noncomputable def gq (x:GLaws) (l:List GFact) (day:Int):Option (List GCounted × Int):=Xf Tb f56 1 f56.ins (x,l,day)
noncomputable def sI (x:GLaws) (day:Int) (a:List GFact):Option (List GCounted × List GFact):=Xf Tb f20 1 f20.ins (x,day,a)
noncomputable def em (x:Int):Option Bool:=Xf Tb f117 1 f117.ins x
noncomputable def p9 (month:Int):Option Bool:=Xf Tb f246 1 f246.ins month
noncomputable def n9 (year:Int):Option Bool:=Xf Tb f189 1 f189.ins year
noncomputable def cB (year:Int) (month:Int):Option Int:=Xf Tb f126 1 f126.ins (year,month)
noncomputable def sA (month:Int):Option Int:=Xf Tb f186 1 f186.ins month
noncomputable def gJ (x:Int):Option Bool:=Xf Tb f118 1 f118.ins x
noncomputable def cH (x:Int):Option Int:=Xf Tb f188 1 f188.ins x
noncomputable def BL (a:Int) (b:Int):Option Int:=Xf Tb f187 1 f187.ins (a,b)
noncomputable def be (a:Int) (b:Int):Option Int:=Xf Tb f187 12 Jg (a,b)
noncomputable def cK (f:GFraction):Option Bool:=Xf Tb f119 1 f119.ins f
noncomputable def dU (x:Int):Option Bool:=Xf Tb f120 1 f120.ins x
noncomputable def fb (t:List GRate):Option Int:=Xf Tb f57 1 f57.ins t
noncomputable def bF (t:List GRate) (t8:List GRate) (t9:Int) (t10:Int):Option Int:=Xf Tb f57 58 Np (t,t8,t9,t10)
noncomputable def Bv (kind:Int):Option ByteArray:=Xf Tb f193 1 f193.ins kind
noncomputable def qI (t3:Int) (t6:Bool):Option ByteArray:=Xf Tb f193 215 Fb (t3,t6)
noncomputable def i6 (t3:Int) (t11:Bool):Option ByteArray:=Xf Tb f193 3455 Br (t3,t11)
noncomputable def jA (t3:Int) (t20:Bool):Option ByteArray:=Xf Tb f193 221183 wA (t3,t20)
noncomputable def i8 (x:Int) (low:Int) (high:Int):Option Bool:=Xf Tb f196 1 f196.ins (x,low,high)
noncomputable def oz (s:ByteArray) (c:Int):Option Int:=Xf Tb f297 1 f297.ins (s,c)
noncomputable def td (s:ByteArray) (substr:ByteArray):Option Int:=Xf Tb f286 1 f286.ins (s,substr)
noncomputable def Ap (s:ByteArray) (substr:ByteArray):Option Int:=Xf Tb f257 1 f257.ins (s,substr)
noncomputable def uy (s:ByteArray) (substr:ByteArray):Option Bool:=Xf Tb f195 1 f195.ins (s,substr)
noncomputable def bM (letter:ByteArray) (t1:ByteArray):Option Bool:=Xf Tb f194 1 f194.ins (letter,t1)
noncomputable def cG (used:Bool) (x:Int) (low:Int) (high:Int):Option Bool:=Xf Tb f197 1 f197.ins (used,x,low,high)
noncomputable def qQ (s:GSpan):Option Bool:=Xf Tb f198 1 f198.ins s
noncomputable def tH (f:GFact):Option Bool:=Xf Tb f138 1 f138.ins f
noncomputable def hU (t89:Int) (t97:Bool) (f:GFact):Option Bool:=Xf Tb f138 2007 BU (t89,t97,f)
noncomputable def mM (f:GFact):Option Bool:=Xf Tb f101 1 f101.ins f
noncomputable def Am (l:List GFact):Option (List GFact):=Xf Tb f174 1 f174.ins l
noncomputable def cf (t8:List GFact) (t9:Int) (t10:Int) (out:List GFact):Option (List GFact):=Xf Tb f174 58 Io (t8,t9,t10,out)
noncomputable def qC (l:List GFact):Option (List GFact):=Xf Tb f103 1 f103.ins l
noncomputable def sJ (f:GFact) (state:Int):Option Int:=Xf Tb f121 1 f121.ins (f,state)
noncomputable def wC (s:GSpan):Option GSpan:=Xf Tb f108 1 f108.ins s
noncomputable def mv (l:List GSpan):Option (List GSpan):=Xf Tb f54 1 f54.ins l
noncomputable def ea (t10:List GSpan) (t11:Int) (t12:Int) (sorted:List GSpan):Option (List GSpan):=Xf Tb f54 58 Oj (t10,t11,t12,sorted)
noncomputable def dK (t33:Int) (t34:Int) (out:List GSpan) (t32:List GSpan):Option (List GSpan):=Xf Tb f54 506 IQ (t33,t34,out,t32)
noncomputable def zl (l:List GCounted) (state:Int) (rank:Int):Option (List GSpan):=Xf Tb f122 1 f122.ins (l,state,rank)
noncomputable def eh (state:Int) (rank:Int) (t10:List GCounted) (t11:Int) (t12:Int) (out:List GSpan):Option (List GSpan):=Xf Tb f122 58 Id (state,rank,t10,t11,t12,out)
noncomputable def vL (a:List GSpan) (b:List GSpan):Option (List GSpan):=Xf Tb f98 1 f98.ins (a,b)
noncomputable def bG (i:Int) (j:Int) (a:List GSpan) (b:List GSpan) (out:List GSpan):Option (List GSpan):=Xf Tb f98 122 HR (i,j,a,b,out)
noncomputable def jC (i:Int) (j:Int) (a:List GSpan) (b:List GSpan) (out:List GSpan):Option (List GSpan):=Xf Tb f98 3915 DH (i,j,a,b,out)
noncomputable def o0 (l:List GSpan) (s:GSpan):Option (List GSpan):=Xf Tb f42 1 f42.ins (l,s)
noncomputable def pK (l:List GFact) (kind:Int):Option (Int × Bool):=Xf Tb f223 1 f223.ins (l,kind)
noncomputable def dm (kind:Int) (day:Int) (ok:Bool) (t10:List GFact) (t11:Int) (t12:Int):Option (Int × Bool):=Xf Tb f223 58 HQ (kind,day,ok,t10,t11,t12)
noncomputable def vo (l:List GFact):Option (Int × Bool):=Xf Tb f172 1 f172.ins l
noncomputable def uG (l:List GFact):Option (Int × Bool):=Xf Tb f173 1 f173.ins l
noncomputable def wT (l:List GFact):Option GSpan:=Xf Tb f102 1 f102.ins l
noncomputable def oe (counted:List GCounted) (state:Int) (l:List GFact):Option (List GFact × List GEarnings_income):=Xf Tb f58 1 f58.ins (counted,state,l)
noncomputable def bC (counted:List GCounted) (state:Int) (t14:Int) (t15:Int) (l:List GFact) (out:List GEarnings_income) (t13:List GFact):Option (List GFact × List GEarnings_income):=Xf Tb f58 58 LZ (counted,state,t14,t15,l,out,t13)
noncomputable def xI (day:Int):Option Bool:=Xf Tb f123 1 f123.ins day
noncomputable def fG (year:Int):Option Int:=Xf Tb f124 1 f124.ins year
noncomputable def lc (year:Int):Option Int:=Xf Tb f125 1 f125.ins year
noncomputable def oc (day:Int):Option (Int × Int × Int × Bool):=Xf Tb f59 1 f59.ins day
noncomputable def jj (day:Int) (year:Int):Option (Int × Int × Int × Bool):=Xf Tb f59 60 NW (day,year)
noncomputable def iF (year:Int) (month:Int) (rest:Int):Option (Int × Int × Int × Bool):=Xf Tb f59 508 G5 (year,month,rest)
noncomputable def md (year:Int) (month:Int) (dom:Int):Option (Int × Bool):=Xf Tb f131 1 f131.ins (year,month,dom)
noncomputable def jl (year:Int) (month:Int) (day:Int) (m:Int):Option (Int × Bool):=Xf Tb f131 122 DG (year,month,day,m)
noncomputable def sH (y:Int):Option GSpan:=Xf Tb f63 1 f63.ins y
noncomputable def Cf (l:List GSpan) (day:Int):Option Int:=Xf Tb f130 1 f130.ins (l,day)
noncomputable def cC (day:Int) (n:Int) (t10:Int) (t11:Int) (t9:List GSpan):Option Int:=Xf Tb f130 58 Jl (day,n,t10,t11,t9)
noncomputable def tC (l:List GSpan):Option Int:=Xf Tb f62 1 f62.ins l
noncomputable def nZ (f:GFact) (days:Int):Option Int:=Xf Tb f65 1 f65.ins (f,days)
noncomputable def BO (x:Int):Option Bool:=Xf Tb f132 1 f132.ins x
noncomputable def la (r:GRounding):Option Bool:=Xf Tb f133 1 f133.ins r
noncomputable def cy (t5:Bool) (r:GRounding):Option Bool:=Xf Tb f133 53 IH (t5,r)
noncomputable def tT (x:Int):Option Int:=Xf Tb f135 1 f135.ins x
noncomputable def pk (negative:Bool) (hi:Int) (lo:Int) (den:Int) (r:GRounding):Option (Int × Int):=Xf Tb f134 1 f134.ins (negative,hi,lo,den,r)
noncomputable def jt (d:Int) (rest:Int) (k:Int) (r:GRounding):Option (Int × Int):=Xf Tb f134 255 ER (d,rest,k,r)
noncomputable def fO (k:Int) (up:Bool) (r:GRounding):Option (Int × Int):=Xf Tb f134 1023 BH (k,up,r)
noncomputable def l6 (k:Int) (r:GRounding):Option (Int × Int):=Xf Tb f134 2047 BC (k,r)
noncomputable def q9 (t:List GRate) (currency:Int) (month:Int):Option (GFraction × Bool):=Xf Tb f136 1 f136.ins (t,currency,month)
noncomputable def iy (t:List GRate) (currency:Int) (month:Int) (best:Int) (t11:List GRate) (t12:Int) (t13:Int) (t6:GFraction):Option (GFraction × Bool):=Xf Tb f136 58 Hs (t,currency,month,best,t11,t12,t13,t6)
noncomputable def lL (x:Int) (y:Int):Option (Int × Int):=Xf Tb f137 1 f137.ins (x,y)
noncomputable def kK (x:Int) (xfrom:Int) (to:Int) (xat:Int) (t:List GRate) (r:GRounding):Option (Int × Int):=Xf Tb f64 1 f64.ins (x,xfrom,to,xat,t,r)
noncomputable def jQ (counted:List GCounted) (state:Int) (currency:Int) (rates:List GRate) (l:List GFact):Option (List GEarning × Int × List GFact):=Xf Tb f21 1 f21.ins (counted,state,currency,rates,l)
noncomputable def dR (currency:Int) (rates:List GRate) (t61:Int) (t62:Int) (all:List GEarnings_income) (amounts_k:List Int) (amounts_v:List Int) (t1000000:List GFact):Option (List GEarning × Int × List GFact):=Xf Tb f21 250 Jb (currency,rates,t61,t62,all,amounts_k,amounts_v,t1000000)
noncomputable def gp (currency:Int) (rates:List GRate) (t103:Int) (t104:Int) (all:List GEarnings_income) (amounts_k:List Int) (amounts_v:List Int) (out:List GEarning) (t102:List Int) (t1000000:List GFact):Option (List GEarning × Int × List GFact):=Xf Tb f21 1018 Ei (currency,rates,t103,t104,all,amounts_k,amounts_v,out,t102,t1000000)
noncomputable def eu (currency:Int) (rates:List GRate) (t61:Int) (t62:Int) (t67:List GSpan) (t68:Int) (t69:Int) (all:List GEarnings_income) (amounts_k:List Int) (amounts_v:List Int) (t1000000:List GFact):Option (List GEarning × Int × List GFact):=Xf Tb f21 64102 BA (currency,rates,t61,t62,t67,t68,t69,all,amounts_k,amounts_v,t1000000)
noncomputable def bh (currency:Int) (rates:List GRate) (y:Int) (december:Int) (t103:Int) (t104:Int) (t113:Int) (t114:Int) (all:List GEarnings_income) (amounts_k:List Int) (amounts_v:List Int) (out:List GEarning) (t102:List Int) (t1000000:List GFact):Option (List GEarning × Int × List GFact):=Xf Tb f21 1042842 xo (currency,rates,y,december,t103,t104,t113,t114,all,amounts_k,amounts_v,out,t102,t1000000)
noncomputable def eA (currency:Int) (rates:List GRate) (last:Int) (y:Int) (t61:Int) (t62:Int) (t67:List GSpan) (t68:Int) (t69:Int) (all:List GEarnings_income) (amounts_k:List Int) (amounts_v:List Int) (t1000000:List GFact):Option (List GEarning × Int × List GFact):=Xf Tb f21 65640862 uZ (currency,rates,last,y,t61,t62,t67,t68,t69,all,amounts_k,amounts_v,t1000000)
noncomputable def pL (l:List GCounted) (state:Int) (rank:Int):Option (List GSpan):=Xf Tb f142 1 f142.ins (l,state,rank)
noncomputable def cc (l:List GCounted) (state:Int) (rank:Int) (i:Int) (out:List GSpan):Option (List GSpan):=Xf Tb f142 58 Hc (l,state,rank,i,out)
noncomputable def ye (a:List GSpan) (b:List GSpan):Option (List GSpan):=Xf Tb f141 1 f141.ins (a,b)
noncomputable def sP (l:List GFact) (f:GFact) (counted:List GCounted) (state:Int):Option (List GSpan):=Xf Tb f67 1 f67.ins (l,f,counted,state)
noncomputable def dH (l:List GFact) (counted:List GCounted) (state:Int) (rank:Int) (f:GFact):Option (List GSpan):=Xf Tb f67 15 Ns (l,counted,state,rank,f)
noncomputable def Bn (day:Int):Option (Int × Int):=Xf Tb f200 1 f200.ins day
noncomputable def j0 (day:Int) (m:Int):Option (Int × Int):=Xf Tb f200 14 I1 (day,m)
noncomputable def vQ (day:Int):Option (Int × Int × Int × Bool):=Xf Tb f143 1 f143.ins day
noncomputable def nP (l:List GSpan):Option (Int × Int):=Xf Tb f68 1 f68.ins l
noncomputable def ck (l:List GSpan) (lo:Int) (hi:Int) (i:Int):Option (Int × Int):=Xf Tb f68 58 MP (l,lo,hi,i)
noncomputable def iI (month:Int):Option (Int × Bool):=Xf Tb f69 1 f69.ins month
noncomputable def wm (l:List GSpan):Option Int:=Xf Tb f70 1 f70.ins l
noncomputable def ef (n:Int) (i:Int) (m:List GSpan):Option Int:=Xf Tb f70 122 HS (n,i,m)
noncomputable def yE (f:GFact) (days:Int):Option Int:=Xf Tb f72 1 f72.ins (f,days)
noncomputable def vg (n:Int):Option Bool:=Xf Tb f145 1 f145.ins n
noncomputable def ml (c:Int):Option Bool:=Xf Tb f146 1 f146.ins c
noncomputable def pj (negative:Bool) (n:GPensionref1_wide) (d:Int) (r:GRounding):Option (Int × Int):=Xf Tb f148 1 f148.ins (negative,n,d,r)
noncomputable def bR (negative:Bool) (unit:Int) (k:Int):Option (Int × Int):=Xf Tb f148 255 Ep (negative,unit,k)
noncomputable def q5 (t:List GRate) (currency:Int) (month:Int):Option (GFraction × Bool):=Xf Tb f150 1 f150.ins (t,currency,month)
noncomputable def iQ (t:List GRate) (currency:Int) (month:Int) (xat:Int) (i:Int) (t6:GFraction):Option (GFraction × Bool):=Xf Tb f150 58 Jw (t,currency,month,xat,i,t6)
noncomputable def F0 (a:Int) (b:Int):Option GPensionref1_wide:=Xf Tb f151 1 f151.ins (a,b)
noncomputable def ph (amount:Int) (xfrom:Int) (to:Int) (month:Int) (t:List GRate) (r:GRounding):Option (Int × Int):=Xf Tb f71 1 f71.ins (amount,xfrom,to,month,t,r)
noncomputable def Du (counted:List GCounted) (state:Int) (currency:Int) (rates:List GRate) (l:List GFact):Option (List GEarning × Int × List GFact):=Xf Tb f22 1 f22.ins (counted,state,currency,rates,l)
noncomputable def dl (counted:List GCounted) (state:Int) (currency:Int) (rates:List GRate) (i:Int) (l:List GFact) (days:List (List GSpan)) (all:List GSpan):Option (List GEarning × Int × List GFact):=Xf Tb f22 250 Hy (counted,state,currency,rates,i,l,days,all)
noncomputable def dF (currency:Int) (rates:List GRate) (hi:Int) (y:Int) (l:List GFact) (days:List (List GSpan)) (all:List GSpan) (out:List GEarning) (down:GRounding):Option (List GEarning × Int × List GFact):=Xf Tb f22 4090 EC (currency,rates,hi,y,l,days,all,out,down)
noncomputable def ic (currency:Int) (rates:List GRate) (hi:Int) (y:Int) (xfrom:Int) (next:Int) (l:List GFact) (days:List (List GSpan)) (all:List GSpan) (out:List GEarning) (down:GRounding):Option (List GEarning × Int × List GFact):=Xf Tb f22 523559 yJ (currency,rates,hi,y,xfrom,next,l,days,all,out,down)
noncomputable def cm (currency:Int) (rates:List GRate) (hi:Int) (y:Int) (sum:Int) (i:Int) (l:List GFact) (days:List (List GSpan)) (all:List GSpan) (out:List GEarning) (down:GRounding) (year:GSpan):Option (List GEarning × Int × List GFact):=Xf Tb f22 33507834 uF (currency,rates,hi,y,sum,i,l,days,all,out,down,year)
noncomputable def wU:Option Bool:=Xf Tb f23 1 f23.ins ()
noncomputable def rX (l:List GPensionhand_Fact) (n:List Int) (day:Int):Option Bool:=Xf Tb f6 1 f6.ins (l,n,day)
noncomputable def dD (c:List GCounted) (i:Int) (a:List GFact):Option Bool:=Xf Tb f6 506 Oi (c,i,a)
noncomputable def bK (c:List GCounted) (sum:Int) (all:Int) (s:Int) (a:List GFact):Option Bool:=Xf Tb f6 2042 Ip (c,sum,all,s,a)
noncomputable def aV (sum:Int) (all:Int) (i:Int) (a:List GFact):Option Bool:=Xf Tb f6 4090 I8 (sum,all,i,a)
noncomputable def bg (c:List GCounted) (sum:Int) (all:Int) (s:Int) (y:List GEarning) (i:Int) (a:List GFact):Option Bool:=Xf Tb f6 522830 A5 (c,sum,all,s,y,i,a)
end Go.Ax
