import Derived.Test.YtokecajedkojlaaGreatZHd
import Derived.Test.YtokecajedkojlaaGreatRows
set_option linter.all false
set_option maxRecDepth 100000
set_option maxHeartbeats 0
namespace Go.Ax
open Go.Proofs Go.Proofs.YtokecajedkojlaaGreat
abbrev Mt:Tm:={ sl:=[(0, .t (.i .i64)),(3, .t (.s))],ob:=[] }
/- pension/pensionhand.digits -/
noncomputable def f92:FI:={ fid:=92,fn:=Tryz.f92,c:=aj Tryz.f92,ins:={ sl:=[(0, .t (.i .i64))] },out:=.new (.t (.s)),cuts:=[(28,Mt)] }
noncomputable def f38:FI:={ fid:=38,fn:=Tryz.f38,c:=aj Tryz.f38,ins:={ sl:=[(0, .t (.i .i64)),(1, .t (.i .i64))] },out:=.new (.t (.i .i64)),cuts:=[] }
noncomputable def f39:FI:={ fid:=39,fn:=Tryz.f39,c:=aj Tryz.f39,ins:={ sl:=[(0, .t (.ls (.i .i64))),(1, .t (.i .i64))] },out:=.new (.t (.i .i64)),cuts:=[] }
noncomputable def f167:FI:={ fid:=167,fn:=Tryz.f167,c:=aj Tryz.f167,ins:={ sl:=[(0, .t (.i .i64))] },out:=.new (.t (.s)),cuts:=[] }
abbrev N2:Tm:={ sl:=[(1, .t (.ls (.i .i64))),(2, .t (.i .i64)),(7, .t (.s)),(8, .t (.s))],ob:=[] }
abbrev IQ:Tm:={ sl:=[(1, .t (.ls (.i .i64))),(2, .t (.i .i64)),(7, .t (.s)),(8, .t (.s))],ob:=[] }
abbrev GM:Tm:={ sl:=[(1, .t (.ls (.i .i64))),(2, .t (.i .i64)),(7, .t (.s)),(8, .t (.s))],ob:=[] }
abbrev DT:Tm:={ sl:=[(1, .t (.ls (.i .i64))),(2, .t (.i .i64)),(8, .t (.s))],ob:=[] }
abbrev Bl:Tm:={ sl:=[(1, .t (.ls (.i .i64))),(2, .t (.i .i64)),(8, .t (.s))],ob:=[] }
noncomputable def f93:FI:={ fid:=93,fn:=Tryz.f93,c:=aj Tryz.f93,ins:={ sl:=[(0, .t (.s)),(1, .t (.ls (.i .i64))),(2, .t (.i .i64))] },out:=.new (.t (.s)),cuts:=[(31,N2),(127,IQ),(255,GM),(8191,DT),(65535,Bl)] }
abbrev Mo:Tm:={ sl:=[(0, .t (.i .i64)),(1, .t (.ls (.i .i64))),(6, .t (.s))],ob:=[] }
noncomputable def f37:FI:={ fid:=37,fn:=Tryz.f37,c:=aj Tryz.f37,ins:={ sl:=[(0, .t (.i .i64)),(1, .t (.ls (.i .i64)))] },out:=.new (.t (.s)),cuts:=[(31,Mo)] }
abbrev IZ:Tm:={ sl:=[(0, .t (.s)),(1, .t (.i .i64)),(5, .t (.b))],ob:=[] }
noncomputable def f259:FI:={ fid:=259,fn:=Tryz.f259,c:=aj Tryz.f259,ins:={ sl:=[(0, .t (.s)),(1, .t (.i .i64))] },out:=.new (.t (.i .i64)),cuts:=[(28,IZ)] }
noncomputable def f260:FI:={ fid:=260,fn:=Tryz.f260,c:=aj Tryz.f260,ins:={ sl:=[(0, .t (.i .u8))] },out:=.new (.t (.b)),cuts:=[] }
noncomputable def f262:FI:={ fid:=262,fn:=Tryz.f262,c:=aj Tryz.f262,ins:={ sl:=[(0, .t (.i .u8))] },out:=.new (.t (.b)),cuts:=[] }
abbrev Ic:Tm:={ sl:=[(0, .t (.s)),(1, .t (.i .i64)),(2, .t (.b)),(7, .t (.i .i64))],ob:=[] }
noncomputable def f261:FI:={ fid:=261,fn:=Tryz.f261,c:=aj Tryz.f261,ins:={ sl:=[(0, .t (.s)),(1, .t (.i .i64)),(2, .t (.b))] },out:=.new (.t (.i .i64)),cuts:=[(28,Ic)] }
abbrev He:Tm:={ sl:=[(0, .t (.s)),(6, .t (.i .i64))],ob:=[] }
abbrev Dt:Tm:={ sl:=[(0, .t (.s)),(6, .t (.i .i64)),(8, .t (.i .i64)),(9, .t (.i .i64))],ob:=[] }
abbrev Dk:Tm:={ sl:=[(6, .t (.i .i64)),(10, .t (.s)),(11, .t (.s))],ob:=[] }
abbrev AZ:Tm:={ sl:=[(6, .t (.i .i64)),(10, .t (.s)),(11, .t (.s)),(12, .t (.i .i64))],ob:=[] }
noncomputable def f208:FI:={ fid:=208,fn:=Tryz.f208,c:=aj Tryz.f208,ins:={ sl:=[(0, .t (.s))] },out:=.new (.tp [.t (.s), .t (.s), .t (.i .i64), .t (.b)]),cuts:=[(15,He),(250,Dt),(255,Dk),(2042,AZ)] }
abbrev Ik:Tm:={ sl:=[(0, .t (.s)),(4, .t (.i .i64)),(5, .t (.i .i64))],ob:=[] }
noncomputable def f264:FI:={ fid:=264,fn:=Tryz.f264,c:=aj Tryz.f264,ins:={ sl:=[(0, .t (.s))] },out:=.new (.tp [.t (.i .i64), .t (.b)]),cuts:=[(58,Ik)] }
noncomputable def f258:FI:={ fid:=258,fn:=Tryz.f258,c:=aj Tryz.f258,ins:={ sl:=[(0, .t (.i .i64))] },out:=.new (.t (.b)),cuts:=[] }
noncomputable def f201:FI:={ fid:=201,fn:=Tryz.f201,c:=aj Tryz.f201,ins:={ sl:=[(0, .t (.i .i64)),(1, .t (.i .i64))] },out:=.new (.t (.i .i64)),cuts:=[] }
abbrev H8:Tm:={ sl:=[(0, .t (.i .i64)),(3, .t (.i .i64)),(4, .t (.i .i64))],ob:=[] }
noncomputable def f144:FI:={ fid:=144,fn:=Tryz.f144,c:=aj Tryz.f144,ins:={ sl:=[(0, .t (.i .i64))] },out:=.new (.t (.i .i64)),cuts:=[(58,H8)] }
noncomputable def f265:FI:={ fid:=265,fn:=Tryz.f265,c:=aj Tryz.f265,ins:={ sl:=[(0, .t (.i .i64)),(1, .t (.i .i64)),(2, .t (.i .i64))] },out:=.new (.tp [.t (.i .i64), .t (.b)]),cuts:=[] }
noncomputable def f209:FI:={ fid:=209,fn:=Tryz.f209,c:=aj Tryz.f209,ins:={ sl:=[(0, .t (.s))] },out:=.new (.tp [.t (.i .i64), .t (.b)]),cuts:=[] }
abbrev Nt:Tm:={ sl:=[(0, .t (.s)),(1, .t (.i .i64))],ob:=[] }
abbrev DV:Tm:={ sl:=[(29, .t (.b))],ob:=[] }
noncomputable def f263:FI:={ fid:=263,fn:=Tryz.f263,c:=aj Tryz.f263,ins:={ sl:=[(0, .t (.s)),(1, .t (.i .i64))] },out:=.new (.t (.i .i64)),cuts:=[(7,Nt),(117,DV)] }
abbrev Dp:Tm:={ sl:=[(0, .t (.s)),(1, .t (.i .i64)),(4, .k (.ptr 0 3 0 0)),(7, .t (.i .i64)),(8, .t (.i .i64)),(9, .t (.b))],ob:=[.box [.t (.st .GToken)]] }
noncomputable def f205:FI:={ fid:=205,fn:=Tryz.f205,c:=aj Tryz.f205,ins:={ sl:=[(0, .t (.s)),(1, .t (.i .i64))] },out:=.new (.tp [.t (.st .GToken), .t (.i .i64), .t (.i .i64)]),cuts:=[(127,Dp)] }
abbrev H3:Tm:={ sl:=[(0, .t (.s)),(5, .k (.row 0 3)),(6, .t (.i .i64))],ob:=[.row 236 (.st .GToken)] }
noncomputable def f157:FI:={ fid:=157,fn:=Tryz.f157,c:=aj Tryz.f157,ins:={ sl:=[(0, .t (.s))] },out:=.new (.tp [.t (.ls (.st .GToken)), .t (.i .i64), .t (.i .i64)]),cuts:=[(62,H3)] }
noncomputable def f84:FI:={ fid:=84,fn:=Tryz.f84,c:=aj Tryz.f84,ins:={ sl:=[(0, .t (.s))],ob:=[] },out:=.gen2 ({ sl:=[(2000000, .tp [.tp [.k (.c (.lit (.pointer none))), .t (.i .i64), .t (.i .i64)]])],ob:=[] }) ({ sl:=[(2000000, .tp [.tp [.k (.ptr 0 4 0 0), .t (.i .i64), .t (.i .i64)]])],ob:=[.box [.t (.st .GPensionref5_reader)]] }),cuts:=[] }
noncomputable def f162:FI:={ fid:=162,fn:=Tryz.f162,c:=aj Tryz.f162,ins:={ sl:=[(0, .dp (.st .GPensionref5_reader)),(1, .t (.s))] },out:=.new (.t (.b)),cuts:=[] }
noncomputable def f88:FI:={ fid:=88,fn:=Tryz.f88,c:=aj Tryz.f88,ins:={ sl:=[(0, .k (.ptr 0 4 0 0)),(1, .t (.s)),(1000000, .k (.ptr 0 4 0 0))],ob:=[.box [.t (.st .GPensionref5_reader)]] },out:=.gen ({ sl:=[(1000000, .k (.ptr 0 4 0 0)),(2000000, .tp [.t (.b)])],ob:=[.box [.t (.st .GPensionref5_reader)]] }),cuts:=[] }
noncomputable def f158:FI:={ fid:=158,fn:=Tryz.f158,c:=aj Tryz.f158,ins:={ sl:=[(0, .k (.ptr 0 4 0 0)),(1000000, .k (.ptr 0 4 0 0))],ob:=[.box [.t (.st .GPensionref5_reader)]] },out:=.gen ({ sl:=[(1000000, .k (.ptr 0 4 0 0)),(2000000, .tp [.tp []])],ob:=[.box [.t (.st .GPensionref5_reader)]] }),cuts:=[] }
noncomputable def f85:FI:={ fid:=85,fn:=Tryz.f85,c:=aj Tryz.f85,ins:={ sl:=[(0, .k (.ptr 0 4 0 0)),(1, .t (.s)),(1000000, .k (.ptr 0 4 0 0))],ob:=[.box [.t (.st .GPensionref5_reader)]] },out:=.gen ({ sl:=[(1000000, .k (.ptr 0 4 0 0)),(2000000, .tp [.tp []])],ob:=[.box [.t (.st .GPensionref5_reader)]] }),cuts:=[] }
noncomputable def f159:FI:={ fid:=159,fn:=Tryz.f159,c:=aj Tryz.f159,ins:={ sl:=[(0, .dp (.st .GPensionref5_reader)),(1, .t (.i .i64))] },out:=.new (.t (.b)),cuts:=[] }
abbrev Hl:Tm:={ sl:=[(0, .t (.s)),(3, .t (.i .i64))],ob:=[] }
noncomputable def f206:FI:={ fid:=206,fn:=Tryz.f206,c:=aj Tryz.f206,ins:={ sl:=[(0, .t (.s))] },out:=.new (.t (.b)),cuts:=[(26,Hl)] }
abbrev IY:Tm:={ sl:=[(4, .t (.b))],ob:=[] }
noncomputable def f207:FI:={ fid:=207,fn:=Tryz.f207,c:=aj Tryz.f207,ins:={ sl:=[(0, .t (.s))] },out:=.new (.t (.b)),cuts:=[(53,IY)] }
noncomputable def f160:FI:={ fid:=160,fn:=Tryz.f160,c:=aj Tryz.f160,ins:={ sl:=[(0, .t (.s))] },out:=.new (.t (.b)),cuts:=[] }
noncomputable def f86:FI:={ fid:=86,fn:=Tryz.f86,c:=aj Tryz.f86,ins:={ sl:=[(0, .k (.ptr 0 4 0 0)),(1000000, .k (.ptr 0 4 0 0))],ob:=[.box [.t (.st .GPensionref5_reader)]] },out:=.gen ({ sl:=[(1000000, .k (.ptr 0 4 0 0)),(2000000, .tp [.t (.s)])],ob:=[.box [.t (.st .GPensionref5_reader)]] }),cuts:=[] }
noncomputable def f149:FI:={ fid:=149,fn:=Tryz.f149,c:=aj Tryz.f149,ins:={ sl:=[(0, .t (.i .i64))] },out:=.new (.t (.i .u64)),cuts:=[] }
abbrev VU:Tm:={ sl:=[(0, .t (.i .u64)),(2, .t (.i .i64))],ob:=[] }
abbrev UX:Tm:={ sl:=[(0, .t (.i .u64)),(2, .t (.i .i64))],ob:=[] }
noncomputable def f234:FI:={ fid:=234,fn:=Tryz.f234,c:=aj Tryz.f234,ins:={ sl:=[(0, .t (.i .u64))] },out:=.new (.t (.i .i64)),cuts:=[(7,VU),(15,UX)] }
noncomputable def f256:FI:={ fid:=256,fn:=Tryz.f256,c:=aj Tryz.f256,ins:={ sl:=[(0, .t (.i .u64))] },out:=.new (.t (.i .i64)),cuts:=[] }
abbrev Nu:Tm:={ sl:=[(0, .t (.i .u64)),(1, .t (.i .u64)),(2, .t (.i .u64))],ob:=[] }
abbrev Im:Tm:={ sl:=[(0, .t (.i .u64)),(1, .t (.i .u64)),(2, .t (.i .u64))],ob:=[] }
abbrev QP:Tm:={ sl:=[(2, .t (.i .u64)),(8, .t (.i .u64)),(9, .t (.i .u64)),(10, .t (.i .u64)),(11, .t (.i .u64)),(13, .t (.i .u64)),(14, .t (.i .u64)),(15, .t (.i .u64))],ob:=[] }
abbrev C3:Tm:={ sl:=[(2, .t (.i .u64)),(8, .t (.i .u64)),(9, .t (.i .u64)),(10, .t (.i .u64)),(11, .t (.i .u64)),(13, .t (.i .u64)),(14, .t (.i .u64)),(15, .t (.i .u64)),(16, .t (.i .u64))],ob:=[] }
abbrev MN:Tm:={ sl:=[(2, .t (.i .u64)),(8, .t (.i .u64)),(14, .t (.i .u64)),(15, .t (.i .u64)),(17, .t (.i .u64)),(18, .t (.i .u64))],ob:=[] }
abbrev Lw:Tm:={ sl:=[(2, .t (.i .u64)),(8, .t (.i .u64)),(9, .t (.i .u64)),(10, .t (.i .u64)),(14, .t (.i .u64)),(15, .t (.i .u64)),(16, .t (.i .u64)),(17, .t (.i .u64)),(18, .t (.i .u64))],ob:=[] }
noncomputable def f192:FI:={ fid:=192,fn:=Tryz.f192,c:=aj Tryz.f192,ins:={ sl:=[(0, .t (.i .u64)),(1, .t (.i .u64)),(2, .t (.i .u64))] },out:=.new (.tp [.t (.i .u64), .t (.i .u64)]),cuts:=[(7,Nu),(15,Im),(65535,QP),(131068,C3),(1048575,MN),(2097148,Lw)] }
noncomputable def f202:FI:={ fid:=202,fn:=Tryz.f202,c:=aj Tryz.f202,ins:={ sl:=[(0, .t (.st .GPensionref1_wide)),(1, .t (.i .u64))] },out:=.new (.tp [.t (.st .GPensionref1_wide), .t (.i .u64)]),cuts:=[] }
abbrev Hx:Tm:={ sl:=[(0, .t (.i .u64)),(1, .t (.i .u64))],ob:=[] }
noncomputable def f199:FI:={ fid:=199,fn:=Tryz.f199,c:=aj Tryz.f199,ins:={ sl:=[(0, .t (.i .u64)),(1, .t (.i .u64))] },out:=.new (.t (.i .u64)),cuts:=[(12,Hx)] }
noncomputable def f168:FI:={ fid:=168,fn:=Tryz.f168,c:=aj Tryz.f168,ins:={ sl:=[(0, .t (.b)),(1, .t (.st .GPensionref1_wide)),(2, .t (.i .u64))] },out:=.new (.tp [.t (.st .GFraction), .t (.i .i64)]),cuts:=[] }
noncomputable def f94:FI:={ fid:=94,fn:=Tryz.f94,c:=aj Tryz.f94,ins:={ sl:=[(0, .t (.i .i64)),(1, .t (.i .i64))] },out:=.new (.tp [.t (.st .GFraction), .t (.i .i64)]),cuts:=[] }
abbrev Ez:Tm:={ sl:=[(2, .k (.ptr 0 2 0 0)),(5, .t (.s)),(6, .t (.s)),(7, .t (.i .i64)),(9, .t (.i .i64)),(10, .t (.i .i64)),(11, .t (.i .i64))],ob:=[.box [.t (.st .GFraction)]] }
noncomputable def f161:FI:={ fid:=161,fn:=Tryz.f161,c:=aj Tryz.f161,ins:={ sl:=[(0, .t (.s))] },out:=.new (.tp [.t (.st .GFraction), .t (.i .i64), .t (.b)]),cuts:=[(250,Ez)] }
noncomputable def f87:FI:={ fid:=87,fn:=Tryz.f87,c:=aj Tryz.f87,ins:={ sl:=[(0, .k (.ptr 0 4 0 0)),(1, .t (.i .i64)),(2, .t (.i .i64)),(1000000, .k (.ptr 0 4 0 0))],ob:=[.box [.t (.st .GPensionref5_reader)]] },out:=.gen ({ sl:=[(1000000, .k (.ptr 0 4 0 0)),(2000000, .tp [.t (.i .i64)])],ob:=[.box [.t (.st .GPensionref5_reader)]] }),cuts:=[] }
noncomputable def f163:FI:={ fid:=163,fn:=Tryz.f163,c:=aj Tryz.f163,ins:={ sl:=[(0, .t (.s))] },out:=.new (.t (.i .i64)),cuts:=[] }
noncomputable def f210:FI:={ fid:=210,fn:=Tryz.f210,c:=aj Tryz.f210,ins:={ sl:=[(0, .t (.s))] },out:=.new (.t (.i .i64)),cuts:=[] }
noncomputable def f211:FI:={ fid:=211,fn:=Tryz.f211,c:=aj Tryz.f211,ins:={ sl:=[(0, .t (.s))] },out:=.new (.t (.i .i64)),cuts:=[] }
noncomputable def f212:FI:={ fid:=212,fn:=Tryz.f212,c:=aj Tryz.f212,ins:={ sl:=[(0, .t (.s))] },out:=.new (.t (.i .i64)),cuts:=[] }
noncomputable def f164:FI:={ fid:=164,fn:=Tryz.f164,c:=aj Tryz.f164,ins:={ sl:=[(0, .k (.ptr 0 4 0 0)),(1, .t (.i .i64)),(1000000, .k (.ptr 0 4 0 0))],ob:=[.box [.t (.st .GPensionref5_reader)]] },out:=.gen ({ sl:=[(1000000, .k (.ptr 0 4 0 0)),(2000000, .tp [.t (.i .i64)])],ob:=[.box [.t (.st .GPensionref5_reader)]] }),cuts:=[] }
noncomputable def f269:FI:={ fid:=269,fn:=Tryz.f269,c:=aj Tryz.f269,ins:={ sl:=[(0, .t (.i .i64))] },out:=.new (.t (.i .i64)),cuts:=[] }
noncomputable def f287:FI:={ fid:=287,fn:=Tryz.f287,c:=aj Tryz.f287,ins:={ sl:=[(0, .k (.ptr 0 4 0 0)),(1, .t (.i .i64)),(1000000, .k (.ptr 0 4 0 0))],ob:=[.box [.t (.st .GPensionref5_reader)]] },out:=.gen ({ sl:=[(1000000, .k (.ptr 0 4 0 0)),(2000000, .tp [.t (.st .GExpr)])],ob:=[.box [.t (.st .GPensionref5_reader)]] }),cuts:=[] }
noncomputable def f266:FI:={ fid:=266,fn:=Tryz.f266,c:=aj Tryz.f266,ins:={ sl:=[(0, .k (.ptr 0 4 0 0)),(1000000, .k (.ptr 0 4 0 0))],ob:=[.box [.t (.st .GPensionref5_reader)]] },out:=.gen ({ sl:=[(1000000, .k (.ptr 0 4 0 0)),(2000000, .tp [.t (.st .GExpr)])],ob:=[.box [.t (.st .GPensionref5_reader)]] }),cuts:=[] }
abbrev xZ:Tm:={ sl:=[(3, .t (.i .i64)),(12, .t (.b))],ob:=[] }
noncomputable def f288:FI:={ fid:=288,fn:=Tryz.f288,c:=aj Tryz.f288,ins:={ sl:=[(0, .t (.i .i64))] },out:=.new (.t (.i .i64)),cuts:=[(13823,xZ)] }
noncomputable def f289:FI:={ fid:=289,fn:=Tryz.f289,c:=aj Tryz.f289,ins:={ sl:=[(0, .t (.i .i64))] },out:=.new (.t (.s)),cuts:=[] }
abbrev IG:Tm:={ sl:=[(0, .dp (.st .GPensionref5_reader)),(1, .t (.i .i64)),(5, .t (.i .i64))],ob:=[] }
noncomputable def f267:FI:={ fid:=267,fn:=Tryz.f267,c:=aj Tryz.f267,ins:={ sl:=[(0, .dp (.st .GPensionref5_reader)),(1, .t (.i .i64))] },out:=.new (.t (.i .i64)),cuts:=[(26,IG)] }
abbrev DY:Tm:={ sl:=[(0, .k (.ptr 0 4 0 0)),(1, .t (.i .i64)),(4, .k (.ptr 1 6 0 0)),(8, .k (.ptr 2 6 0 0)),(1000000, .k (.ptr 0 4 0 0))],ob:=[.box [.t (.st .GPensionref5_reader)], .box [.t (.i .i64), .t (.st .GFraction), .t (.i .i64), .t (.s), .k (.c .nil)], .box [.t (.i .i64), .t (.st .GFraction), .t (.i .i64), .t (.s), .t (.ls (.st .GExpr))]] }
noncomputable def f213:FI:={ fid:=213,fn:=Tryz.f213,c:=aj Tryz.f213,ins:={ sl:=[(0, .k (.ptr 0 4 0 0)),(1, .t (.i .i64)),(1000000, .k (.ptr 0 4 0 0))],ob:=[.box [.t (.st .GPensionref5_reader)]] },out:=.gen ({ sl:=[(1000000, .k (.ptr 0 4 0 0)),(2000000, .tp [.t (.st .GExpr)])],ob:=[.box [.t (.st .GPensionref5_reader)]] }),cuts:=[(124,DY)] }
abbrev ED:Tm:={ sl:=[(0, .k (.ptr 0 4 0 0)),(1000000, .k (.ptr 0 4 0 0)),(1000001, .k (.ptr 1 8 0 0))],ob:=[.box [.t (.st .GPensionref5_reader)], .box [.t (.i .i64), .t (.st .GRounding), .k (.row 2 2), .k (.row 3 3), .k (.row 4 7), .k (.row 5 13), .k (.row 6 7)], .row 130 (.st .GCredit), .row 182 (.st .GIndex), .row 189 (.st .GLet), .row 193 (.st .GGrant), .row 195 (.st .GReduce)] }
abbrev A2:Tm:={ sl:=[(0, .k (.ptr 0 4 0 0)),(1, .k (.ptr 1 8 0 0)),(4, .k (.ptr 2 2 0 0)),(1000000, .k (.ptr 0 4 0 0)),(1000001, .k (.ptr 1 8 0 0))],ob:=[.box [.t (.st .GPensionref5_reader)], .box [.t (.i .i64), .t (.st .GRounding), .k (.row 3 2), .k (.row 4 3), .k (.row 5 7), .k (.row 6 13), .k (.row 7 7)], .box [.t (.st .GCredit)], .row 130 (.st .GCredit), .row 182 (.st .GIndex), .row 189 (.st .GLet), .row 193 (.st .GGrant), .row 195 (.st .GReduce)] }
abbrev zi:Tm:={ sl:=[(0, .k (.ptr 0 4 0 0)),(1, .k (.ptr 1 8 0 0)),(6, .k (.ptr 2 3 0 0)),(1000000, .k (.ptr 0 4 0 0)),(1000001, .k (.ptr 1 8 0 0))],ob:=[.box [.t (.st .GPensionref5_reader)], .box [.t (.i .i64), .t (.st .GRounding), .k (.row 3 2), .k (.row 4 3), .k (.row 5 7), .k (.row 6 13), .k (.row 7 7)], .box [.t (.st .GIndex)], .row 130 (.st .GCredit), .row 182 (.st .GIndex), .row 189 (.st .GLet), .row 193 (.st .GGrant), .row 195 (.st .GReduce)] }
abbrev ye:Tm:={ sl:=[(0, .k (.ptr 0 4 0 0)),(1, .k (.ptr 1 8 0 0)),(6, .k (.ptr 2 3 0 0)),(1000000, .k (.ptr 0 4 0 0)),(1000001, .k (.ptr 1 8 0 0))],ob:=[.box [.t (.st .GPensionref5_reader)], .box [.t (.i .i64), .t (.st .GRounding), .k (.row 3 2), .k (.row 4 3), .k (.row 5 7), .k (.row 6 13), .k (.row 7 7)], .box [.t (.st .GIndex)], .row 130 (.st .GCredit), .row 182 (.st .GIndex), .row 189 (.st .GLet), .row 193 (.st .GGrant), .row 195 (.st .GReduce)] }
noncomputable def iK:FI:={ fid:=165,fn:=Tryz.f165,c:=aj Tryz.f165,ins:={ sl:=[(0, .k (.ptr 0 4 0 0)),(1, .k (.ptr 1 8 0 0)),(1000000, .k (.ptr 0 4 0 0)),(1000001, .k (.ptr 1 8 0 0))],ob:=[.box [.t (.st .GPensionref5_reader)], .box [.t (.i .i64), .t (.st .GRounding), .k (.row 2 2), .k (.row 3 3), .k (.row 4 7), .k (.row 5 13), .k (.row 6 7)], .row 130 (.st .GCredit), .row 182 (.st .GIndex), .row 189 (.st .GLet), .row 193 (.st .GGrant), .row 195 (.st .GReduce)] },out:=.gen ({ sl:=[(1000000, .k (.ptr 0 4 0 0)),(1000001, .k (.ptr 1 8 0 0)),(2000000, .tp [.tp []])],ob:=[.box [.t (.st .GPensionref5_reader)], .box [.t (.i .i64), .t (.st .GRounding), .k (.row 2 2), .k (.row 3 3), .k (.row 4 7), .k (.row 5 13), .k (.row 6 7)], .row 130 (.st .GCredit), .row 182 (.st .GIndex), .row 189 (.st .GLet), .row 193 (.st .GGrant), .row 195 (.st .GReduce)] }),cuts:=[(3,ED),(75,A2),(315,zi),(631,ye)] }
abbrev MQ:Tm:={ sl:=[(0, .k (.ptr 0 4 0 0)),(2, .k (.ptr 1 8 0 0)),(3, .k (.ptr 2 8 0 0)),(1000000, .k (.ptr 0 4 0 0))],ob:=[.box [.t (.st .GPensionref5_reader)], .box [.t (.i .i64), .t (.st .GRounding), .k (.c .nil), .k (.c .nil), .k (.c .nil), .k (.c .nil), .k (.c .nil)], .box [.t (.i .i64), .t (.st .GRounding), .k (.c .nil), .k (.c .nil), .k (.c .nil), .k (.c .nil), .k (.c .nil)]] }
abbrev Eb:Tm:={ sl:=[(0, .k (.ptr 0 4 0 0)),(2, .k (.ptr 1 8 0 0)),(3, .k (.ptr 2 8 0 0)),(1000000, .k (.ptr 0 4 0 0))],ob:=[.box [.t (.st .GPensionref5_reader)], .box [.t (.i .i64), .t (.st .GRounding), .k (.c .nil), .k (.c .nil), .k (.c .nil), .k (.c .nil), .k (.c .nil)], .box [.t (.i .i64), .t (.st .GRounding), .k (.row 3 2), .k (.row 4 3), .k (.row 5 7), .k (.row 6 13), .k (.row 7 7)], .row 130 (.st .GCredit), .row 182 (.st .GIndex), .row 189 (.st .GLet), .row 193 (.st .GGrant), .row 195 (.st .GReduce)] }
noncomputable def f89:FI:={ fid:=89,fn:=Tryz.f89,c:=aj Tryz.f89,ins:={ sl:=[(0, .k (.ptr 0 4 0 0)),(1000000, .k (.ptr 0 4 0 0))],ob:=[.box [.t (.st .GPensionref5_reader)]] },out:=.gen ({ sl:=[(1000000, .k (.ptr 0 4 0 0)),(2000000, .tp [.t (.st .GVersion)])],ob:=[.box [.t (.st .GPensionref5_reader)]] }),cuts:=[(31,MQ),(4092,Eb)] }
noncomputable def f90:FI:={ fid:=90,fn:=Tryz.f90,c:=aj Tryz.f90,ins:={ sl:=[(0, .dp (.st .GPensionref5_reader))] },out:=.new (.t (.i .i64)),cuts:=[] }
noncomputable def f78:FI:={ fid:=78,fn:=Tryz.f78,c:=aj Tryz.f78,ins:={ sl:=[(0, .t (.i .i64))] },out:=.new (.t (.b)),cuts:=[] }
noncomputable def f147:FI:={ fid:=147,fn:=Tryz.f147,c:=aj Tryz.f147,ins:={ sl:=[(0, .t (.st .GRounding))] },out:=.new (.t (.b)),cuts:=[] }
abbrev HE:Tm:={ sl:=[(0, .t (.i .i64)),(1, .t (.i .i64)),(5, .k (.row 0 1)),(6, .t (.i .i64))],ob:=[.row 9 (.s)] }
noncomputable def f214:FI:={ fid:=214,fn:=Tryz.f214,c:=aj Tryz.f214,ins:={ sl:=[(0, .t (.i .i64)),(1, .t (.i .i64))] },out:=.new (.t (.s)),cuts:=[(58,HE)] }
noncomputable def f140:FI:={ fid:=140,fn:=Tryz.f140,c:=aj Tryz.f140,ins:={ sl:=[(0, .t (.st .GFraction))] },out:=.new (.t (.b)),cuts:=[] }
abbrev GS:Tm:={ sl:=[(0, .t (.i .i64)),(1, .t (.i .i64)),(5, .t (.s))],ob:=[] }
noncomputable def f290:FI:={ fid:=290,fn:=Tryz.f290,c:=aj Tryz.f290,ins:={ sl:=[(0, .t (.i .i64)),(1, .t (.i .i64))] },out:=.new (.t (.s)),cuts:=[(28,GS)] }
abbrev Hz:Tm:={ sl:=[(1, .k (.ptr 0 2 0 0)),(3, .t (.s))],ob:=[.box [.t (.st .GFraction)]] }
noncomputable def f268:FI:={ fid:=268,fn:=Tryz.f268,c:=aj Tryz.f268,ins:={ sl:=[(0, .t (.st .GFraction))] },out:=.new (.t (.s)),cuts:=[(31,Hz)] }
abbrev AK:Tm:={ sl:=[(1, .t (.i .i64)),(7, .t (.s)),(8, .t (.i .i64)),(9, .t (.i .i64))],ob:=[] }
noncomputable def f215:FI:={ fid:=215,fn:=Tryz.f215,c:=aj Tryz.f215,ins:={ sl:=[(0, .t (.st .GFraction)),(1, .t (.i .i64))] },out:=.new (.tp [.t (.s), .t (.b)]),cuts:=[(2042,AK)] }
abbrev Is:Tm:={ sl:=[(1, .k (.ptr 0 6 0 0)),(3, .t (.i .i64)),(4, .t (.i .i64))],ob:=[.box [.t (.i .i64), .t (.st .GFraction), .t (.i .i64), .t (.s), .t (.ls (.st .GExpr))]] }
noncomputable def f218:FI:={ fid:=218,fn:=Tryz.f218,c:=aj Tryz.f218,ins:={ sl:=[(0, .t (.st .GExpr))] },out:=.data (.t (.i .i64)),cuts:=[(58,Is)] }
abbrev Il:Tm:={ sl:=[(1, .k (.ptr 0 6 0 0)),(3, .t (.i .i64)),(4, .t (.i .i64))],ob:=[.box [.t (.i .i64), .t (.st .GFraction), .t (.i .i64), .t (.s), .t (.ls (.st .GExpr))]] }
noncomputable def f219:FI:={ fid:=219,fn:=Tryz.f219,c:=aj Tryz.f219,ins:={ sl:=[(0, .t (.st .GExpr))] },out:=.data (.t (.i .i64)),cuts:=[(58,Il)] }
abbrev Es:Tm:={ sl:=[(1, .k (.ptr 0 6 0 0)),(3, .t (.b)),(6, .t (.i .i64))],ob:=[.box [.t (.i .i64), .t (.st .GFraction), .t (.i .i64), .t (.s), .t (.ls (.st .GExpr))]] }
noncomputable def f220:FI:={ fid:=220,fn:=Tryz.f220,c:=aj Tryz.f220,ins:={ sl:=[(0, .t (.st .GExpr))] },out:=.new (.t (.b)),cuts:=[(250,Es)] }
noncomputable def f170:FI:={ fid:=170,fn:=Tryz.f170,c:=aj Tryz.f170,ins:={ sl:=[(0, .t (.st .GExpr))] },out:=.new (.t (.b)),cuts:=[] }
abbrev HJ:Tm:={ sl:=[(1, .k (.ptr 0 8 0 0)),(3, .t (.i .i64))],ob:=[.box [.t (.i .i64), .t (.st .GRounding), .t (.ls (.st .GCredit)), .t (.ls (.st .GIndex)), .t (.ls (.st .GLet)), .t (.ls (.st .GGrant)), .t (.ls (.st .GReduce))]] }
abbrev Dl:Tm:={ sl:=[(1, .k (.ptr 0 8 0 0)),(4, .t (.i .i64))],ob:=[.box [.t (.i .i64), .t (.st .GRounding), .t (.ls (.st .GCredit)), .t (.ls (.st .GIndex)), .t (.ls (.st .GLet)), .t (.ls (.st .GGrant)), .t (.ls (.st .GReduce))]] }
abbrev DF:Tm:={ sl:=[(1, .k (.ptr 0 8 0 0)),(7, .t (.i .i64))],ob:=[.box [.t (.i .i64), .t (.st .GRounding), .t (.ls (.st .GCredit)), .t (.ls (.st .GIndex)), .t (.ls (.st .GLet)), .t (.ls (.st .GGrant)), .t (.ls (.st .GReduce))]] }
abbrev DI:Tm:={ sl:=[(1, .k (.ptr 0 8 0 0)),(8, .t (.i .i64))],ob:=[.box [.t (.i .i64), .t (.st .GRounding), .t (.ls (.st .GCredit)), .t (.ls (.st .GIndex)), .t (.ls (.st .GLet)), .t (.ls (.st .GGrant)), .t (.ls (.st .GReduce))]] }
abbrev BV:Tm:={ sl:=[(1, .k (.ptr 0 8 0 0)),(9, .t (.i .i64))],ob:=[.box [.t (.i .i64), .t (.st .GRounding), .t (.ls (.st .GCredit)), .t (.ls (.st .GIndex)), .t (.ls (.st .GLet)), .t (.ls (.st .GGrant)), .t (.ls (.st .GReduce))]] }
noncomputable def f166:FI:={ fid:=166,fn:=Tryz.f166,c:=aj Tryz.f166,ins:={ sl:=[(0, .t (.st .GVersion))] },out:=.new (.t (.b)),cuts:=[(58,HJ),(122,Dl),(250,DF),(506,DI),(1018,BV)] }
abbrev Np:Tm:={ sl:=[(1, .k (.ptr 0 3 0 0)),(3, .t (.i .i64))],ob:=[.box [.t (.s), .t (.i .i64), .t (.ls (.st .GVersion))]] }
noncomputable def f91:FI:={ fid:=91,fn:=Tryz.f91,c:=aj Tryz.f91,ins:={ sl:=[(0, .t (.st .GStatute))] },out:=.new (.t (.b)),cuts:=[(58,Np)] }
abbrev DX:Tm:={ sl:=[(2, .k (.ptr 0 3 0 0)),(5, .k (.ptr 1 4 0 0)),(8, .k (.ptr 2 3 0 0)),(9, .t (.b))],ob:=[.box [.t (.s), .t (.i .i64), .k (.c .nil)], .box [.t (.st .GPensionref5_reader)], .box [.t (.s), .t (.i .i64), .k (.row 3 8)], .row 107 (.st .GVersion)] }
noncomputable def f36:FI:={ fid:=36,fn:=Tryz.f36,c:=aj Tryz.f36,ins:={ sl:=[(0, .t (.s))] },out:=.data (.tp [.t (.st .GStatute), .t (.i .i64), .t (.i .i64)]),cuts:=[(4090,DX)] }
abbrev P2:Tm:={ sl:=[(0, .t (.ls (.i .i64))),(2, .k (.ptr 0 3 0 0)),(3, .k (.ptr 1 3 0 0)),(4, .t (.i .i64))],ob:=[.box [.k (.c .nil), .k (.c .nil), .k (.c .nil)], .box [.k (.row 2 4), .k (.c .nil), .k (.row 3 4)], .row 97 (.st .GState), .row 89 (.st .GRate)] }
noncomputable def f9:FI:={ fid:=9,fn:=Tryz.f9,c:=aj Tryz.f9,ins:={ sl:=[(0, .t (.ls (.i .i64)))] },out:=.data (.t (.st .GLaws)),cuts:=[(58,P2)] }
noncomputable def f10:FI:={ fid:=10,fn:=Tryz.f10,c:=aj Tryz.f10,ins:={ sl:=[(0, .t (.i .i64)),(1, .t (.i .i64))] },out:=.new (.t (.i .i64)),cuts:=[] }
abbrev LA:Tm:={ sl:=[(0, .t (.ls (.i .i64))),(3, .k (.row 0 14)),(4, .t (.i .i64))],ob:=[.row 61 (.st .GFact)] }
noncomputable def f26:FI:={ fid:=26,fn:=Tryz.f26,c:=aj Tryz.f26,ins:={ sl:=[(0, .t (.ls (.i .i64)))] },out:=.own true 61 (.st .GFact),cuts:=[(58,LA)] }
abbrev MI:Tm:={ sl:=[(0, .t (.ls (.st .GFact))),(1, .t (.i .i64)),(5, .k (.row 0 14)),(6, .t (.i .i64))],ob:=[.row 61 (.st .GFact)] }
noncomputable def f25:FI:={ fid:=25,fn:=Tryz.f25,c:=aj Tryz.f25,ins:={ sl:=[(0, .t (.ls (.st .GFact))),(1, .t (.i .i64))] },out:=.own true 61 (.st .GFact),cuts:=[(58,MI)] }
noncomputable def f74:FI:={ fid:=74,fn:=Tryz.f74,c:=aj Tryz.f74,ins:={ sl:=[(0, .t (.i .i64))] },out:=.new (.t (.s)),cuts:=[] }
abbrev GY:Tm:={ sl:=[(1, .t (.i .u8)),(5, .t (.s)),(6, .t (.i .i64))],ob:=[] }
noncomputable def f203:FI:={ fid:=203,fn:=Tryz.f203,c:=aj Tryz.f203,ins:={ sl:=[(0, .t (.i .i64)),(1, .t (.i .u8))] },out:=.new (.t (.b)),cuts:=[(58,GY)] }
noncomputable def f152:FI:={ fid:=152,fn:=Tryz.f152,c:=aj Tryz.f152,ins:={ sl:=[(0, .t (.i .i64)),(1, .t (.i .u8)),(2, .t (.i .i64)),(3, .t (.i .i64)),(4, .t (.i .i64))] },out:=.new (.t (.b)),cuts:=[] }
noncomputable def f75:FI:={ fid:=75,fn:=Tryz.f75,c:=aj Tryz.f75,ins:={ sl:=[(0, .t (.st .GFact))] },out:=.new (.t (.b)),cuts:=[] }
noncomputable def f76:FI:={ fid:=76,fn:=Tryz.f76,c:=aj Tryz.f76,ins:={ sl:=[(0, .t (.st .GFact)),(1, .t (.st .GFact))] },out:=.new (.t (.i .i64)),cuts:=[] }
abbrev UW:Tm:={ sl:=[(0, .k (.row 0 1)),(1, .t (.i .i64)),(7, .t (.i .i64))],ob:=[.row 5 (.i .u8)] }
noncomputable def f204:FI:={ fid:=204,fn:=Tryz.f204,c:=aj Tryz.f204,ins:={ sl:=[(0, .k (.c .nil)),(1, .t (.i .i64)),(2, .t (.i .i64))],ob:=[] },out:=.gen ({ sl:=[(2000000, .tp [.k (.row 0 1)])],ob:=[.row 5 (.i .u8)] }),cuts:=[(26,UW)] }
abbrev BF:Tm:={ sl:=[(0, .k (.row 0 1)),(1, .t (.i .i64)),(7, .t (.i .i64))],ob:=[.row 5 (.i .u8)] }
noncomputable def rO:FI:={ fid:=204,fn:=Tryz.f204,c:=aj Tryz.f204,ins:={ sl:=[(0, .k (.row 0 1)),(1, .t (.i .i64)),(2, .t (.i .i64))],ob:=[.row 5 (.i .u8)] },out:=.gen ({ sl:=[(2000000, .tp [.k (.row 0 1)])],ob:=[.row 5 (.i .u8)] }),cuts:=[(26,BF)] }
abbrev HM:Tm:={ sl:=[(1, .k (.ptr 0 14 0 0)),(3, .t (.i .i64))],ob:=[.box [.t (.st .GFact)]] }
abbrev BK:Tm:={ sl:=[(1, .k (.ptr 0 14 0 0)),(4, .k (.row 1 1)),(5, .t (.s)),(6, .t (.i .i64))],ob:=[.box [.t (.st .GFact)], .row 5 (.i .u8)] }
abbrev Aw:Tm:={ sl:=[(1, .k (.ptr 0 14 0 0)),(4, .k (.row 1 1)),(5, .t (.s)),(6, .t (.i .i64))],ob:=[.box [.t (.st .GFact)], .row 5 (.i .u8)] }
noncomputable def f153:FI:={ fid:=153,fn:=Tryz.f153,c:=aj Tryz.f153,ins:={ sl:=[(0, .t (.st .GFact))] },out:=.own true 5 (.i .u8),cuts:=[(31,HM),(1018,BK),(8147,Aw)] }
noncomputable def f77:FI:={ fid:=77,fn:=Tryz.f77,c:=aj Tryz.f77,ins:={ sl:=[(0, .t (.st .GFact)),(1, .t (.st .GFact))] },out:=.new (.t (.b)),cuts:=[] }
abbrev L0:Tm:={ sl:=[(0, .t (.ls (.st .GFact))),(1, .t (.ls (.st .GFact))),(5, .k (.row 0 14)),(6, .t (.i .i64))],ob:=[.row 61 (.st .GFact)] }
abbrev Ep:Tm:={ sl:=[(0, .t (.ls (.st .GFact))),(1, .t (.ls (.st .GFact))),(5, .k (.row 0 14)),(6, .t (.i .i64)),(7, .k (.ptr 1 14 0 0))],ob:=[.row 61 (.st .GFact), .box [.t (.st .GFact)]] }
abbrev Av:Tm:={ sl:=[(0, .t (.ls (.st .GFact))),(1, .t (.ls (.st .GFact))),(5, .k (.row 0 14)),(6, .t (.i .i64)),(7, .k (.ptr 1 14 0 0)),(8, .t (.i .i64))],ob:=[.row 61 (.st .GFact), .box [.t (.st .GFact)]] }
noncomputable def f27:FI:={ fid:=27,fn:=Tryz.f27,c:=aj Tryz.f27,ins:={ sl:=[(0, .t (.ls (.st .GFact))),(1, .t (.ls (.st .GFact)))] },out:=.own true 61 (.st .GFact),cuts:=[(58,L0),(3731,Ep),(59708,Av)] }
noncomputable def f73:FI:={ fid:=73,fn:=Tryz.f73,c:=aj Tryz.f73,ins:={ sl:=[(0, .t (.i .i64))] },out:=.new (.t (.i .i64)),cuts:=[] }
abbrev HD:Tm:={ sl:=[(1, .k (.ptr 0 13 0 0)),(2, .k (.ptr 1 14 0 0)),(3, .k (.ptr 2 14 0 0)),(4, .t (.i .i64)),(5, .t (.i .i64))],ob:=[.box [.t (.st .GPensionhand_Fact)], .box [.t (.st .GFact)], .box [.t (.st .GFact)]] }
abbrev Ey:Tm:={ sl:=[(1, .k (.ptr 0 13 0 0)),(2, .k (.ptr 1 14 0 0)),(3, .k (.ptr 2 14 0 0)),(4, .t (.i .i64)),(5, .t (.i .i64)),(6, .t (.s)),(7, .t (.i .i64))],ob:=[.box [.t (.st .GPensionhand_Fact)], .box [.t (.st .GFact)], .box [.t (.st .GFact)]] }
abbrev Bc:Tm:={ sl:=[(1, .k (.ptr 0 13 0 0)),(2, .k (.ptr 1 14 0 0)),(3, .k (.ptr 2 14 0 0)),(4, .t (.i .i64)),(5, .t (.i .i64)),(6, .t (.s)),(7, .t (.i .i64))],ob:=[.box [.t (.st .GPensionhand_Fact)], .box [.t (.st .GFact)], .box [.t (.st .GFact)]] }
noncomputable def f24:FI:={ fid:=24,fn:=Tryz.f24,c:=aj Tryz.f24,ins:={ sl:=[(0, .t (.st .GPensionhand_Fact))] },out:=.new (.t (.st .GFact)),cuts:=[(127,HD),(2042,Ey),(16339,Bc)] }
abbrev MG:Tm:={ sl:=[(0, .t (.ls (.st .GPensionhand_Fact))),(1, .t (.ls (.i .i64))),(5, .k (.row 0 14)),(6, .t (.i .i64))],ob:=[.row 61 (.st .GFact)] }
abbrev DD:Tm:={ sl:=[(0, .t (.ls (.st .GPensionhand_Fact))),(1, .t (.ls (.i .i64))),(5, .k (.row 0 14)),(6, .t (.i .i64)),(7, .k (.ptr 1 13 0 0))],ob:=[.row 61 (.st .GFact), .box [.t (.st .GPensionhand_Fact)]] }
noncomputable def f19:FI:={ fid:=19,fn:=Tryz.f19,c:=aj Tryz.f19,ins:={ sl:=[(0, .t (.ls (.st .GPensionhand_Fact))),(1, .t (.ls (.i .i64)))] },out:=.own true 61 (.st .GFact),cuts:=[(58,MG),(7463,DD)] }
abbrev GF:Tm:={ sl:=[(4, .t (.s)),(5, .t (.b))],ob:=[] }
abbrev DP:Tm:={ sl:=[(4, .t (.s)),(9, .t (.b))],ob:=[] }
noncomputable def f271:FI:={ fid:=271,fn:=Tryz.f271,c:=aj Tryz.f271,ins:={ sl:=[(0, .t (.s))] },out:=.new (.tp [.t (.i .i64), .t (.b)]),cuts:=[(53,GF),(215,DP)] }
noncomputable def f305:FI:={ fid:=305,fn:=Tryz.f305,c:=aj Tryz.f305,ins:={ sl:=[(0, .t (.i .i64)),(1, .t (.ls (.i .i64)))] },out:=.new (.t (.i .i64)),cuts:=[] }
abbrev Ei:Tm:={ sl:=[(1, .t (.ls (.st .GBinding))),(2, .k (.ptr 0 6 0 0)),(9, .k (.row 1 1)),(10, .t (.i .i64))],ob:=[.box [.t (.i .i64), .t (.st .GFraction), .t (.i .i64), .t (.s), .t (.ls (.st .GExpr))], .row 3 (.i .i64)] }
abbrev yq:Tm:={ sl:=[(1, .t (.ls (.st .GBinding))),(2, .k (.ptr 0 6 0 0)),(8, .t (.i .i64))],ob:=[.box [.t (.i .i64), .t (.st .GFraction), .t (.i .i64), .t (.s), .t (.ls (.st .GExpr))]] }
noncomputable def f304:FI:={ fid:=304,fn:=Tryz.f304,c:=aj Tryz.f304,ins:={ sl:=[(0, .t (.st .GExpr)),(1, .t (.ls (.st .GBinding)))] },out:=.new (.tp [.t (.i .i64), .t (.i .i64)]),cuts:=[(122,Ei),(27626,yq)] }
abbrev GL:Tm:={ sl:=[(1, .t (.ls (.st .GBinding))),(2, .k (.ptr 0 6 0 0)),(6, .t (.i .i64))],ob:=[.box [.t (.i .i64), .t (.st .GFraction), .t (.i .i64), .t (.s), .t (.ls (.st .GExpr))]] }
noncomputable def f301:FI:={ fid:=301,fn:=Tryz.f301,c:=aj Tryz.f301,ins:={ sl:=[(0, .t (.st .GExpr)),(1, .t (.ls (.st .GBinding)))] },out:=.new (.tp [.t (.i .i64), .t (.i .i64)]),cuts:=[(58,GL)] }
abbrev DQ:Tm:={ sl:=[(0, .t (.ls (.st .GLet))),(4, .k (.row 0 2)),(5, .t (.i .i64))],ob:=[.row 191 (.st .GBinding)] }
abbrev zg:Tm:={ sl:=[(0, .t (.ls (.st .GLet))),(4, .k (.row 0 2)),(5, .t (.i .i64)),(8, .t (.i .i64)),(31, .t (.ls (.st .GLet))),(32, .t (.i .i64)),(35, .t (.s)),(36, .t (.b)),(37, .t (.b))],ob:=[.row 191 (.st .GBinding)] }
noncomputable def f292:FI:={ fid:=292,fn:=Tryz.f292,c:=aj Tryz.f292,ins:={ sl:=[(0, .t (.ls (.st .GLet)))] },out:=.new (.tp [.t (.ls (.st .GBinding)), .t (.i .i64)]),cuts:=[(122,DQ),(31306,zg)] }
noncomputable def f293:FI:={ fid:=293,fn:=Tryz.f293,c:=aj Tryz.f293,ins:={ sl:=[(0, .t (.st .GExpr)),(1, .t (.ls (.st .GBinding))),(2, .t (.i .i64))] },out:=.new (.t (.i .i64)),cuts:=[] }
abbrev Et:Tm:={ sl:=[(1, .k (.ptr 0 8 0 0)),(3, .t (.ls (.st .GBinding))),(5, .t (.i .i64))],ob:=[.box [.t (.i .i64), .t (.st .GRounding), .t (.ls (.st .GCredit)), .t (.ls (.st .GIndex)), .t (.ls (.st .GLet)), .t (.ls (.st .GGrant)), .t (.ls (.st .GReduce))]] }
abbrev Ea:Tm:={ sl:=[(1, .k (.ptr 0 8 0 0)),(3, .t (.ls (.st .GBinding))),(7, .t (.i .i64))],ob:=[.box [.t (.i .i64), .t (.st .GRounding), .t (.ls (.st .GCredit)), .t (.ls (.st .GIndex)), .t (.ls (.st .GLet)), .t (.ls (.st .GGrant)), .t (.ls (.st .GReduce))]] }
abbrev DN:Tm:={ sl:=[(1, .k (.ptr 0 8 0 0)),(3, .t (.ls (.st .GBinding))),(8, .t (.i .i64))],ob:=[.box [.t (.i .i64), .t (.st .GRounding), .t (.ls (.st .GCredit)), .t (.ls (.st .GIndex)), .t (.ls (.st .GLet)), .t (.ls (.st .GGrant)), .t (.ls (.st .GReduce))]] }
abbrev AU:Tm:={ sl:=[(1, .k (.ptr 0 8 0 0)),(3, .t (.ls (.st .GBinding))),(12, .t (.i .i64))],ob:=[.box [.t (.i .i64), .t (.st .GRounding), .t (.ls (.st .GCredit)), .t (.ls (.st .GIndex)), .t (.ls (.st .GLet)), .t (.ls (.st .GGrant)), .t (.ls (.st .GReduce))]] }
abbrev Bo:Tm:={ sl:=[(1, .k (.ptr 0 8 0 0)),(3, .t (.ls (.st .GBinding))),(5, .t (.i .i64)),(6, .t (.i .i64))],ob:=[.box [.t (.i .i64), .t (.st .GRounding), .t (.ls (.st .GCredit)), .t (.ls (.st .GIndex)), .t (.ls (.st .GLet)), .t (.ls (.st .GGrant)), .t (.ls (.st .GReduce))]] }
abbrev zB:Tm:={ sl:=[(1, .k (.ptr 0 8 0 0)),(3, .t (.ls (.st .GBinding))),(8, .t (.i .i64)),(9, .t (.i .i64))],ob:=[.box [.t (.i .i64), .t (.st .GRounding), .t (.ls (.st .GCredit)), .t (.ls (.st .GIndex)), .t (.ls (.st .GLet)), .t (.ls (.st .GGrant)), .t (.ls (.st .GReduce))]] }
abbrev wC:Tm:={ sl:=[(1, .k (.ptr 0 8 0 0)),(3, .t (.ls (.st .GBinding))),(12, .t (.i .i64)),(13, .t (.i .i64))],ob:=[.box [.t (.i .i64), .t (.st .GRounding), .t (.ls (.st .GCredit)), .t (.ls (.st .GIndex)), .t (.ls (.st .GLet)), .t (.ls (.st .GGrant)), .t (.ls (.st .GReduce))]] }
noncomputable def f277:FI:={ fid:=277,fn:=Tryz.f277,c:=aj Tryz.f277,ins:={ sl:=[(0, .t (.st .GVersion))] },out:=.new (.t (.i .i64)),cuts:=[(122,Et),(250,Ea),(506,DN),(1018,AU),(7826,Bo),(64802,zB),(130338,wC)] }
abbrev HA:Tm:={ sl:=[(1, .k (.ptr 0 3 0 0)),(4, .t (.i .i64))],ob:=[.box [.t (.s), .t (.i .i64), .t (.ls (.st .GVersion))]] }
noncomputable def f243:FI:={ fid:=243,fn:=Tryz.f243,c:=aj Tryz.f243,ins:={ sl:=[(0, .t (.st .GStatute))] },out:=.new (.tp [.t (.i .i64), .t (.i .i64)]),cuts:=[(58,HA)] }
abbrev Hm:Tm:={ sl:=[(0, .t (.ls (.st .GRules))),(3, .t (.i .i64))],ob:=[] }
abbrev AY:Tm:={ sl:=[(0, .t (.ls (.st .GRules))),(3, .t (.i .i64)),(4, .k (.ptr 0 5 0 0)),(5, .t (.i .i64))],ob:=[.box [.t (.st .GRules)]] }
noncomputable def f28:FI:={ fid:=28,fn:=Tryz.f28,c:=aj Tryz.f28,ins:={ sl:=[(0, .t (.ls (.st .GRules)))] },out:=.new (.t (.i .i64)),cuts:=[(122,Hm),(31310,AY)] }
noncomputable def f139:FI:={ fid:=139,fn:=Tryz.f139,c:=aj Tryz.f139,ins:={ sl:=[(0, .t (.i .i64))] },out:=.new (.t (.b)),cuts:=[] }
abbrev Mc:Tm:={ sl:=[(0, .t (.ls (.st .GRate))),(3, .t (.i .i64))],ob:=[] }
noncomputable def f66:FI:={ fid:=66,fn:=Tryz.f66,c:=aj Tryz.f66,ins:={ sl:=[(0, .t (.ls (.st .GRate)))] },out:=.new (.t (.i .i64)),cuts:=[(58,Mc)] }
abbrev HK:Tm:={ sl:=[(1, .k (.ptr 0 3 0 0)),(3, .t (.i .i64))],ob:=[.box [.t (.ls (.st .GState)), .t (.ls (.st .GRules)), .t (.ls (.st .GRate))]] }
abbrev Hd:Tm:={ sl:=[(1, .k (.ptr 0 3 0 0)),(5, .t (.i .i64))],ob:=[.box [.t (.ls (.st .GState)), .t (.ls (.st .GRules)), .t (.ls (.st .GRate))]] }
noncomputable def f181:FI:={ fid:=181,fn:=Tryz.f181,c:=aj Tryz.f181,ins:={ sl:=[(0, .t (.st .GLaws))] },out:=.new (.t (.i .i64)),cuts:=[(26,HK),(58,Hd)] }
noncomputable def f114:FI:={ fid:=114,fn:=Tryz.f114,c:=aj Tryz.f114,ins:={ sl:=[(0, .t (.st .GLaws)),(1, .t (.i .i64))] },out:=.new (.t (.i .i64)),cuts:=[] }
abbrev Mh:Tm:={ sl:=[(0, .t (.ls (.st .GRules))),(1, .t (.i .i64)),(4, .k (.ptr 0 5 0 0)),(6, .t (.i .i64))],ob:=[.box [.t (.st .GRules)]] }
noncomputable def f33:FI:={ fid:=33,fn:=Tryz.f33,c:=aj Tryz.f33,ins:={ sl:=[(0, .t (.ls (.st .GRules))),(1, .t (.i .i64))] },out:=.new (.tp [.t (.st .GRules), .t (.b)]),cuts:=[(26,Mh)] }
abbrev HB:Tm:={ sl:=[(0, .t (.ls (.i .i64))),(1, .t (.i .i64)),(5, .t (.i .i64))],ob:=[] }
noncomputable def f245:FI:={ fid:=245,fn:=Tryz.f245,c:=aj Tryz.f245,ins:={ sl:=[(0, .t (.ls (.i .i64))),(1, .t (.i .i64))] },out:=.new (.t (.b)),cuts:=[(26,HB)] }
noncomputable def f185:FI:={ fid:=185,fn:=Tryz.f185,c:=aj Tryz.f185,ins:={ sl:=[(0, .t (.ls (.st .GRules))),(1, .t (.i .i64)),(2, .t (.i .i64))] },out:=.new (.t (.b)),cuts:=[] }
abbrev Hg:Tm:={ sl:=[(1, .t (.i .i64)),(2, .k (.ptr 0 3 0 0)),(5, .k (.row 1 1)),(6, .t (.i .i64))],ob:=[.box [.t (.ls (.st .GState)), .t (.ls (.st .GRules)), .t (.ls (.st .GRate))], .row 3 (.i .i64)] }
noncomputable def f116:FI:={ fid:=116,fn:=Tryz.f116,c:=aj Tryz.f116,ins:={ sl:=[(0, .t (.st .GLaws)),(1, .t (.i .i64))] },out:=.own true 3 (.i .i64),cuts:=[(58,Hg)] }
abbrev GJ:Tm:={ sl:=[(1, .t (.i .i64)),(2, .k (.ptr 0 3 0 0)),(5, .t (.i .i64))],ob:=[.box [.t (.ls (.st .GState)), .t (.ls (.st .GRules)), .t (.ls (.st .GRate))]] }
noncomputable def f183:FI:={ fid:=183,fn:=Tryz.f183,c:=aj Tryz.f183,ins:={ sl:=[(0, .t (.st .GLaws)),(1, .t (.i .i64))] },out:=.new (.t (.i .i64)),cuts:=[(26,GJ)] }
abbrev HU:Tm:={ sl:=[(1, .t (.i .i64)),(2, .k (.ptr 0 3 0 0)),(4, .k (.ptr 1 8 0 0)),(6, .t (.i .i64))],ob:=[.box [.t (.s), .t (.i .i64), .t (.ls (.st .GVersion))], .box [.t (.i .i64), .t (.st .GRounding), .k (.c .nil), .k (.c .nil), .k (.c .nil), .k (.c .nil), .k (.c .nil)]] }
noncomputable def f182:FI:={ fid:=182,fn:=Tryz.f182,c:=aj Tryz.f182,ins:={ sl:=[(0, .t (.st .GStatute)),(1, .t (.i .i64))] },out:=.data (.tp [.t (.st .GVersion), .t (.b)]),cuts:=[(58,HU)] }
abbrev NX:Tm:={ sl:=[(0, .t (.ls (.st .GFact))),(3, .k (.row 0 14)),(4, .t (.i .i64))],ob:=[.row 61 (.st .GFact)] }
noncomputable def f29:FI:={ fid:=29,fn:=Tryz.f29,c:=aj Tryz.f29,ins:={ sl:=[(0, .t (.ls (.st .GFact)))] },out:=.own true 61 (.st .GFact),cuts:=[(58,NX)] }
abbrev De:Tm:={ sl:=[(1, .t (.i .i64)),(6, .k (.row 0 14)),(7, .t (.i .i64)),(8, .t (.b)),(9, .t (.i .i64))],ob:=[.row 61 (.st .GFact)] }
noncomputable def f154:FI:={ fid:=154,fn:=Tryz.f154,c:=aj Tryz.f154,ins:={ sl:=[(0, .t (.ls (.st .GFact))),(1, .t (.i .i64))] },out:=.new (.tp [.t (.i .i64), .t (.b)]),cuts:=[(122,De)] }
noncomputable def f80:FI:={ fid:=80,fn:=Tryz.f80,c:=aj Tryz.f80,ins:={ sl:=[(0, .t (.ls (.st .GFact)))] },out:=.new (.tp [.t (.i .i64), .t (.b)]),cuts:=[] }
noncomputable def f81:FI:={ fid:=81,fn:=Tryz.f81,c:=aj Tryz.f81,ins:={ sl:=[(0, .t (.ls (.st .GFact)))] },out:=.new (.tp [.t (.i .i64), .t (.b)]),cuts:=[] }
noncomputable def f31:FI:={ fid:=31,fn:=Tryz.f31,c:=aj Tryz.f31,ins:={ sl:=[(0, .t (.ls (.st .GFact)))] },out:=.new (.t (.st .GSpan)),cuts:=[] }
noncomputable def f180:FI:={ fid:=180,fn:=Tryz.f180,c:=aj Tryz.f180,ins:={ sl:=[(0, .t (.st .GSpan))] },out:=.new (.tp [.t (.st .GSpan), .t (.b)]),cuts:=[] }
abbrev NS:Tm:={ sl:=[(0, .t (.ls (.i .i64))),(1, .t (.i .i64)),(5, .t (.i .i64))],ob:=[] }
noncomputable def f32:FI:={ fid:=32,fn:=Tryz.f32,c:=aj Tryz.f32,ins:={ sl:=[(0, .t (.ls (.i .i64))),(1, .t (.i .i64))] },out:=.data (.t (.ls (.i .i64))),cuts:=[(28,NS)] }
abbrev Iw:Tm:={ sl:=[(0, .t (.ls (.ls (.st .GSpan)))),(3, .t (.ls (.i .i64))),(4, .t (.i .i64))],ob:=[] }
abbrev B0:Tm:={ sl:=[(0, .t (.ls (.ls (.st .GSpan)))),(3, .t (.ls (.i .i64))),(4, .t (.i .i64)),(5, .t (.i .i64))],ob:=[] }
noncomputable def f111:FI:={ fid:=111,fn:=Tryz.f111,c:=aj Tryz.f111,ins:={ sl:=[(0, .t (.ls (.ls (.st .GSpan))))] },out:=.data (.t (.ls (.i .i64))),cuts:=[(58,Iw),(3730,B0)] }
abbrev IP:Tm:={ sl:=[(0, .t (.ls (.st .GSpan))),(1, .t (.i .i64)),(5, .t (.i .i64))],ob:=[] }
noncomputable def f112:FI:={ fid:=112,fn:=Tryz.f112,c:=aj Tryz.f112,ins:={ sl:=[(0, .t (.ls (.st .GSpan))),(1, .t (.i .i64))] },out:=.new (.t (.b)),cuts:=[(26,IP)] }
noncomputable def f113:FI:={ fid:=113,fn:=Tryz.f113,c:=aj Tryz.f113,ins:={ sl:=[(0, .t (.ls (.st .GSpan))),(1, .t (.st .GSpan))] },out:=.own true 50 (.st .GSpan),cuts:=[] }
abbrev IM:Tm:={ sl:=[(0, .t (.ls (.st .GSpan))),(1, .t (.ls (.st .GSpan))),(2, .t (.i .i64)),(7, .t (.ls (.i .i64))),(8, .k (.row 0 2)),(9, .t (.i .i64))],ob:=[.row 50 (.st .GSpan)] }
noncomputable def f55:FI:={ fid:=55,fn:=Tryz.f55,c:=aj Tryz.f55,ins:={ sl:=[(0, .t (.ls (.st .GSpan))),(1, .t (.ls (.st .GSpan))),(2, .t (.i .i64))] },out:=.own true 50 (.st .GSpan),cuts:=[(122,IM)] }
noncomputable def f18:FI:={ fid:=18,fn:=Tryz.f18,c:=aj Tryz.f18,ins:={ sl:=[(0, .t (.ls (.st .GSpan))),(1, .t (.st .GSpan))] },out:=.own true 50 (.st .GSpan),cuts:=[] }
abbrev NU:Tm:={ sl:=[(0, .t (.ls (.st .GPosting))),(3, .k (.ptr 0 4 0 0)),(5, .t (.i .i64))],ob:=[.box [.t (.st .GPosting)]] }
noncomputable def f79:FI:={ fid:=79,fn:=Tryz.f79,c:=aj Tryz.f79,ins:={ sl:=[(0, .t (.ls (.st .GPosting))),(1, .t (.st .GPosting))] },out:=.own true 78 (.st .GPosting),cuts:=[(28,NU)] }
abbrev IU:Tm:={ sl:=[(0, .t (.ls (.st .GFact))),(3, .k (.row 0 14)),(4, .k (.row 1 4)),(5, .t (.i .i64))],ob:=[.row 61 (.st .GFact), .row 78 (.st .GPosting)] }
abbrev Ec:Tm:={ sl:=[(0, .t (.ls (.st .GFact))),(3, .k (.row 0 14)),(4, .k (.row 1 4)),(5, .t (.i .i64)),(6, .t (.i .i64))],ob:=[.row 61 (.st .GFact), .row 78 (.st .GPosting)] }
abbrev wG:Tm:={ sl:=[(0, .t (.ls (.st .GFact))),(3, .k (.row 0 14)),(4, .k (.row 1 4)),(5, .t (.i .i64)),(6, .t (.i .i64)),(7, .k (.row 2 2)),(8, .t (.i .i64))],ob:=[.row 61 (.st .GFact), .row 78 (.st .GPosting), .row 50 (.st .GSpan)] }
abbrev wM:Tm:={ sl:=[(0, .t (.ls (.st .GFact))),(3, .k (.row 0 14)),(4, .k (.row 1 4)),(5, .t (.i .i64)),(6, .t (.i .i64)),(7, .k (.row 2 2)),(9, .t (.i .i64))],ob:=[.row 61 (.st .GFact), .row 78 (.st .GPosting), .row 50 (.st .GSpan)] }
noncomputable def f30:FI:={ fid:=30,fn:=Tryz.f30,c:=aj Tryz.f30,ins:={ sl:=[(0, .t (.ls (.st .GFact)))] },out:=.own true 78 (.st .GPosting),cuts:=[(122,IU),(7826,Ec),(2003530,wG),(4007070,wM)] }
noncomputable def f34:FI:={ fid:=34,fn:=Tryz.f34,c:=aj Tryz.f34,ins:={ sl:=[(0, .t (.st .GSpan)),(1, .t (.i .i64))] },out:=.new (.t (.b)),cuts:=[] }
abbrev G2:Tm:={ sl:=[(0, .t (.ls (.st .GFact))),(1, .t (.i .i64)),(4, .k (.ptr 0 1 0 0)),(5, .k (.ptr 1 1 0 0)),(6, .t (.i .i64))],ob:=[.row 230 (.i .i64), .row 230 (.i .i64)] }
noncomputable def f155:FI:={ fid:=155,fn:=Tryz.f155,c:=aj Tryz.f155,ins:={ sl:=[(0, .t (.ls (.st .GFact))),(1, .t (.i .i64))] },out:=.new (.t (.arr 6 (.i .i64))),cuts:=[(58,G2)] }
abbrev IW:Tm:={ sl:=[(0, .t (.ls (.st .GFact))),(1, .t (.i .i64)),(6, .k (.row 0 14)),(7, .t (.i .i64)),(8, .t (.i .i64))],ob:=[.row 61 (.st .GFact)] }
noncomputable def f83:FI:={ fid:=83,fn:=Tryz.f83,c:=aj Tryz.f83,ins:={ sl:=[(0, .t (.ls (.st .GFact))),(1, .t (.i .i64))] },out:=.new (.tp [.t (.i .i64), .t (.b)]),cuts:=[(122,IW)] }
abbrev Hv:Tm:={ sl:=[(0, .t (.ls (.st .GFact))),(1, .t (.i .i64)),(5, .t (.ls (.i .i64))),(6, .t (.i .i64))],ob:=[] }
noncomputable def f156:FI:={ fid:=156,fn:=Tryz.f156,c:=aj Tryz.f156,ins:={ sl:=[(0, .t (.ls (.st .GFact))),(1, .t (.i .i64))] },out:=.data (.t (.ls (.i .i64))),cuts:=[(58,Hv)] }
abbrev GE:Tm:={ sl:=[(0, .t (.ls (.st .GFact))),(1, .t (.ls (.st .GFact))),(3, .t (.i .i64)),(6, .k (.ptr 0 5 0 0)),(10, .k (.ptr 1 1 0 0)),(11, .t (.i .i64)),(12, .t (.i .i64)),(13, .t (.i .i64)),(14, .t (.i .i64))],ob:=[.box [.t (.st .GRules)], .row 230 (.i .i64)] }
noncomputable def f82:FI:={ fid:=82,fn:=Tryz.f82,c:=aj Tryz.f82,ins:={ sl:=[(0, .t (.ls (.st .GFact))),(1, .t (.ls (.st .GFact))),(2, .t (.st .GRules)),(3, .t (.i .i64))] },out:=.new (.tp [.t (.i .i64), .t (.b)]),cuts:=[(122,GE)] }
abbrev No:Tm:={ sl:=[(0, .t (.ls (.st .GFact))),(1, .t (.ls (.st .GFact))),(2, .t (.ls (.st .GPosting))),(4, .t (.i .i64)),(8, .k (.ptr 0 5 0 0)),(12, .t (.i .i64)),(13, .t (.i .i64))],ob:=[.box [.t (.st .GRules)]] }
abbrev Ha:Tm:={ sl:=[(0, .t (.ls (.st .GFact))),(1, .t (.ls (.st .GFact))),(4, .t (.i .i64)),(8, .k (.ptr 0 5 0 0)),(12, .t (.i .i64)),(14, .t (.i .i64))],ob:=[.box [.t (.st .GRules)]] }
abbrev DJ:Tm:={ sl:=[(0, .t (.ls (.st .GFact))),(1, .t (.ls (.st .GFact))),(4, .t (.i .i64)),(12, .t (.i .i64)),(17, .t (.i .i64))],ob:=[] }
noncomputable def f35:FI:={ fid:=35,fn:=Tryz.f35,c:=aj Tryz.f35,ins:={ sl:=[(0, .t (.ls (.st .GFact))),(1, .t (.ls (.st .GFact))),(2, .t (.ls (.st .GPosting))),(3, .t (.st .GRules)),(4, .t (.i .i64))] },out:=.new (.tp [.t (.i .i64), .t (.i .i64)]),cuts:=[(58,No),(250,Ha),(2042,DJ)] }
abbrev Nf:Tm:={ sl:=[(0, .t (.ls (.st .GFact))),(1, .t (.ls (.st .GRules))),(5, .k (.row 0 14)),(6, .k (.row 1 4)),(7, .k (.ptr 2 2 0 0)),(8, .t (.ls (.i .i64))),(9, .t (.i .i64))],ob:=[.row 61 (.st .GFact), .row 78 (.st .GPosting), .box [.t (.st .GSpan)]] }
abbrev NZ:Tm:={ sl:=[(0, .t (.ls (.st .GFact))),(1, .t (.ls (.st .GRules))),(5, .k (.row 0 14)),(6, .k (.row 1 4)),(7, .k (.ptr 2 2 0 0)),(8, .t (.ls (.i .i64))),(10, .t (.i .i64))],ob:=[.row 61 (.st .GFact), .row 78 (.st .GPosting), .box [.t (.st .GSpan)]] }
abbrev Hk:Tm:={ sl:=[(0, .t (.ls (.st .GFact))),(1, .t (.ls (.st .GRules))),(5, .k (.row 0 14)),(6, .k (.row 1 4)),(7, .k (.ptr 2 2 0 0)),(8, .t (.ls (.i .i64))),(12, .t (.i .i64))],ob:=[.row 61 (.st .GFact), .row 78 (.st .GPosting), .box [.t (.st .GSpan)]] }
abbrev G5:Tm:={ sl:=[(0, .t (.ls (.st .GFact))),(1, .t (.ls (.st .GRules))),(5, .k (.row 0 14)),(6, .k (.row 1 4)),(7, .k (.ptr 2 2 0 0)),(8, .t (.ls (.i .i64))),(13, .k (.row 3 4)),(14, .t (.i .i64))],ob:=[.row 61 (.st .GFact), .row 78 (.st .GPosting), .box [.t (.st .GSpan)], .row 85 (.st .GSegment)] }
abbrev Dj:Tm:={ sl:=[(0, .t (.ls (.st .GFact))),(1, .t (.ls (.st .GRules))),(5, .k (.row 0 14)),(6, .k (.row 1 4)),(7, .k (.ptr 2 2 0 0)),(8, .t (.ls (.i .i64))),(10, .t (.i .i64)),(11, .t (.i .i64))],ob:=[.row 61 (.st .GFact), .row 78 (.st .GPosting), .box [.t (.st .GSpan)]] }
noncomputable def f8:FI:={ fid:=8,fn:=Tryz.f8,c:=aj Tryz.f8,ins:={ sl:=[(0, .t (.ls (.st .GFact))),(1, .t (.ls (.st .GRules)))] },out:=.own true 85 (.st .GSegment),cuts:=[(250,Nf),(506,NZ),(1018,Hk),(4090,G5),(64806,Dj)] }
noncomputable def f105:FI:={ fid:=105,fn:=Tryz.f105,c:=aj Tryz.f105,ins:={ sl:=[(0, .t (.ls (.st .GSpan)))] },out:=.own true 50 (.st .GSpan),cuts:=[] }
abbrev L6:Tm:={ sl:=[(0, .t (.ls (.st .GSegment))),(1, .t (.i .i64)),(2, .t (.i .i64)),(7, .k (.row 0 2)),(8, .t (.i .i64))],ob:=[.row 50 (.st .GSpan)] }
noncomputable def f50:FI:={ fid:=50,fn:=Tryz.f50,c:=aj Tryz.f50,ins:={ sl:=[(0, .t (.ls (.st .GSegment))),(1, .t (.i .i64)),(2, .t (.i .i64))] },out:=.own true 50 (.st .GSpan),cuts:=[(58,L6)] }
abbrev Ex:Tm:={ sl:=[(1, .t (.i .i64)),(5, .k (.row 0 2)),(6, .k (.row 1 2)),(7, .t (.i .i64))],ob:=[.row 50 (.st .GSpan), .row 50 (.st .GSpan)] }
noncomputable def f104:FI:={ fid:=104,fn:=Tryz.f104,c:=aj Tryz.f104,ins:={ sl:=[(0, .t (.ls (.st .GSpan))),(1, .t (.i .i64))] },out:=.own true 50 (.st .GSpan),cuts:=[(122,Ex)] }
noncomputable def f49:FI:={ fid:=49,fn:=Tryz.f49,c:=aj Tryz.f49,ins:={ sl:=[(0, .t (.ls (.st .GSpan))),(1, .t (.i .i64)),(2, .t (.i .i64))] },out:=.own true 50 (.st .GSpan),cuts:=[] }
noncomputable def f106:FI:={ fid:=106,fn:=Tryz.f106,c:=aj Tryz.f106,ins:={ sl:=[(0, .t (.i .i64))] },out:=.new (.t (.i .i64)),cuts:=[] }
abbrev LO:Tm:={ sl:=[(0, .t (.i .i64)),(3, .t (.i .i64))],ob:=[] }
noncomputable def f52:FI:={ fid:=52,fn:=Tryz.f52,c:=aj Tryz.f52,ins:={ sl:=[(0, .t (.i .i64))] },out:=.new (.t (.i .i64)),cuts:=[(26,LO)] }
abbrev MO:Tm:={ sl:=[(1, .t (.i .i64)),(2, .k (.ptr 0 8 0 0)),(6, .t (.i .i64))],ob:=[.box [.t (.i .i64), .t (.st .GRounding), .t (.ls (.st .GCredit)), .t (.ls (.st .GIndex)), .t (.ls (.st .GLet)), .t (.ls (.st .GGrant)), .t (.ls (.st .GReduce))]] }
noncomputable def f51:FI:={ fid:=51,fn:=Tryz.f51,c:=aj Tryz.f51,ins:={ sl:=[(0, .t (.st .GVersion)),(1, .t (.i .i64))] },out:=.new (.tp [.t (.i .i64), .t (.b)]),cuts:=[(26,MO)] }
abbrev Dg:Tm:={ sl:=[(0, .t (.ls (.st .GFact))),(1, .t (.i .i64)),(2, .t (.i .i64)),(7, .k (.row 0 14)),(8, .k (.row 1 2)),(9, .t (.i .i64))],ob:=[.row 61 (.st .GFact), .row 50 (.st .GSpan)] }
noncomputable def f107:FI:={ fid:=107,fn:=Tryz.f107,c:=aj Tryz.f107,ins:={ sl:=[(0, .t (.ls (.st .GFact))),(1, .t (.i .i64)),(2, .t (.i .i64))] },out:=.own true 50 (.st .GSpan),cuts:=[(122,Dg)] }
abbrev HW:Tm:={ sl:=[(0, .t (.ls (.st .GFact))),(2, .t (.i .i64)),(3, .t (.i .i64)),(4, .t (.i .i64)),(11, .k (.row 0 14)),(12, .k (.row 1 2)),(13, .t (.i .i64))],ob:=[.row 61 (.st .GFact), .row 50 (.st .GSpan)] }
abbrev BB:Tm:={ sl:=[(0, .t (.ls (.st .GFact))),(2, .t (.i .i64)),(3, .t (.i .i64)),(4, .t (.i .i64)),(11, .k (.row 0 14)),(12, .k (.row 1 2)),(13, .t (.i .i64)),(14, .k (.row 2 2)),(15, .t (.i .i64))],ob:=[.row 61 (.st .GFact), .row 50 (.st .GSpan), .row 50 (.st .GSpan)] }
noncomputable def f53:FI:={ fid:=53,fn:=Tryz.f53,c:=aj Tryz.f53,ins:={ sl:=[(0, .t (.ls (.st .GFact))),(1, .t (.i .i64)),(2, .t (.i .i64)),(3, .t (.i .i64)),(4, .t (.i .i64))] },out:=.own true 50 (.st .GSpan),cuts:=[(250,HW),(64074,BB)] }
abbrev L4:Tm:={ sl:=[(0, .t (.ls (.st .GFact))),(1, .t (.ls (.st .GSegment))),(2, .t (.ls (.st .GScheme))),(3, .t (.i .i64)),(10, .t (.i .i64))],ob:=[] }
abbrev HV:Tm:={ sl:=[(0, .t (.ls (.st .GFact))),(1, .t (.ls (.st .GSegment))),(2, .t (.ls (.st .GScheme))),(3, .t (.i .i64)),(12, .k (.row 0 4)),(13, .t (.i .i64))],ob:=[.row 115 (.st .GPeriod)] }
abbrev AC:Tm:={ sl:=[(0, .t (.ls (.st .GFact))),(1, .t (.ls (.st .GSegment))),(2, .t (.ls (.st .GScheme))),(3, .t (.i .i64)),(12, .k (.row 0 4)),(13, .t (.i .i64)),(14, .t (.i .i64)),(15, .t (.i .i64))],ob:=[.row 115 (.st .GPeriod)] }
abbrev xd:Tm:={ sl:=[(0, .t (.ls (.st .GFact))),(1, .t (.ls (.st .GSegment))),(2, .t (.ls (.st .GScheme))),(3, .t (.i .i64)),(12, .k (.row 0 4)),(13, .t (.i .i64)),(14, .t (.i .i64)),(15, .t (.i .i64)),(16, .k (.row 1 2)),(19, .t (.i .i64))],ob:=[.row 115 (.st .GPeriod), .row 50 (.st .GSpan)] }
noncomputable def f13:FI:={ fid:=13,fn:=Tryz.f13,c:=aj Tryz.f13,ins:={ sl:=[(0, .t (.ls (.st .GFact))),(1, .t (.ls (.st .GSegment))),(2, .t (.ls (.st .GScheme))),(3, .t (.i .i64))] },out:=.new (.tp [.t (.ls (.st .GPeriod)), .t (.i .i64)]),cuts:=[(58,L4),(250,HV),(32038,AC),(8201806,xd)] }
abbrev Hc:Tm:={ sl:=[(0, .t (.ls (.st .GPeriod))),(1, .t (.i .i64)),(2, .t (.i .i64)),(3, .t (.i .i64)),(9, .t (.i .i64))],ob:=[] }
noncomputable def f278:FI:={ fid:=278,fn:=Tryz.f278,c:=aj Tryz.f278,ins:={ sl:=[(0, .t (.ls (.st .GPeriod))),(1, .t (.i .i64)),(2, .t (.i .i64)),(3, .t (.i .i64))] },out:=.new (.t (.b)),cuts:=[(26,Hc)] }
abbrev HF:Tm:={ sl:=[(0, .t (.ls (.st .GPeriod))),(1, .t (.i .i64)),(2, .t (.i .i64)),(7, .t (.i .i64)),(8, .t (.i .i64))],ob:=[] }
noncomputable def f294:FI:={ fid:=294,fn:=Tryz.f294,c:=aj Tryz.f294,ins:={ sl:=[(0, .t (.ls (.st .GPeriod))),(1, .t (.i .i64)),(2, .t (.i .i64))] },out:=.new (.t (.i .i64)),cuts:=[(58,HF)] }
abbrev GG:Tm:={ sl:=[(0, .t (.ls (.st .GPeriod))),(1, .t (.i .i64)),(2, .t (.i .i64)),(7, .t (.i .i64)),(8, .t (.i .i64))],ob:=[] }
noncomputable def f295:FI:={ fid:=295,fn:=Tryz.f295,c:=aj Tryz.f295,ins:={ sl:=[(0, .t (.ls (.st .GPeriod))),(1, .t (.i .i64)),(2, .t (.i .i64))] },out:=.new (.t (.i .i64)),cuts:=[(58,GG)] }
noncomputable def f279:FI:={ fid:=279,fn:=Tryz.f279,c:=aj Tryz.f279,ins:={ sl:=[(0, .t (.ls (.st .GPeriod))),(1, .t (.i .i64)),(2, .t (.i .i64)),(3, .t (.i .i64))] },out:=.new (.t (.b)),cuts:=[] }
abbrev G1:Tm:={ sl:=[(0, .t (.ls (.st .GPeriod))),(1, .t (.i .i64)),(7, .t (.i .i64))],ob:=[] }
abbrev zp:Tm:={ sl:=[(0, .t (.ls (.st .GPeriod))),(1, .t (.i .i64)),(7, .t (.i .i64)),(8, .t (.i .i64)),(9, .t (.i .i64))],ob:=[] }
noncomputable def f244:FI:={ fid:=244,fn:=Tryz.f244,c:=aj Tryz.f244,ins:={ sl:=[(0, .t (.ls (.st .GPeriod))),(1, .t (.i .i64))] },out:=.new (.tp [.t (.i .i64), .t (.i .i64), .t (.b)]),cuts:=[(58,G1),(14922,zp)] }
abbrev IN:Tm:={ sl:=[(0, .t (.ls (.st .GPeriod))),(3, .t (.ls (.i .i64))),(4, .t (.i .i64))],ob:=[] }
abbrev EL:Tm:={ sl:=[(0, .t (.ls (.st .GPeriod))),(3, .t (.ls (.i .i64))),(6, .k (.row 0 4)),(7, .t (.i .i64))],ob:=[.row 272 (.st .GCounted)] }
abbrev yb:Tm:={ sl:=[(0, .t (.ls (.st .GPeriod))),(3, .t (.ls (.i .i64))),(4, .t (.i .i64)),(5, .k (.ptr 0 2 0 0))],ob:=[.box [.t (.st .GSpan)]] }
abbrev yV:Tm:={ sl:=[(0, .t (.ls (.st .GPeriod))),(3, .t (.ls (.i .i64))),(4, .t (.i .i64)),(5, .k (.ptr 0 2 0 0))],ob:=[.box [.t (.st .GSpan)]] }
noncomputable def f184:FI:={ fid:=184,fn:=Tryz.f184,c:=aj Tryz.f184,ins:={ sl:=[(0, .t (.ls (.st .GPeriod)))] },out:=.own true 272 (.st .GCounted),cuts:=[(58,IN),(250,EL),(14927,yb),(29855,yV)] }
abbrev GX:Tm:={ sl:=[(1, .t (.ls (.st .GFact))),(2, .t (.ls (.i .i64))),(3, .t (.i .i64)),(4, .k (.ptr 0 3 0 0)),(9, .k (.row 1 9)),(10, .t (.i .i64))],ob:=[.box [.t (.ls (.st .GState)), .t (.ls (.st .GRules)), .t (.ls (.st .GRate))], .row 113 (.st .GScheme)] }
noncomputable def f115:FI:={ fid:=115,fn:=Tryz.f115,c:=aj Tryz.f115,ins:={ sl:=[(0, .t (.st .GLaws)),(1, .t (.ls (.st .GFact))),(2, .t (.ls (.i .i64))),(3, .t (.i .i64))] },out:=.own true 272 (.st .GCounted),cuts:=[(58,GX)] }
noncomputable def f56:FI:={ fid:=56,fn:=Tryz.f56,c:=aj Tryz.f56,ins:={ sl:=[(0, .t (.st .GLaws)),(1, .t (.ls (.st .GFact))),(2, .t (.i .i64))] },out:=.new (.tp [.t (.ls (.st .GCounted)), .t (.i .i64)]),cuts:=[] }
noncomputable def f20:FI:={ fid:=20,fn:=Tryz.f20,c:=aj Tryz.f20,ins:={ sl:=[(0, .t (.st .GLaws)),(1, .k (.row 0 14)),(2, .t (.i .i64)),(1000001, .k (.row 0 14))],ob:=[.row 61 (.st .GFact)] },out:=.gen ({ sl:=[(1000001, .k (.row 0 14)),(2000000, .tp [.t (.ls (.st .GCounted))])],ob:=[.row 61 (.st .GFact)] }),cuts:=[] }
noncomputable def f117:FI:={ fid:=117,fn:=Tryz.f117,c:=aj Tryz.f117,ins:={ sl:=[(0, .t (.i .i64))] },out:=.new (.t (.b)),cuts:=[] }
noncomputable def f246:FI:={ fid:=246,fn:=Tryz.f246,c:=aj Tryz.f246,ins:={ sl:=[(0, .t (.i .i64))] },out:=.new (.t (.b)),cuts:=[] }
noncomputable def f189:FI:={ fid:=189,fn:=Tryz.f189,c:=aj Tryz.f189,ins:={ sl:=[(0, .t (.i .i64))] },out:=.new (.t (.b)),cuts:=[] }
noncomputable def f126:FI:={ fid:=126,fn:=Tryz.f126,c:=aj Tryz.f126,ins:={ sl:=[(0, .t (.i .i64)),(1, .t (.i .i64))] },out:=.new (.t (.i .i64)),cuts:=[] }
noncomputable def f186:FI:={ fid:=186,fn:=Tryz.f186,c:=aj Tryz.f186,ins:={ sl:=[(0, .t (.i .i64))] },out:=.new (.t (.i .i64)),cuts:=[] }
noncomputable def f118:FI:={ fid:=118,fn:=Tryz.f118,c:=aj Tryz.f118,ins:={ sl:=[(0, .t (.i .i64))] },out:=.new (.t (.b)),cuts:=[] }
noncomputable def f188:FI:={ fid:=188,fn:=Tryz.f188,c:=aj Tryz.f188,ins:={ sl:=[(0, .t (.i .i64))] },out:=.new (.t (.i .u64)),cuts:=[] }
abbrev IH:Tm:={ sl:=[(0, .t (.i .u64)),(1, .t (.i .u64))],ob:=[] }
noncomputable def f187:FI:={ fid:=187,fn:=Tryz.f187,c:=aj Tryz.f187,ins:={ sl:=[(0, .t (.i .u64)),(1, .t (.i .u64))] },out:=.new (.t (.i .u64)),cuts:=[(12,IH)] }
noncomputable def f119:FI:={ fid:=119,fn:=Tryz.f119,c:=aj Tryz.f119,ins:={ sl:=[(0, .t (.st .GFraction))] },out:=.new (.t (.b)),cuts:=[] }
noncomputable def f120:FI:={ fid:=120,fn:=Tryz.f120,c:=aj Tryz.f120,ins:={ sl:=[(0, .t (.i .i64))] },out:=.new (.t (.b)),cuts:=[] }
abbrev NO:Tm:={ sl:=[(0, .t (.ls (.st .GRate))),(8, .t (.ls (.st .GRate))),(9, .t (.i .i64)),(10, .t (.i .i64))],ob:=[] }
noncomputable def f57:FI:={ fid:=57,fn:=Tryz.f57,c:=aj Tryz.f57,ins:={ sl:=[(0, .t (.ls (.st .GRate)))] },out:=.new (.t (.i .i64)),cuts:=[(58,NO)] }
abbrev D8:Tm:={ sl:=[(3, .t (.i .i64)),(6, .t (.b))],ob:=[] }
abbrev Bd:Tm:={ sl:=[(3, .t (.i .i64)),(11, .t (.b))],ob:=[] }
abbrev wF:Tm:={ sl:=[(3, .t (.i .i64)),(20, .t (.b))],ob:=[] }
noncomputable def f193:FI:={ fid:=193,fn:=Tryz.f193,c:=aj Tryz.f193,ins:={ sl:=[(0, .t (.i .i64))] },out:=.new (.t (.s)),cuts:=[(215,D8),(3455,Bd),(221183,wF)] }
noncomputable def f196:FI:={ fid:=196,fn:=Tryz.f196,c:=aj Tryz.f196,ins:={ sl:=[(0, .t (.i .i64)),(1, .t (.i .i64)),(2, .t (.i .i64))] },out:=.new (.t (.b)),cuts:=[] }
noncomputable def f302:FI:={ fid:=302,fn:=Tryz.f302,c:=aj Tryz.f302,ins:={ sl:=[(0, .t (.s)),(1, .t (.i .u8))] },out:=.data (.t (.i .i64)),cuts:=[] }
noncomputable def f297:FI:={ fid:=297,fn:=Tryz.f297,c:=aj Tryz.f297,ins:={ sl:=[(0, .t (.s)),(1, .t (.i .u8))] },out:=.new (.t (.i .i64)),cuts:=[] }
noncomputable def f286:FI:={ fid:=286,fn:=Tryz.f286,c:=aj Tryz.f286,ins:={ sl:=[(0, .t (.s)),(1, .t (.s))] },out:=.new (.t (.i .i64)),cuts:=[] }
noncomputable def f257:FI:={ fid:=257,fn:=Tryz.f257,c:=aj Tryz.f257,ins:={ sl:=[(0, .t (.s)),(1, .t (.s))] },out:=.new (.t (.i .i64)),cuts:=[] }
noncomputable def f195:FI:={ fid:=195,fn:=Tryz.f195,c:=aj Tryz.f195,ins:={ sl:=[(0, .t (.s)),(1, .t (.s))] },out:=.new (.t (.b)),cuts:=[] }
noncomputable def f194:FI:={ fid:=194,fn:=Tryz.f194,c:=aj Tryz.f194,ins:={ sl:=[(0, .t (.s)),(1, .dp (.s))] },out:=.new (.t (.b)),cuts:=[] }
noncomputable def f197:FI:={ fid:=197,fn:=Tryz.f197,c:=aj Tryz.f197,ins:={ sl:=[(0, .t (.b)),(1, .t (.i .i64)),(2, .t (.i .i64)),(3, .t (.i .i64))] },out:=.new (.t (.b)),cuts:=[] }
noncomputable def f198:FI:={ fid:=198,fn:=Tryz.f198,c:=aj Tryz.f198,ins:={ sl:=[(0, .t (.st .GSpan))] },out:=.new (.t (.b)),cuts:=[] }
abbrev Bx:Tm:={ sl:=[(1, .k (.ptr 0 14 0 0)),(89, .t (.i .i64)),(97, .t (.b))],ob:=[.box [.t (.st .GFact)]] }
noncomputable def f138:FI:={ fid:=138,fn:=Tryz.f138,c:=aj Tryz.f138,ins:={ sl:=[(0, .t (.st .GFact))] },out:=.new (.t (.b)),cuts:=[(2007,Bx)] }
noncomputable def f101:FI:={ fid:=101,fn:=Tryz.f101,c:=aj Tryz.f101,ins:={ sl:=[(0, .t (.st .GFact))] },out:=.new (.t (.b)),cuts:=[] }
abbrev H1:Tm:={ sl:=[(1, .fn 101 []),(5, .k (.row 0 14)),(8, .t (.ls (.st .GFact))),(9, .t (.i .i64)),(10, .t (.i .i64))],ob:=[.row 61 (.st .GFact)] }
noncomputable def f174:FI:={ fid:=174,fn:=Tryz.f174,c:=aj Tryz.f174,ins:={ sl:=[(0, .t (.ls (.st .GFact))),(1, .fn 101 [])] },out:=.own true 61 (.st .GFact),cuts:=[(58,H1)] }
noncomputable def f103:FI:={ fid:=103,fn:=Tryz.f103,c:=aj Tryz.f103,ins:={ sl:=[(0, .t (.ls (.st .GFact)))] },out:=.own true 61 (.st .GFact),cuts:=[] }
noncomputable def f121:FI:={ fid:=121,fn:=Tryz.f121,c:=aj Tryz.f121,ins:={ sl:=[(0, .t (.st .GFact)),(1, .t (.i .i64))] },out:=.new (.t (.i .i64)),cuts:=[] }
noncomputable def f108:FI:={ fid:=108,fn:=Tryz.f108,c:=aj Tryz.f108,ins:={ sl:=[(0, .t (.st .GSpan))] },out:=.new (.t (.st .GSpan)),cuts:=[] }
abbrev NQ:Tm:={ sl:=[(3, .k (.ptr 0 1 0 0)),(10, .t (.ls (.st .GSpan))),(11, .t (.i .i64)),(12, .t (.i .i64))],ob:=[.box [.k (.row 1 2)], .row 50 (.st .GSpan)] }
abbrev GH:Tm:={ sl:=[(6, .k (.row 0 2)),(32, .k (.row 1 2)),(33, .t (.i .i64)),(34, .t (.i .i64))],ob:=[.row 50 (.st .GSpan), .row 50 (.st .GSpan)] }
noncomputable def f54:FI:={ fid:=54,fn:=Tryz.f54,c:=aj Tryz.f54,ins:={ sl:=[(0, .t (.ls (.st .GSpan)))] },out:=.own true 50 (.st .GSpan),cuts:=[(58,NQ),(506,GH)] }
abbrev Hn:Tm:={ sl:=[(1, .t (.i .i64)),(2, .t (.i .i64)),(7, .k (.row 0 2)),(10, .t (.ls (.st .GCounted))),(11, .t (.i .i64)),(12, .t (.i .i64))],ob:=[.row 50 (.st .GSpan)] }
noncomputable def f122:FI:={ fid:=122,fn:=Tryz.f122,c:=aj Tryz.f122,ins:={ sl:=[(0, .t (.ls (.st .GCounted))),(1, .t (.i .i64)),(2, .t (.i .i64))] },out:=.own true 50 (.st .GSpan),cuts:=[(58,Hn)] }
abbrev HO:Tm:={ sl:=[(0, .k (.row 0 2)),(1, .k (.row 1 2)),(5, .k (.row 2 2)),(6, .t (.i .i64)),(7, .t (.i .i64))],ob:=[.row 50 (.st .GSpan), .row 50 (.st .GSpan), .row 50 (.st .GSpan)] }
abbrev Dh:Tm:={ sl:=[(0, .k (.row 0 2)),(1, .k (.row 1 2)),(5, .k (.row 2 2)),(6, .t (.i .i64)),(7, .t (.i .i64))],ob:=[.row 50 (.st .GSpan), .row 50 (.st .GSpan), .row 50 (.st .GSpan)] }
noncomputable def f98:FI:={ fid:=98,fn:=Tryz.f98,c:=aj Tryz.f98,ins:={ sl:=[(0, .t (.ls (.st .GSpan))),(1, .t (.ls (.st .GSpan)))] },out:=.own true 50 (.st .GSpan),cuts:=[(122,HO),(3915,Dh)] }
noncomputable def f42:FI:={ fid:=42,fn:=Tryz.f42,c:=aj Tryz.f42,ins:={ sl:=[(0, .t (.ls (.st .GSpan))),(1, .t (.st .GSpan))] },out:=.own true 50 (.st .GSpan),cuts:=[] }
abbrev H7:Tm:={ sl:=[(1, .t (.i .i64)),(6, .t (.i .i64)),(7, .t (.b)),(10, .t (.ls (.st .GFact))),(11, .t (.i .i64)),(12, .t (.i .i64))],ob:=[] }
noncomputable def f223:FI:={ fid:=223,fn:=Tryz.f223,c:=aj Tryz.f223,ins:={ sl:=[(0, .t (.ls (.st .GFact))),(1, .t (.i .i64))] },out:=.new (.tp [.t (.i .i64), .t (.b)]),cuts:=[(58,H7)] }
noncomputable def f172:FI:={ fid:=172,fn:=Tryz.f172,c:=aj Tryz.f172,ins:={ sl:=[(0, .t (.ls (.st .GFact)))] },out:=.new (.tp [.t (.i .i64), .t (.b)]),cuts:=[] }
noncomputable def f173:FI:={ fid:=173,fn:=Tryz.f173,c:=aj Tryz.f173,ins:={ sl:=[(0, .t (.ls (.st .GFact)))] },out:=.new (.tp [.t (.i .i64), .t (.b)]),cuts:=[] }
noncomputable def f102:FI:={ fid:=102,fn:=Tryz.f102,c:=aj Tryz.f102,ins:={ sl:=[(0, .t (.ls (.st .GFact)))] },out:=.new (.t (.st .GSpan)),cuts:=[] }
abbrev Mg:Tm:={ sl:=[(0, .k (.row 0 14)),(1, .t (.ls (.st .GCounted))),(2, .t (.i .i64)),(7, .k (.row 1 15)),(13, .k (.row 2 14)),(14, .t (.i .i64)),(15, .t (.i .i64)),(1000000, .k (.row 0 14))],ob:=[.row 61 (.st .GFact), .row 140 (.st .GEarnings_income), .row 61 (.st .GFact)] }
noncomputable def f58:FI:={ fid:=58,fn:=Tryz.f58,c:=aj Tryz.f58,ins:={ sl:=[(0, .k (.row 0 14)),(1, .t (.ls (.st .GCounted))),(2, .t (.i .i64)),(1000000, .k (.row 0 14))],ob:=[.row 61 (.st .GFact)] },out:=.gen ({ sl:=[(1000000, .k (.row 0 14)),(2000000, .tp [.k (.row 1 15)])],ob:=[.row 61 (.st .GFact), .row 140 (.st .GEarnings_income)] }),cuts:=[(58,Mg)] }
noncomputable def f123:FI:={ fid:=123,fn:=Tryz.f123,c:=aj Tryz.f123,ins:={ sl:=[(0, .t (.i .i64))] },out:=.new (.t (.b)),cuts:=[] }
noncomputable def f124:FI:={ fid:=124,fn:=Tryz.f124,c:=aj Tryz.f124,ins:={ sl:=[(0, .t (.i .i64))] },out:=.new (.t (.i .i64)),cuts:=[] }
noncomputable def f125:FI:={ fid:=125,fn:=Tryz.f125,c:=aj Tryz.f125,ins:={ sl:=[(0, .t (.i .i64))] },out:=.new (.t (.i .i64)),cuts:=[] }
abbrev N0:Tm:={ sl:=[(0, .t (.i .i64)),(2, .t (.i .i64))],ob:=[] }
abbrev GT:Tm:={ sl:=[(2, .t (.i .i64)),(3, .t (.i .i64)),(6, .t (.i .i64))],ob:=[] }
noncomputable def f59:FI:={ fid:=59,fn:=Tryz.f59,c:=aj Tryz.f59,ins:={ sl:=[(0, .t (.i .i64))] },out:=.new (.tp [.t (.i .i64), .t (.i .i64), .t (.i .i64), .t (.b)]),cuts:=[(60,N0),(508,GT)] }
abbrev DZ:Tm:={ sl:=[(0, .t (.i .i64)),(1, .t (.i .i64)),(8, .t (.i .i64)),(9, .t (.i .i64))],ob:=[] }
noncomputable def f131:FI:={ fid:=131,fn:=Tryz.f131,c:=aj Tryz.f131,ins:={ sl:=[(0, .t (.i .i64)),(1, .t (.i .i64)),(2, .t (.i .i64))] },out:=.new (.tp [.t (.i .i64), .t (.b)]),cuts:=[(122,DZ)] }
noncomputable def f63:FI:={ fid:=63,fn:=Tryz.f63,c:=aj Tryz.f63,ins:={ sl:=[(0, .t (.i .i64))] },out:=.new (.t (.st .GSpan)),cuts:=[] }
abbrev H6:Tm:={ sl:=[(1, .t (.i .i64)),(5, .t (.i .i64)),(9, .k (.row 0 2)),(10, .t (.i .i64)),(11, .t (.i .i64))],ob:=[.row 50 (.st .GSpan)] }
noncomputable def f130:FI:={ fid:=130,fn:=Tryz.f130,c:=aj Tryz.f130,ins:={ sl:=[(0, .t (.ls (.st .GSpan))),(1, .t (.i .i64))] },out:=.new (.t (.i .i64)),cuts:=[(58,H6)] }
noncomputable def f62:FI:={ fid:=62,fn:=Tryz.f62,c:=aj Tryz.f62,ins:={ sl:=[(0, .t (.ls (.st .GSpan)))] },out:=.new (.t (.i .i64)),cuts:=[] }
noncomputable def f65:FI:={ fid:=65,fn:=Tryz.f65,c:=aj Tryz.f65,ins:={ sl:=[(0, .t (.st .GFact)),(1, .t (.i .i64))] },out:=.new (.t (.i .i64)),cuts:=[] }
noncomputable def f132:FI:={ fid:=132,fn:=Tryz.f132,c:=aj Tryz.f132,ins:={ sl:=[(0, .t (.i .i64))] },out:=.new (.t (.b)),cuts:=[] }
abbrev IE:Tm:={ sl:=[(1, .k (.ptr 0 2 0 0)),(5, .t (.b))],ob:=[.box [.t (.st .GRounding)]] }
noncomputable def f133:FI:={ fid:=133,fn:=Tryz.f133,c:=aj Tryz.f133,ins:={ sl:=[(0, .t (.st .GRounding))] },out:=.new (.t (.b)),cuts:=[(53,IE)] }
noncomputable def f135:FI:={ fid:=135,fn:=Tryz.f135,c:=aj Tryz.f135,ins:={ sl:=[(0, .t (.i .i64))] },out:=.new (.t (.i .u64)),cuts:=[] }
abbrev Em:Tm:={ sl:=[(9, .k (.ptr 0 2 0 0)),(12, .t (.i .u64)),(14, .t (.i .u64)),(15, .t (.i .i64))],ob:=[.box [.t (.st .GRounding)]] }
abbrev AI:Tm:={ sl:=[(9, .k (.ptr 0 2 0 0)),(15, .t (.i .i64)),(16, .t (.b))],ob:=[.box [.t (.st .GRounding)]] }
abbrev AV:Tm:={ sl:=[(9, .k (.ptr 0 2 0 0)),(15, .t (.i .i64))],ob:=[.box [.t (.st .GRounding)]] }
noncomputable def f134:FI:={ fid:=134,fn:=Tryz.f134,c:=aj Tryz.f134,ins:={ sl:=[(0, .t (.b)),(1, .t (.i .u64)),(2, .t (.i .u64)),(3, .t (.i .u64)),(4, .t (.st .GRounding))] },out:=.new (.tp [.t (.i .i64), .t (.i .i64)]),cuts:=[(255,Em),(1023,AI),(2047,AV)] }
abbrev H5:Tm:={ sl:=[(0, .t (.ls (.st .GRate))),(1, .t (.i .i64)),(2, .t (.i .i64)),(6, .k (.ptr 0 2 0 0)),(8, .t (.i .i64)),(11, .t (.ls (.st .GRate))),(12, .t (.i .i64)),(13, .t (.i .i64))],ob:=[.box [.t (.st .GFraction)]] }
noncomputable def f136:FI:={ fid:=136,fn:=Tryz.f136,c:=aj Tryz.f136,ins:={ sl:=[(0, .t (.ls (.st .GRate))),(1, .t (.i .i64)),(2, .t (.i .i64))] },out:=.new (.tp [.t (.st .GFraction), .t (.b)]),cuts:=[(58,H5)] }
noncomputable def f137:FI:={ fid:=137,fn:=Tryz.f137,c:=aj Tryz.f137,ins:={ sl:=[(0, .t (.i .u64)),(1, .t (.i .u64))] },out:=.new (.tp [.t (.i .u64), .t (.i .u64)]),cuts:=[] }
noncomputable def f64:FI:={ fid:=64,fn:=Tryz.f64,c:=aj Tryz.f64,ins:={ sl:=[(0, .t (.i .i64)),(1, .t (.i .i64)),(2, .t (.i .i64)),(3, .t (.i .i64)),(4, .t (.ls (.st .GRate))),(5, .t (.st .GRounding))] },out:=.new (.tp [.t (.i .i64), .t (.i .i64)]),cuts:=[] }
abbrev I2:Tm:={ sl:=[(3, .t (.i .i64)),(4, .t (.ls (.st .GRate))),(12, .k (.row 0 15)),(13, .fn 2000000000 [.k (.ptr 1 1 0 0)]),(60, .k (.row 0 15)),(61, .t (.i .i64)),(62, .t (.i .i64)),(1000000, .k (.row 2 14))],ob:=[.row 140 (.st .GEarnings_income), .map 138 (.i .i64) (.i .i64), .row 61 (.st .GFact)] }
abbrev DA:Tm:={ sl:=[(3, .t (.i .i64)),(4, .t (.ls (.st .GRate))),(12, .k (.row 0 15)),(13, .fn 2000000000 [.k (.ptr 1 1 0 0)]),(27, .k (.row 2 2)),(102, .k (.row 3 1)),(103, .t (.i .i64)),(104, .t (.i .i64)),(1000000, .k (.row 4 14))],ob:=[.row 140 (.st .GEarnings_income), .map 138 (.i .i64) (.i .i64), .row 58 (.st .GEarning), .row 3 (.i .i64), .row 61 (.st .GFact)] }
abbrev BI:Tm:={ sl:=[(3, .t (.i .i64)),(4, .t (.ls (.st .GRate))),(12, .k (.row 0 15)),(13, .fn 2000000000 [.k (.ptr 1 1 0 0)]),(60, .k (.row 0 15)),(61, .t (.i .i64)),(62, .t (.i .i64)),(67, .t (.ls (.st .GSpan))),(68, .t (.i .i64)),(69, .t (.i .i64)),(1000000, .k (.row 2 14))],ob:=[.row 140 (.st .GEarnings_income), .map 138 (.i .i64) (.i .i64), .row 61 (.st .GFact)] }
abbrev wz:Tm:={ sl:=[(3, .t (.i .i64)),(4, .t (.ls (.st .GRate))),(12, .k (.row 0 15)),(13, .fn 2000000000 [.k (.ptr 1 1 0 0)]),(27, .k (.row 2 2)),(29, .t (.i .i64)),(30, .t (.i .i64)),(102, .k (.row 3 1)),(103, .t (.i .i64)),(104, .t (.i .i64)),(112, .k (.row 0 15)),(113, .t (.i .i64)),(114, .t (.i .i64)),(1000000, .k (.row 4 14))],ob:=[.row 140 (.st .GEarnings_income), .map 138 (.i .i64) (.i .i64), .row 58 (.st .GEarning), .row 3 (.i .i64), .row 61 (.st .GFact)] }
abbrev ut:Tm:={ sl:=[(3, .t (.i .i64)),(4, .t (.ls (.st .GRate))),(12, .k (.row 0 15)),(13, .fn 2000000000 [.k (.ptr 1 1 0 0)]),(22, .t (.i .i64)),(26, .t (.i .i64)),(60, .k (.row 0 15)),(61, .t (.i .i64)),(62, .t (.i .i64)),(67, .t (.ls (.st .GSpan))),(68, .t (.i .i64)),(69, .t (.i .i64)),(1000000, .k (.row 2 14))],ob:=[.row 140 (.st .GEarnings_income), .map 138 (.i .i64) (.i .i64), .row 61 (.st .GFact)] }
noncomputable def f21:FI:={ fid:=21,fn:=Tryz.f21,c:=aj Tryz.f21,ins:={ sl:=[(0, .k (.row 0 14)),(1, .t (.ls (.st .GCounted))),(2, .t (.i .i64)),(3, .t (.i .i64)),(4, .t (.ls (.st .GRate))),(1000000, .k (.row 0 14))],ob:=[.row 61 (.st .GFact)] },out:=.gen ({ sl:=[(1000000, .k (.row 0 14)),(2000000, .tp [.tp [.t (.ls (.st .GEarning)), .t (.i .i64)]])],ob:=[.row 61 (.st .GFact)] }),cuts:=[(250,I2),(1018,DA),(64102,BI),(1042842,wz),(65640862,ut)] }
abbrev I0:Tm:={ sl:=[(0, .t (.ls (.st .GCounted))),(1, .t (.i .i64)),(2, .t (.i .i64)),(7, .k (.row 0 2)),(8, .t (.i .i64))],ob:=[.row 50 (.st .GSpan)] }
noncomputable def f142:FI:={ fid:=142,fn:=Tryz.f142,c:=aj Tryz.f142,ins:={ sl:=[(0, .t (.ls (.st .GCounted))),(1, .t (.i .i64)),(2, .t (.i .i64))] },out:=.own true 50 (.st .GSpan),cuts:=[(58,I0)] }
noncomputable def f141:FI:={ fid:=141,fn:=Tryz.f141,c:=aj Tryz.f141,ins:={ sl:=[(0, .t (.ls (.st .GSpan))),(1, .t (.ls (.st .GSpan)))] },out:=.own true 50 (.st .GSpan),cuts:=[] }
abbrev MS:Tm:={ sl:=[(0, .t (.ls (.st .GFact))),(2, .t (.ls (.st .GCounted))),(3, .t (.i .i64)),(5, .k (.ptr 0 14 0 0)),(9, .t (.i .i64))],ob:=[.box [.t (.st .GFact)]] }
noncomputable def f67:FI:={ fid:=67,fn:=Tryz.f67,c:=aj Tryz.f67,ins:={ sl:=[(0, .t (.ls (.st .GFact))),(1, .t (.st .GFact)),(2, .t (.ls (.st .GCounted))),(3, .t (.i .i64))] },out:=.new (.t (.ls (.st .GSpan))),cuts:=[(15,MS)] }
abbrev GO:Tm:={ sl:=[(0, .t (.i .i64)),(4, .t (.i .i64))],ob:=[] }
noncomputable def f200:FI:={ fid:=200,fn:=Tryz.f200,c:=aj Tryz.f200,ins:={ sl:=[(0, .t (.i .i64))] },out:=.new (.tp [.t (.i .i64), .t (.i .i64)]),cuts:=[(14,GO)] }
noncomputable def f143:FI:={ fid:=143,fn:=Tryz.f143,c:=aj Tryz.f143,ins:={ sl:=[(0, .t (.i .i64))] },out:=.new (.tp [.t (.i .i64), .t (.i .i64), .t (.i .i64), .t (.b)]),cuts:=[] }
abbrev MP:Tm:={ sl:=[(0, .t (.ls (.st .GSpan))),(4, .t (.i .i64)),(5, .t (.i .i64)),(6, .t (.i .i64))],ob:=[] }
noncomputable def f68:FI:={ fid:=68,fn:=Tryz.f68,c:=aj Tryz.f68,ins:={ sl:=[(0, .t (.ls (.st .GSpan)))] },out:=.new (.tp [.t (.i .i64), .t (.i .i64)]),cuts:=[(58,MP)] }
noncomputable def f69:FI:={ fid:=69,fn:=Tryz.f69,c:=aj Tryz.f69,ins:={ sl:=[(0, .t (.i .i64))] },out:=.new (.tp [.t (.i .i64), .t (.b)]),cuts:=[] }
abbrev Hp:Tm:={ sl:=[(3, .t (.i .i64)),(4, .k (.row 0 2)),(5, .t (.i .i64))],ob:=[.row 50 (.st .GSpan)] }
noncomputable def f70:FI:={ fid:=70,fn:=Tryz.f70,c:=aj Tryz.f70,ins:={ sl:=[(0, .t (.ls (.st .GSpan)))] },out:=.new (.t (.i .i64)),cuts:=[(122,Hp)] }
noncomputable def f72:FI:={ fid:=72,fn:=Tryz.f72,c:=aj Tryz.f72,ins:={ sl:=[(0, .t (.st .GFact)),(1, .t (.i .i64))] },out:=.new (.t (.i .i64)),cuts:=[] }
noncomputable def f145:FI:={ fid:=145,fn:=Tryz.f145,c:=aj Tryz.f145,ins:={ sl:=[(0, .t (.i .i64))] },out:=.new (.t (.b)),cuts:=[] }
noncomputable def f146:FI:={ fid:=146,fn:=Tryz.f146,c:=aj Tryz.f146,ins:={ sl:=[(0, .t (.i .i64))] },out:=.new (.t (.b)),cuts:=[] }
abbrev Ed:Tm:={ sl:=[(0, .t (.b)),(10, .t (.i .u64)),(13, .t (.i .u64))],ob:=[] }
noncomputable def f148:FI:={ fid:=148,fn:=Tryz.f148,c:=aj Tryz.f148,ins:={ sl:=[(0, .t (.b)),(1, .t (.st .GPensionref1_wide)),(2, .t (.i .u64)),(3, .t (.st .GRounding))] },out:=.new (.tp [.t (.i .i64), .t (.i .i64)]),cuts:=[(255,Ed)] }
abbrev Ih:Tm:={ sl:=[(0, .t (.ls (.st .GRate))),(1, .t (.i .i64)),(2, .t (.i .i64)),(6, .k (.ptr 0 2 0 0)),(8, .t (.i .i64)),(9, .t (.i .i64))],ob:=[.box [.t (.st .GFraction)]] }
noncomputable def f150:FI:={ fid:=150,fn:=Tryz.f150,c:=aj Tryz.f150,ins:={ sl:=[(0, .t (.ls (.st .GRate))),(1, .t (.i .i64)),(2, .t (.i .i64))] },out:=.new (.tp [.t (.st .GFraction), .t (.b)]),cuts:=[(58,Ih)] }
noncomputable def f151:FI:={ fid:=151,fn:=Tryz.f151,c:=aj Tryz.f151,ins:={ sl:=[(0, .t (.i .u64)),(1, .t (.i .u64))] },out:=.new (.t (.st .GPensionref1_wide)),cuts:=[] }
noncomputable def f71:FI:={ fid:=71,fn:=Tryz.f71,c:=aj Tryz.f71,ins:={ sl:=[(0, .t (.i .i64)),(1, .t (.i .i64)),(2, .t (.i .i64)),(3, .t (.i .i64)),(4, .t (.ls (.st .GRate))),(5, .t (.st .GRounding))] },out:=.new (.tp [.t (.i .i64), .t (.i .i64)]),cuts:=[] }
abbrev HG:Tm:={ sl:=[(0, .k (.row 0 14)),(1, .t (.ls (.st .GCounted))),(2, .t (.i .i64)),(3, .t (.i .i64)),(4, .t (.ls (.st .GRate))),(12, .k (.row 1 1)),(13, .k (.row 2 2)),(14, .t (.i .i64)),(1000000, .k (.row 0 14))],ob:=[.row 61 (.st .GFact), .row 45 (.ls (.st .GSpan)), .row 50 (.st .GSpan)] }
abbrev Dx:Tm:={ sl:=[(0, .k (.row 0 14)),(3, .t (.i .i64)),(4, .t (.ls (.st .GRate))),(12, .k (.row 1 1)),(13, .k (.row 2 2)),(16, .k (.row 3 2)),(17, .k (.ptr 4 2 0 0)),(19, .t (.i .i64)),(20, .t (.i .i64)),(1000000, .k (.row 0 14))],ob:=[.row 61 (.st .GFact), .row 45 (.ls (.st .GSpan)), .row 50 (.st .GSpan), .row 58 (.st .GEarning), .box [.t (.st .GRounding)]] }
abbrev yC:Tm:={ sl:=[(0, .k (.row 0 14)),(3, .t (.i .i64)),(4, .t (.ls (.st .GRate))),(12, .k (.row 1 1)),(13, .k (.row 2 2)),(16, .k (.row 3 2)),(17, .k (.ptr 4 2 0 0)),(19, .t (.i .i64)),(20, .t (.i .i64)),(21, .t (.i .i64)),(23, .t (.i .i64)),(1000000, .k (.row 0 14))],ob:=[.row 61 (.st .GFact), .row 45 (.ls (.st .GSpan)), .row 50 (.st .GSpan), .row 58 (.st .GEarning), .box [.t (.st .GRounding)]] }
abbrev tR:Tm:={ sl:=[(0, .k (.row 0 14)),(3, .t (.i .i64)),(4, .t (.ls (.st .GRate))),(12, .k (.row 1 1)),(13, .k (.row 2 2)),(16, .k (.row 3 2)),(17, .k (.ptr 4 2 0 0)),(19, .t (.i .i64)),(20, .t (.i .i64)),(25, .k (.ptr 5 2 0 0)),(26, .t (.i .i64)),(27, .t (.i .i64)),(1000000, .k (.row 0 14))],ob:=[.row 61 (.st .GFact), .row 45 (.ls (.st .GSpan)), .row 50 (.st .GSpan), .row 58 (.st .GEarning), .box [.t (.st .GRounding)], .box [.t (.st .GSpan)]] }
noncomputable def f22:FI:={ fid:=22,fn:=Tryz.f22,c:=aj Tryz.f22,ins:={ sl:=[(0, .k (.row 0 14)),(1, .t (.ls (.st .GCounted))),(2, .t (.i .i64)),(3, .t (.i .i64)),(4, .t (.ls (.st .GRate))),(1000000, .k (.row 0 14))],ob:=[.row 61 (.st .GFact)] },out:=.gen ({ sl:=[(1000000, .k (.row 0 14)),(2000000, .tp [.tp [.t (.ls (.st .GEarning)), .t (.i .i64)]])],ob:=[.row 61 (.st .GFact)] }),cuts:=[(250,HG),(4090,Dx),(523559,yC),(33507834,tR)] }
noncomputable def f23:FI:={ fid:=23,fn:=Tryz.f23,c:=aj Tryz.f23,ins:={ sl:=[] },out:=.new (.t (.b)),cuts:=[] }
abbrev Ly:Tm:={ sl:=[(3, .t (.i .i64)),(4, .t (.i .i64)),(13, .k (.ptr 0 3 0 0)),(14, .k (.row 1 14)),(15, .t (.ls (.st .GCounted)))],ob:=[.box [.t (.ls (.st .GState)), .t (.ls (.st .GRules)), .t (.ls (.st .GRate))], .row 61 (.st .GFact)] }
abbrev EA:Tm:={ sl:=[(16, .t (.ls (.st .GEarning))),(18, .t (.ls (.st .GEarning))),(20, .t (.i .i64))],ob:=[] }
noncomputable def f5:FI:={ fid:=5,fn:=Tryz.f5,c:=aj Tryz.f5,ins:={ sl:=[(0, .t (.ls (.st .GPensionhand_Fact))),(1, .t (.ls (.i .i64))),(2, .t (.i .i64)),(3, .t (.i .i64)),(4, .t (.i .i64)),(5, .t (.i .i64))] },out:=.new (.t (.b)),cuts:=[(511,Ly),(32762,EA)] }
abbrev VQ:Tm:={ sl:=[(8, .k (.row 0 14)),(9, .t (.ls (.st .GCounted))),(10, .t (.i .i64))],ob:=[.row 61 (.st .GFact)] }
abbrev UR:Tm:={ sl:=[(8, .k (.row 0 14)),(9, .t (.ls (.st .GCounted))),(11, .t (.i .i64)),(12, .t (.i .i64)),(13, .t (.i .i64))],ob:=[.row 61 (.st .GFact)] }
abbrev Vf:Tm:={ sl:=[(8, .k (.row 0 14)),(11, .t (.i .i64)),(12, .t (.i .i64)),(17, .t (.i .i64))],ob:=[.row 61 (.st .GFact)] }
abbrev Rx:Tm:={ sl:=[(8, .k (.row 0 14)),(9, .t (.ls (.st .GCounted))),(11, .t (.i .i64)),(12, .t (.i .i64)),(13, .t (.i .i64)),(14, .t (.ls (.st .GEarning))),(16, .t (.i .i64))],ob:=[.row 61 (.st .GFact)] }
noncomputable def f6:FI:={ fid:=6,fn:=Tryz.f6,c:=aj Tryz.f6,ins:={ sl:=[(0, .t (.ls (.st .GPensionhand_Fact))),(1, .t (.ls (.i .i64))),(2, .t (.i .i64))] },out:=.new (.t (.b)),cuts:=[(506,VQ),(2042,UR),(4090,Vf),(522830,Rx)] }
noncomputable def TI:XT→HP f302.ins.tys→Option (HP f302.out.tys):=fun _ (a:ByteArray × Int)=>some (Go.firstIdx a.1 a.2.toNat.toUInt8)
noncomputable def Tb:kD:={ P:=Tryz.prog,fs:=[(92,[f92]),(38,[f38]),(39,[f39]),(167,[f167]),(93,[f93]),(37,[f37]),(259,[f259]),(260,[f260]),(262,[f262]),(261,[f261]),(208,[f208]),(264,[f264]),(258,[f258]),(201,[f201]),(144,[f144]),(265,[f265]),(209,[f209]),(263,[f263]),(205,[f205]),(157,[f157]),(84,[f84]),(162,[f162]),(88,[f88]),(158,[f158]),(85,[f85]),(159,[f159]),(206,[f206]),(207,[f207]),(160,[f160]),(86,[f86]),(149,[f149]),(234,[f234]),(256,[f256]),(192,[f192]),(202,[f202]),(199,[f199]),(168,[f168]),(94,[f94]),(161,[f161]),(87,[f87]),(163,[f163]),(210,[f210]),(211,[f211]),(212,[f212]),(164,[f164]),(269,[f269]),(287,[f287]),(266,[f266]),(288,[f288]),(289,[f289]),(267,[f267]),(213,[f213]),(165,[iK]),(89,[f89]),(90,[f90]),(78,[f78]),(147,[f147]),(214,[f214]),(140,[f140]),(290,[f290]),(268,[f268]),(215,[f215]),(218,[f218]),(219,[f219]),(220,[f220]),(170,[f170]),(166,[f166]),(91,[f91]),(36,[f36]),(9,[f9]),(10,[f10]),(26,[f26]),(25,[f25]),(74,[f74]),(203,[f203]),(152,[f152]),(75,[f75]),(76,[f76]),(204,[rO,f204]),(153,[f153]),(77,[f77]),(27,[f27]),(73,[f73]),(24,[f24]),(19,[f19]),(271,[f271]),(305,[f305]),(304,[f304]),(301,[f301]),(292,[f292]),(293,[f293]),(277,[f277]),(243,[f243]),(28,[f28]),(139,[f139]),(66,[f66]),(181,[f181]),(114,[f114]),(33,[f33]),(245,[f245]),(185,[f185]),(116,[f116]),(183,[f183]),(182,[f182]),(29,[f29]),(154,[f154]),(80,[f80]),(81,[f81]),(31,[f31]),(180,[f180]),(32,[f32]),(111,[f111]),(112,[f112]),(113,[f113]),(55,[f55]),(18,[f18]),(79,[f79]),(30,[f30]),(34,[f34]),(155,[f155]),(83,[f83]),(156,[f156]),(82,[f82]),(35,[f35]),(8,[f8]),(105,[f105]),(50,[f50]),(104,[f104]),(49,[f49]),(106,[f106]),(52,[f52]),(51,[f51]),(107,[f107]),(53,[f53]),(13,[f13]),(278,[f278]),(294,[f294]),(295,[f295]),(279,[f279]),(244,[f244]),(184,[f184]),(115,[f115]),(56,[f56]),(20,[f20]),(117,[f117]),(246,[f246]),(189,[f189]),(126,[f126]),(186,[f186]),(118,[f118]),(188,[f188]),(187,[f187]),(119,[f119]),(120,[f120]),(57,[f57]),(193,[f193]),(196,[f196]),(297,[f297]),(286,[f286]),(257,[f257]),(195,[f195]),(194,[f194]),(197,[f197]),(198,[f198]),(138,[f138]),(101,[f101]),(174,[f174]),(103,[f103]),(121,[f121]),(108,[f108]),(54,[f54]),(122,[f122]),(98,[f98]),(42,[f42]),(223,[f223]),(172,[f172]),(173,[f173]),(102,[f102]),(58,[f58]),(123,[f123]),(124,[f124]),(125,[f125]),(59,[f59]),(131,[f131]),(63,[f63]),(130,[f130]),(62,[f62]),(65,[f65]),(132,[f132]),(133,[f133]),(135,[f135]),(134,[f134]),(136,[f136]),(137,[f137]),(64,[f64]),(21,[f21]),(142,[f142]),(141,[f141]),(67,[f67]),(200,[f200]),(143,[f143]),(68,[f68]),(69,[f69]),(70,[f70]),(72,[f72]),(145,[f145]),(146,[f146]),(148,[f148]),(150,[f150]),(151,[f151]),(71,[f71]),(22,[f22]),(23,[f23]),(5,[f5]),(6,[f6])],sp:=(fun f=>(bif Nat.beq f 302 then .hand f302 TI else (bif Nat.beq f 109 then .mut (fun _=>ti 45 110 50 (.st .GSpan) j7) else (bif Nat.beq f 61 then .mut (fun _=>K4 129) else (bif Nat.beq f 60 then .mut (fun _=>Co 129 3) else .none))))) }
theorem ah:jp Tb:=⟨fun f=>(.cnd (.h _) (.cnd (.m _) (.cnd (.m _) (.cnd (.m _) trivial))))⟩
noncomputable def vd (t0:ByteArray) (t1:Int):Option Int:=TI (Xc Tb) (t0,t1)
noncomputable def bL (n:Int):Option ByteArray:=Xf Tb f92 1 f92.ins n
noncomputable def lB (n:Int) (s:ByteArray):Option ByteArray:=Xf Tb f92 28 Mt (n,s)
noncomputable def am (n:Int) (m:Int):Option Int:=Xf Tb f38 1 f38.ins (n,m)
noncomputable def ax (n:List Int) (i:Int):Option Int:=Xf Tb f39 1 f39.ins (n,i)
noncomputable def fD (n:Int):Option ByteArray:=Xf Tb f167 1 f167.ins n
noncomputable def lY (xfrom:ByteArray) (n:List Int) (xat:Int):Option ByteArray:=Xf Tb f93 1 f93.ins (xfrom,n,xat)
noncomputable def e9 (n:List Int) (xat:Int) (years:ByteArray) (s:ByteArray):Option ByteArray:=Xf Tb f93 31 N2 (n,xat,years,s)
noncomputable def ja (n:List Int) (xat:Int) (years:ByteArray) (s:ByteArray):Option ByteArray:=Xf Tb f93 127 IQ (n,xat,years,s)
noncomputable def jm (n:List Int) (xat:Int) (years:ByteArray) (s:ByteArray):Option ByteArray:=Xf Tb f93 255 GM (n,xat,years,s)
noncomputable def iA (n:List Int) (xat:Int) (s:ByteArray):Option ByteArray:=Xf Tb f93 8191 DT (n,xat,s)
noncomputable def ia (n:List Int) (xat:Int) (s:ByteArray):Option ByteArray:=Xf Tb f93 65535 Bl (n,xat,s)
noncomputable def Bk (state:Int) (n:List Int):Option ByteArray:=Xf Tb f37 1 f37.ins (state,n)
noncomputable def nR (state:Int) (n:List Int) (s:ByteArray):Option ByteArray:=Xf Tb f37 31 Mo (state,n,s)
noncomputable def I8 (s:ByteArray) (xat:Int):Option Int:=Xf Tb f259 1 f259.ins (s,xat)
noncomputable def fV (s:ByteArray) (xat:Int) (comment:Bool):Option Int:=Xf Tb f259 28 IZ (s,xat,comment)
noncomputable def kM (c:Int):Option Bool:=Xf Tb f260 1 f260.ins c
noncomputable def j8 (c:Int):Option Bool:=Xf Tb f262 1 f262.ins c
noncomputable def yP (s:ByteArray) (xat:Int) (point:Bool):Option Int:=Xf Tb f261 1 f261.ins (s,xat,point)
noncomputable def gM (s:ByteArray) (xat:Int) (point:Bool) (n:Int):Option Int:=Xf Tb f261 28 Ic (s,xat,point,n)
noncomputable def tD (s:ByteArray):Option (ByteArray × ByteArray × Int × Bool):=Xf Tb f208 1 f208.ins s
noncomputable def jD (s:ByteArray) (dim:Int):Option (ByteArray × ByteArray × Int × Bool):=Xf Tb f208 15 He (s,dim)
noncomputable def it (s:ByteArray) (dim:Int) (xat:Int) (i:Int):Option (ByteArray × ByteArray × Int × Bool):=Xf Tb f208 250 Dt (s,dim,xat,i)
noncomputable def lE (dim:Int) (a:ByteArray) (b:ByteArray):Option (ByteArray × ByteArray × Int × Bool):=Xf Tb f208 255 Dk (dim,a,b)
noncomputable def j6 (dim:Int) (a:ByteArray) (b:ByteArray) (i:Int):Option (ByteArray × ByteArray × Int × Bool):=Xf Tb f208 2042 AZ (dim,a,b,i)
noncomputable def pd (s:ByteArray):Option (Int × Bool):=Xf Tb f264 1 f264.ins s
noncomputable def mq (s:ByteArray) (n:Int) (i:Int):Option (Int × Bool):=Xf Tb f264 58 Ik (s,n,i)
noncomputable def vF (year:Int):Option Bool:=Xf Tb f258 1 f258.ins year
noncomputable def iU (year:Int) (month:Int):Option Int:=Xf Tb f201 1 f201.ins (year,month)
noncomputable def tz (month:Int):Option Int:=Xf Tb f144 1 f144.ins month
noncomputable def jK (month:Int) (n:Int) (m:Int):Option Int:=Xf Tb f144 58 H8 (month,n,m)
noncomputable def DL (year:Int) (month:Int) (dom:Int):Option (Int × Bool):=Xf Tb f265 1 f265.ins (year,month,dom)
noncomputable def nV (s:ByteArray):Option (Int × Bool):=Xf Tb f209 1 f209.ins s
noncomputable def BN (s:ByteArray) (xat:Int):Option Int:=Xf Tb f263 1 f263.ins (s,xat)
noncomputable def pC (s:ByteArray) (xat:Int):Option Int:=Xf Tb f263 7 Nt (s,xat)
noncomputable def bm (t29:Bool):Option Int:=Xf Tb f263 117 DV t29
noncomputable def AT (s:ByteArray) (xat:Int):Option (GToken × Int × Int):=Xf Tb f205 1 f205.ins (s,xat)
noncomputable def dY (s:ByteArray) (xat:Int) (kind:Int) (n:Int) (ok:Bool) (t4:GToken):Option (GToken × Int × Int):=Xf Tb f205 127 Dp (s,xat,kind,n,ok,t4)
noncomputable def Eg (s:ByteArray):Option (List GToken × Int × Int):=Xf Tb f157 1 f157.ins s
noncomputable def pe (s:ByteArray) (xat:Int) (out:List GToken):Option (List GToken × Int × Int):=Xf Tb f157 62 H3 (s,xat,out)
noncomputable def yA (s:ByteArray):Option (Bool × Int × Int × Int × Int × GPensionref5_reader):=Xf Tb f84 1 f84.ins s
noncomputable def eX (r:GPensionref5_reader) (s:ByteArray):Option Bool:=Xf Tb f162 1 f162.ins (r,s)
noncomputable def aO (s:ByteArray) (r:GPensionref5_reader):Option (Bool × GPensionref5_reader):=Xf Tb f88 1 f88.ins (s,r)
noncomputable def aW (r:GPensionref5_reader):Option GPensionref5_reader:=Xf Tb f158 1 f158.ins r
noncomputable def az (s:ByteArray) (r:GPensionref5_reader):Option GPensionref5_reader:=Xf Tb f85 1 f85.ins (s,r)
noncomputable def dq (r:GPensionref5_reader) (k:Int):Option Bool:=Xf Tb f159 1 f159.ins (r,k)
noncomputable def wX (s:ByteArray):Option Bool:=Xf Tb f206 1 f206.ins s
noncomputable def fM (s:ByteArray) (i:Int):Option Bool:=Xf Tb f206 26 Hl (s,i)
noncomputable def uH (s:ByteArray):Option Bool:=Xf Tb f207 1 f207.ins s
noncomputable def av (t4:Bool):Option Bool:=Xf Tb f207 53 IY t4
noncomputable def iZ (s:ByteArray):Option Bool:=Xf Tb f160 1 f160.ins s
noncomputable def gJ (r:GPensionref5_reader):Option (ByteArray × GPensionref5_reader):=Xf Tb f86 1 f86.ins r
noncomputable def ea (n:Int):Option Int:=Xf Tb f149 1 f149.ins n
noncomputable def uI (x:Int):Option Int:=Xf Tb f256 1 f256.ins x
noncomputable def iG (hi:Int) (lo:Int) (y:Int):Option (Int × Int):=Xf Tb f192 1 f192.ins (hi,lo,y)
noncomputable def rZ (hi:Int) (lo:Int) (y:Int):Option (Int × Int):=Xf Tb f192 7 Nu (hi,lo,y)
noncomputable def pS (hi:Int) (lo:Int) (y:Int):Option (Int × Int):=Xf Tb f192 15 Im (hi,lo,y)
noncomputable def vo (y:Int) (s:Int) (yn1:Int) (yn0:Int) (un32:Int) (un1:Int) (un0:Int) (q1:Int) (rhat:Int):Option (Int × Int):=Xf Tb f192 131068 C3 (y,s,yn1,yn0,un32,un1,un0,q1,rhat)
noncomputable def jJ (w:GPensionref1_wide) (d:Int):Option (GPensionref1_wide × Int):=Xf Tb f202 1 f202.ins (w,d)
noncomputable def Er (a:Int) (b:Int):Option Int:=Xf Tb f199 1 f199.ins (a,b)
noncomputable def bO (a:Int) (b:Int):Option Int:=Xf Tb f199 12 Hx (a,b)
noncomputable def ww (negative:Bool) (n:GPensionref1_wide) (d:Int):Option (GFraction × Int):=Xf Tb f168 1 f168.ins (negative,n,d)
noncomputable def mR (num:Int) (den:Int):Option (GFraction × Int):=Xf Tb f94 1 f94.ins (num,den)
noncomputable def lP (text:ByteArray):Option (GFraction × Int × Bool):=Xf Tb f161 1 f161.ins text
noncomputable def gc (a:ByteArray) (b:ByteArray) (dim:Int) (num:Int) (den:Int) (i:Int) (t2:GFraction):Option (GFraction × Int × Bool):=Xf Tb f161 250 Ez (a,b,dim,num,den,i,t2)
noncomputable def dG (least:Int) (most:Int) (r:GPensionref5_reader):Option (Int × GPensionref5_reader):=Xf Tb f87 1 f87.ins (least,most,r)
noncomputable def FQ (s:ByteArray):Option Int:=Xf Tb f163 1 f163.ins s
noncomputable def wd (s:ByteArray):Option Int:=Xf Tb f210 1 f210.ins s
noncomputable def lO (s:ByteArray):Option Int:=Xf Tb f211 1 f211.ins s
noncomputable def l8 (s:ByteArray):Option Int:=Xf Tb f212 1 f212.ins s
noncomputable def gG (what:Int) (r:GPensionref5_reader):Option (Int × GPensionref5_reader):=Xf Tb f164 1 f164.ins (what,r)
noncomputable def rn (op:Int):Option Int:=Xf Tb f269 1 f269.ins op
noncomputable def gO (op:Int) (r:GPensionref5_reader):Option (GExpr × GPensionref5_reader):=Xf Tb f287 1 f287.ins (op,r)
noncomputable def lW (r:GPensionref5_reader):Option (GExpr × GPensionref5_reader):=Xf Tb f266 1 f266.ins r
noncomputable def zz (op:Int):Option Int:=Xf Tb f288 1 f288.ins op
noncomputable def cO (t3:Int) (t12:Bool):Option Int:=Xf Tb f288 13823 xZ (t3,t12)
noncomputable def wu (op:Int):Option ByteArray:=Xf Tb f289 1 f289.ins op
noncomputable def lT (r:GPensionref5_reader) (n:Int):Option Int:=Xf Tb f267 1 f267.ins (r,n)
noncomputable def dQ (r:GPensionref5_reader) (n:Int) (op:Int):Option Int:=Xf Tb f267 26 IG (r,n,op)
noncomputable def aD (n:Int) (r:GPensionref5_reader):Option (GExpr × GPensionref5_reader):=Xf Tb f213 1 f213.ins (n,r)
noncomputable def fN (n:Int) (r:GPensionref5_reader) (Op:Int) (Value:GFraction) (Dim:Int) (Name:ByteArray) (Op2:Int) (Value2:GFraction) (Dim2:Int) (Name2:ByteArray) (Args:List GExpr):Option (GExpr × GPensionref5_reader):=Xf Tb f213 124 DY (n,r,Op,Value,Dim,Name,Op2,Value2,Dim2,Name2,Args)
noncomputable def lI (r:GPensionref5_reader) (From:Int) (Rounding:GRounding) (Credits:List GCredit) (Series:List GIndex) (Lets:List GLet) (Grants:List GGrant) (Reduces:List GReduce):Option (GPensionref5_reader × Int × GRounding × List GCredit × List GIndex × List GLet × List GGrant × List GReduce):=Xf Tb iK 1 iK.ins (r,From,Rounding,Credits,Series,Lets,Grants,Reduces)
noncomputable def bS (r:GPensionref5_reader) (From:Int) (Rounding:GRounding) (Credits:List GCredit) (Series:List GIndex) (Lets:List GLet) (Grants:List GGrant) (Reduces:List GReduce):Option (GPensionref5_reader × Int × GRounding × List GCredit × List GIndex × List GLet × List GGrant × List GReduce):=Xf Tb iK 3 ED (r,From,Rounding,Credits,Series,Lets,Grants,Reduces)
noncomputable def fp (r:GPensionref5_reader) (From:Int) (Rounding:GRounding) (c:GCredit) (Credits:List GCredit) (Series:List GIndex) (Lets:List GLet) (Grants:List GGrant) (Reduces:List GReduce):Option (GPensionref5_reader × Int × GRounding × List GCredit × List GIndex × List GLet × List GGrant × List GReduce):=Xf Tb iK 75 A2 (r,From,Rounding,c,Credits,Series,Lets,Grants,Reduces)
noncomputable def dC (r:GPensionref5_reader) (From:Int) (Rounding:GRounding) (x:GIndex) (Credits:List GCredit) (Series:List GIndex) (Lets:List GLet) (Grants:List GGrant) (Reduces:List GReduce):Option (GPensionref5_reader × Int × GRounding × List GCredit × List GIndex × List GLet × List GGrant × List GReduce):=Xf Tb iK 315 zi (r,From,Rounding,x,Credits,Series,Lets,Grants,Reduces)
noncomputable def eP (r:GPensionref5_reader) (From:Int) (Rounding:GRounding) (x:GIndex) (Credits:List GCredit) (Series:List GIndex) (Lets:List GLet) (Grants:List GGrant) (Reduces:List GReduce):Option (GPensionref5_reader × Int × GRounding × List GCredit × List GIndex × List GLet × List GGrant × List GReduce):=Xf Tb iK 631 ye (r,From,Rounding,x,Credits,Series,Lets,Grants,Reduces)
noncomputable def ic (r:GPensionref5_reader):Option (GVersion × GPensionref5_reader):=Xf Tb f89 1 f89.ins r
noncomputable def eR (r:GPensionref5_reader) (From:Int) (Rounding:GRounding) (From2:Int) (Rounding2:GRounding):Option (GVersion × GPensionref5_reader):=Xf Tb f89 31 MQ (r,From,Rounding,From2,Rounding2)
noncomputable def em (r:GPensionref5_reader) (From:Int) (Rounding:GRounding) (From2:Int) (Rounding2:GRounding) (Credits:List GCredit) (Series:List GIndex) (Lets:List GLet) (Grants:List GGrant) (Reduces:List GReduce):Option (GVersion × GPensionref5_reader):=Xf Tb f89 4092 Eb (r,From,Rounding,From2,Rounding2,Credits,Series,Lets,Grants,Reduces)
noncomputable def ji (r:GPensionref5_reader):Option Int:=Xf Tb f90 1 f90.ins r
noncomputable def dw (day:Int):Option Bool:=Xf Tb f78 1 f78.ins day
noncomputable def iM (r:GRounding):Option Bool:=Xf Tb f147 1 f147.ins r
noncomputable def nB (n:Int) (of:Int):Option ByteArray:=Xf Tb f214 1 f214.ins (n,of)
noncomputable def cb (n:Int) (of:Int) (i:Int) (l:List ByteArray):Option ByteArray:=Xf Tb f214 58 HE (n,of,i,l)
noncomputable def aH (f:GFraction):Option Bool:=Xf Tb f140 1 f140.ins f
noncomputable def nF (n:Int) (least:Int):Option ByteArray:=Xf Tb f290 1 f290.ins (n,least)
noncomputable def lq (n:Int) (least:Int) (s:ByteArray):Option ByteArray:=Xf Tb f290 28 GS (n,least,s)
noncomputable def kT (a:GFraction):Option ByteArray:=Xf Tb f268 1 f268.ins a
noncomputable def il (s:ByteArray) (a:GFraction):Option ByteArray:=Xf Tb f268 31 Hz (s,a)
noncomputable def iH (value:GFraction) (dim:Int):Option (ByteArray × Bool):=Xf Tb f215 1 f215.ins (value,dim)
noncomputable def dj (dim:Int) (s:ByteArray) (rest:Int) (k:Int):Option (ByteArray × Bool):=Xf Tb f215 2042 AK (dim,s,rest,k)
noncomputable def tF (e:GExpr):Option Int:=Xf Tb f218 1 f218.ins e
noncomputable def mi (n:Int) (i:Int) (Op:Int) (Value:GFraction) (Dim:Int) (Name:ByteArray) (Args:List GExpr):Option Int:=Xf Tb f218 58 Is (n,i,Op,Value,Dim,Name,Args)
noncomputable def vJ (e:GExpr):Option Int:=Xf Tb f219 1 f219.ins e
noncomputable def nS (n:Int) (i:Int) (Op:Int) (Value:GFraction) (Dim:Int) (Name:ByteArray) (Args:List GExpr):Option Int:=Xf Tb f219 58 Il (n,i,Op,Value,Dim,Name,Args)
noncomputable def nG (e:GExpr):Option Bool:=Xf Tb f220 1 f220.ins e
noncomputable def gU (zero:Bool) (i:Int) (Op:Int) (Value:GFraction) (Dim:Int) (Name:ByteArray) (Args:List GExpr):Option Bool:=Xf Tb f220 250 Es (zero,i,Op,Value,Dim,Name,Args)
noncomputable def ef (e:GExpr):Option Bool:=Xf Tb f170 1 f170.ins e
noncomputable def jd (v:GVersion):Option Bool:=Xf Tb f166 1 f166.ins v
noncomputable def cZ (i:Int) (From:Int) (Rounding:GRounding) (Credits:List GCredit) (Series:List GIndex) (Lets:List GLet) (Grants:List GGrant) (Reduces:List GReduce):Option Bool:=Xf Tb f166 58 HJ (i,From,Rounding,Credits,Series,Lets,Grants,Reduces)
noncomputable def fg (i:Int) (From:Int) (Rounding:GRounding) (Credits:List GCredit) (Series:List GIndex) (Lets:List GLet) (Grants:List GGrant) (Reduces:List GReduce):Option Bool:=Xf Tb f166 122 Dl (i,From,Rounding,Credits,Series,Lets,Grants,Reduces)
noncomputable def fh (i:Int) (From:Int) (Rounding:GRounding) (Credits:List GCredit) (Series:List GIndex) (Lets:List GLet) (Grants:List GGrant) (Reduces:List GReduce):Option Bool:=Xf Tb f166 250 DF (i,From,Rounding,Credits,Series,Lets,Grants,Reduces)
noncomputable def fk (i:Int) (From:Int) (Rounding:GRounding) (Credits:List GCredit) (Series:List GIndex) (Lets:List GLet) (Grants:List GGrant) (Reduces:List GReduce):Option Bool:=Xf Tb f166 506 DI (i,From,Rounding,Credits,Series,Lets,Grants,Reduces)
noncomputable def eQ (i:Int) (From:Int) (Rounding:GRounding) (Credits:List GCredit) (Series:List GIndex) (Lets:List GLet) (Grants:List GGrant) (Reduces:List GReduce):Option Bool:=Xf Tb f166 1018 BV (i,From,Rounding,Credits,Series,Lets,Grants,Reduces)
noncomputable def j5 (x:GStatute):Option Bool:=Xf Tb f91 1 f91.ins x
noncomputable def jC (i:Int) (Name:ByteArray) (Currency:Int) (Versions:List GVersion):Option Bool:=Xf Tb f91 58 Np (i,Name,Currency,Versions)
noncomputable def yY (s:ByteArray):Option (GStatute × Int × Int):=Xf Tb f36 1 f36.ins s
noncomputable def fc (first:Bool) (Name:ByteArray) (Currency:Int) (r:GPensionref5_reader) (Name2:ByteArray) (Currency2:Int) (Versions:List GVersion):Option (GStatute × Int × Int):=Xf Tb f36 4090 DX (first,Name,Currency,r,Name2,Currency2,Versions)
noncomputable def Bq (n:List Int):Option GLaws:=Xf Tb f9 1 f9.ins n
noncomputable def kB (n:List Int) (s:Int) (States:List GState) (Rates:List GRate):Option GLaws:=Xf Tb f9 58 P2 (n,s,States,Rates)
noncomputable def jM (n:Int) (k:Int):Option Int:=Xf Tb f10 1 f10.ins (n,k)
noncomputable def tu (n:List Int):Option (List GFact):=Xf Tb f26 1 f26.ins n
noncomputable def mm (n:List Int) (p:Int) (out:List GFact):Option (List GFact):=Xf Tb f26 58 LA (n,p,out)
noncomputable def yh (l:List GFact) (person:Int):Option (List GFact):=Xf Tb f25 1 f25.ins (l,person)
noncomputable def fG (l:List GFact) (person:Int) (i:Int) (out:List GFact):Option (List GFact):=Xf Tb f25 58 MI (l,person,i,out)
noncomputable def my (kind:Int):Option ByteArray:=Xf Tb f74 1 f74.ins kind
noncomputable def zl (kind:Int) (c:Int):Option Bool:=Xf Tb f203 1 f203.ins (kind,c)
noncomputable def fa (c:Int) (s:ByteArray) (i:Int):Option Bool:=Xf Tb f203 58 GY (c,s,i)
noncomputable def cz (kind:Int) (c:Int) (n:Int) (least:Int) (most:Int):Option Bool:=Xf Tb f152 1 f152.ins (kind,c,n,least,most)
noncomputable def fm (f:GFact):Option Bool:=Xf Tb f75 1 f75.ins f
noncomputable def qy (a:GFact) (b:GFact):Option Int:=Xf Tb f76 1 f76.ins (a,b)
noncomputable def bq (n:Int) (size:Int) (b:List Int):Option (List Int):=Xf Tb rO 1 rO.ins (n,size,b)
noncomputable def j0 (n:Int) (i:Int) (b:List Int):Option (List Int):=Xf Tb rO 26 BF (n,i,b)
noncomputable def qY (f:GFact):Option (List Int):=Xf Tb f153 1 f153.ins f
noncomputable def lm (gone:Int) (f:GFact):Option (List Int):=Xf Tb f153 31 HM (gone,f)
noncomputable def jo (s:ByteArray) (i:Int) (f:GFact) (b:List Int):Option (List Int):=Xf Tb f153 1018 BK (s,i,f,b)
noncomputable def cl (s:ByteArray) (i:Int) (f:GFact) (b:List Int):Option (List Int):=Xf Tb f153 8147 Aw (s,i,f,b)
noncomputable def pE (a:GFact) (b:GFact):Option Bool:=Xf Tb f77 1 f77.ins (a,b)
noncomputable def kO (a:List GFact) (b:List GFact):Option (List GFact):=Xf Tb f27 1 f27.ins (a,b)
noncomputable def aV (a:List GFact) (b:List GFact) (i:Int) (out:List GFact):Option (List GFact):=Xf Tb f27 58 L0 (a,b,i,out)
noncomputable def jf (a:List GFact) (b:List GFact) (i:Int) (out:List GFact) (f:GFact):Option (List GFact):=Xf Tb f27 3731 Ep (a,b,i,out,f)
noncomputable def iI (a:List GFact) (b:List GFact) (i:Int) (xat:Int) (out:List GFact) (f:GFact):Option (List GFact):=Xf Tb f27 59708 Av (a,b,i,xat,out,f)
noncomputable def wy (n:Int):Option Int:=Xf Tb f73 1 f73.ins n
noncomputable def BL (r:GPensionhand_Fact):Option GFact:=Xf Tb f24 1 f24.ins r
noncomputable def gH (xfrom:Int) (to:Int) (r:GPensionhand_Fact) (t2:GFact) (f:GFact):Option GFact:=Xf Tb f24 127 HD (xfrom,to,r,t2,f)
noncomputable def ln (xfrom:Int) (to:Int) (u:ByteArray) (i:Int) (r:GPensionhand_Fact) (t2:GFact) (f:GFact):Option GFact:=Xf Tb f24 2042 Ey (xfrom,to,u,i,r,t2,f)
noncomputable def cc (xfrom:Int) (to:Int) (u:ByteArray) (i:Int) (r:GPensionhand_Fact) (t2:GFact) (f:GFact):Option GFact:=Xf Tb f24 16339 Bc (xfrom,to,u,i,r,t2,f)
noncomputable def uk (l:List GPensionhand_Fact) (n:List Int):Option (List GFact):=Xf Tb f19 1 f19.ins (l,n)
noncomputable def km (l:List GPensionhand_Fact) (n:List Int) (i:Int) (out:List GFact):Option (List GFact):=Xf Tb f19 58 MG (l,n,i,out)
noncomputable def iy (l:List GPensionhand_Fact) (n:List Int) (i:Int) (out:List GFact) (r:GPensionhand_Fact):Option (List GFact):=Xf Tb f19 7463 DD (l,n,i,out,r)
noncomputable def tE (name:ByteArray):Option (Int × Bool):=Xf Tb f271 1 f271.ins name
noncomputable def mh (t4:ByteArray) (t5:Bool):Option (Int × Bool):=Xf Tb f271 53 GF (t4,t5)
noncomputable def dK (t4:ByteArray) (t9:Bool):Option (Int × Bool):=Xf Tb f271 215 DP (t4,t9)
noncomputable def qV (op:Int) (d:List Int):Option Int:=Xf Tb f305 1 f305.ins (op,d)
noncomputable def tx (e:GExpr) (env:List GBinding):Option (Int × Int):=Xf Tb f304 1 f304.ins (e,env)
noncomputable def lA (env:List GBinding) (i:Int) (Op:Int) (Value:GFraction) (Dim:Int) (Name:ByteArray) (Args:List GExpr) (d:List Int):Option (Int × Int):=Xf Tb f304 122 Ei (env,i,Op,Value,Dim,Name,Args,d)
noncomputable def jt (env:List GBinding) (i:Int) (Op:Int) (Value:GFraction) (Dim:Int) (Name:ByteArray) (Args:List GExpr):Option (Int × Int):=Xf Tb f304 27626 yq (env,i,Op,Value,Dim,Name,Args)
noncomputable def oJ (e:GExpr) (env:List GBinding):Option (Int × Int):=Xf Tb f301 1 f301.ins (e,env)
noncomputable def mt (env:List GBinding) (i:Int) (Op:Int) (Value:GFraction) (Dim:Int) (Name:ByteArray) (Args:List GExpr):Option (Int × Int):=Xf Tb f301 58 GL (env,i,Op,Value,Dim,Name,Args)
noncomputable def AF (l:List GLet):Option (List GBinding × Int):=Xf Tb f292 1 f292.ins l
noncomputable def jH (l:List GLet) (i:Int) (out:List GBinding):Option (List GBinding × Int):=Xf Tb f292 122 DQ (l,i,out)
noncomputable def jV (l:List GLet) (i:Int) (k:Int) (t31:List GLet) (t32:Int) (t35:ByteArray) (t36:Bool) (t37:Bool) (out:List GBinding):Option (List GBinding × Int):=Xf Tb f292 31306 zg (l,i,k,t31,t32,t35,t36,t37,out)
noncomputable def pj (e:GExpr) (env:List GBinding) (dim:Int):Option Int:=Xf Tb f293 1 f293.ins (e,env,dim)
noncomputable def u5 (v:GVersion):Option Int:=Xf Tb f277 1 f277.ins v
noncomputable def jq (env:List GBinding) (i:Int) (From:Int) (Rounding:GRounding) (Credits:List GCredit) (Series:List GIndex) (Lets:List GLet) (Grants:List GGrant) (Reduces:List GReduce):Option Int:=Xf Tb f277 122 Et (env,i,From,Rounding,Credits,Series,Lets,Grants,Reduces)
noncomputable def jg (env:List GBinding) (i:Int) (From:Int) (Rounding:GRounding) (Credits:List GCredit) (Series:List GIndex) (Lets:List GLet) (Grants:List GGrant) (Reduces:List GReduce):Option Int:=Xf Tb f277 250 Ea (env,i,From,Rounding,Credits,Series,Lets,Grants,Reduces)
noncomputable def jl (env:List GBinding) (i:Int) (From:Int) (Rounding:GRounding) (Credits:List GCredit) (Series:List GIndex) (Lets:List GLet) (Grants:List GGrant) (Reduces:List GReduce):Option Int:=Xf Tb f277 506 DN (env,i,From,Rounding,Credits,Series,Lets,Grants,Reduces)
noncomputable def iJ (env:List GBinding) (i:Int) (From:Int) (Rounding:GRounding) (Credits:List GCredit) (Series:List GIndex) (Lets:List GLet) (Grants:List GGrant) (Reduces:List GReduce):Option Int:=Xf Tb f277 1018 AU (env,i,From,Rounding,Credits,Series,Lets,Grants,Reduces)
noncomputable def ir (env:List GBinding) (i:Int) (k:Int) (From:Int) (Rounding:GRounding) (Credits:List GCredit) (Series:List GIndex) (Lets:List GLet) (Grants:List GGrant) (Reduces:List GReduce):Option Int:=Xf Tb f277 7826 Bo (env,i,k,From,Rounding,Credits,Series,Lets,Grants,Reduces)
noncomputable def hY (env:List GBinding) (i:Int) (k:Int) (From:Int) (Rounding:GRounding) (Credits:List GCredit) (Series:List GIndex) (Lets:List GLet) (Grants:List GGrant) (Reduces:List GReduce):Option Int:=Xf Tb f277 64802 zB (env,i,k,From,Rounding,Credits,Series,Lets,Grants,Reduces)
noncomputable def gk (env:List GBinding) (i:Int) (k:Int) (From:Int) (Rounding:GRounding) (Credits:List GCredit) (Series:List GIndex) (Lets:List GLet) (Grants:List GGrant) (Reduces:List GReduce):Option Int:=Xf Tb f277 130338 wC (env,i,k,From,Rounding,Credits,Series,Lets,Grants,Reduces)
noncomputable def uE (x:GStatute):Option (Int × Int):=Xf Tb f243 1 f243.ins x
noncomputable def kc (i:Int) (Name:ByteArray) (Currency:Int) (Versions:List GVersion):Option (Int × Int):=Xf Tb f243 58 HA (i,Name,Currency,Versions)
noncomputable def mY (t:List GRules):Option Int:=Xf Tb f28 1 f28.ins t
noncomputable def kq (t:List GRules) (i:Int):Option Int:=Xf Tb f28 122 Hm (t,i)
noncomputable def iO (t:List GRules) (i:Int) (k:Int) (r:GRules):Option Int:=Xf Tb f28 31310 AY (t,i,k,r)
noncomputable def bZ (month:Int):Option Bool:=Xf Tb f139 1 f139.ins month
noncomputable def dL (t:List GRate):Option Int:=Xf Tb f66 1 f66.ins t
noncomputable def aU (t:List GRate) (i:Int):Option Int:=Xf Tb f66 58 Mc (t,i)
noncomputable def vL (x:GLaws):Option Int:=Xf Tb f181 1 f181.ins x
noncomputable def g9 (i:Int) (States:List GState) (Treaty:List GRules) (Rates:List GRate):Option Int:=Xf Tb f181 26 HK (i,States,Treaty,Rates)
noncomputable def ii (i:Int) (States:List GState) (Treaty:List GRules) (Rates:List GRate):Option Int:=Xf Tb f181 58 Hd (i,States,Treaty,Rates)
noncomputable def we (x:GLaws) (day:Int):Option Int:=Xf Tb f114 1 f114.ins (x,day)
noncomputable def kw (t:List GRules) (day:Int):Option (GRules × Bool):=Xf Tb f33 1 f33.ins (t,day)
noncomputable def fX (t:List GRules) (day:Int) (i:Int) (t4:GRules):Option (GRules × Bool):=Xf Tb f33 26 Mh (t,day,i,t4)
noncomputable def Jg (l:List Int) (n:Int):Option Bool:=Xf Tb f245 1 f245.ins (l,n)
noncomputable def nH (l:List Int) (n:Int) (i:Int):Option Bool:=Xf Tb f245 26 HB (l,n,i)
noncomputable def uq (t:List GRules) (state:Int) (day:Int):Option Bool:=Xf Tb f185 1 f185.ins (t,state,day)
noncomputable def sJ (x:GLaws) (day:Int):Option (List Int):=Xf Tb f116 1 f116.ins (x,day)
noncomputable def gf (day:Int) (i:Int) (States:List GState) (Treaty:List GRules) (Rates:List GRate) (out:List Int):Option (List Int):=Xf Tb f116 58 Hg (day,i,States,Treaty,Rates,out)
noncomputable def wm (x:GLaws) (state:Int):Option Int:=Xf Tb f183 1 f183.ins (x,state)
noncomputable def lv (state:Int) (i:Int) (States:List GState) (Treaty:List GRules) (Rates:List GRate):Option Int:=Xf Tb f183 26 GJ (state,i,States,Treaty,Rates)
noncomputable def IK (x:GStatute) (day:Int):Option (GVersion × Bool):=Xf Tb f182 1 f182.ins (x,day)
noncomputable def q8 (day:Int) (i:Int) (Name:ByteArray) (Currency:Int) (Versions:List GVersion) (From:Int) (Rounding:GRounding):Option (GVersion × Bool):=Xf Tb f182 58 HU (day,i,Name,Currency,Versions,From,Rounding)
noncomputable def eH (l:List GFact):Option (List GFact):=Xf Tb f29 1 f29.ins l
noncomputable def cR (l:List GFact) (i:Int) (out:List GFact):Option (List GFact):=Xf Tb f29 58 NX (l,i,out)
noncomputable def qQ (l:List GFact) (kind:Int):Option (Int × Bool):=Xf Tb f154 1 f154.ins (l,kind)
noncomputable def da (kind:Int) (day:Int) (ok:Bool) (i:Int) (c:List GFact):Option (Int × Bool):=Xf Tb f154 122 De (kind,day,ok,i,c)
noncomputable def xc (l:List GFact):Option (Int × Bool):=Xf Tb f80 1 f80.ins l
noncomputable def wE (l:List GFact):Option (Int × Bool):=Xf Tb f81 1 f81.ins l
noncomputable def iE (l:List GFact):Option GSpan:=Xf Tb f31 1 f31.ins l
noncomputable def uF (s:GSpan):Option (GSpan × Bool):=Xf Tb f180 1 f180.ins s
noncomputable def bW (l:List Int) (n:Int):Option (List Int):=Xf Tb f32 1 f32.ins (l,n)
noncomputable def jF (l:List Int) (n:Int) (xat:Int):Option (List Int):=Xf Tb f32 28 NS (l,n,xat)
noncomputable def zG (lists:List (List GSpan)):Option (List Int):=Xf Tb f111 1 f111.ins lists
noncomputable def fb (lists:List (List GSpan)) (out:List Int) (i:Int):Option (List Int):=Xf Tb f111 58 Iw (lists,out,i)
noncomputable def dm (lists:List (List GSpan)) (out:List Int) (i:Int) (k:Int):Option (List Int):=Xf Tb f111 3730 B0 (lists,out,i,k)
noncomputable def nL (l:List GSpan) (day:Int):Option Bool:=Xf Tb f112 1 f112.ins (l,day)
noncomputable def cq (l:List GSpan) (day:Int) (i:Int):Option Bool:=Xf Tb f112 26 IP (l,day,i)
noncomputable def Eu (l:List GSpan) (s:GSpan):Option (List GSpan):=Xf Tb f113 1 f113.ins (l,s)
noncomputable def lJ (a:List GSpan) (b:List GSpan) (kind:Int):Option (List GSpan):=Xf Tb f55 1 f55.ins (a,b,kind)
noncomputable def cn (a:List GSpan) (b:List GSpan) (kind:Int) (e:List Int) (i:Int) (out:List GSpan):Option (List GSpan):=Xf Tb f55 122 IM (a,b,kind,e,i,out)
noncomputable def gz (l:List GSpan) (s:GSpan):Option (List GSpan):=Xf Tb f18 1 f18.ins (l,s)
noncomputable def uD (l:List GPosting) (p:GPosting):Option (List GPosting):=Xf Tb f79 1 f79.ins (l,p)
noncomputable def kh (l:List GPosting) (xat:Int) (p:GPosting):Option (List GPosting):=Xf Tb f79 28 NU (l,xat,p)
noncomputable def qH (l:List GFact):Option (List GPosting):=Xf Tb f30 1 f30.ins l
noncomputable def eU (l:List GFact) (seat:Int) (c:List GFact) (out:List GPosting):Option (List GPosting):=Xf Tb f30 122 IU (l,seat,c,out)
noncomputable def cI (l:List GFact) (seat:Int) (state:Int) (c:List GFact) (out:List GPosting):Option (List GPosting):=Xf Tb f30 7826 Ec (l,seat,state,c,out)
noncomputable def cD (l:List GFact) (seat:Int) (state:Int) (i:Int) (c:List GFact) (out:List GPosting) (s:List GSpan):Option (List GPosting):=Xf Tb f30 2003530 wG (l,seat,state,i,c,out,s)
noncomputable def eT (l:List GFact) (seat:Int) (state:Int) (i:Int) (c:List GFact) (out:List GPosting) (s:List GSpan):Option (List GPosting):=Xf Tb f30 4007070 wM (l,seat,state,i,c,out,s)
noncomputable def gR (s:GSpan) (day:Int):Option Bool:=Xf Tb f34 1 f34.ins (s,day)
noncomputable def uA (c:List GFact) (day:Int):Option (List Int):=Xf Tb f155 1 f155.ins (c,day)
noncomputable def dc (c:List GFact) (day:Int) (i:Int) (t4:List Int) (out:List Int):Option (List Int):=Xf Tb f155 58 G2 (c,day,i,t4,out)
noncomputable def kY (l:List GFact) (day:Int):Option (Int × Bool):=Xf Tb f83 1 f83.ins (l,day)
noncomputable def cG (l:List GFact) (day:Int) (xat:Int) (i:Int) (c:List GFact):Option (Int × Bool):=Xf Tb f83 122 IW (l,day,xat,i,c)
noncomputable def wP (c:List GFact) (day:Int):Option (List Int):=Xf Tb f156 1 f156.ins (c,day)
noncomputable def fK (c:List GFact) (day:Int) (out:List Int) (i:Int):Option (List Int):=Xf Tb f156 58 Hv (c,day,out,i)
noncomputable def qK (l:List GFact) (c:List GFact) (r:GRules) (day:Int):Option (Int × Bool):=Xf Tb f82 1 f82.ins (l,c,r,day)
noncomputable def cU (l:List GFact) (c:List GFact) (day:Int) (sum:Int) (n:Int) (best:Int) (i:Int) (r:GRules) (s:List Int):Option (Int × Bool):=Xf Tb f82 122 GE (l,c,day,sum,n,best,i,r,s)
noncomputable def AS (l:List GFact) (c:List GFact) (p:List GPosting) (r:GRules) (day:Int):Option (Int × Int):=Xf Tb f35 1 f35.ins (l,c,p,r,day)
noncomputable def fR (l:List GFact) (c:List GFact) (p:List GPosting) (day:Int) (best:Int) (i:Int) (r:GRules):Option (Int × Int):=Xf Tb f35 58 No (l,c,p,day,best,i,r)
noncomputable def eY (l:List GFact) (c:List GFact) (day:Int) (best:Int) (i:Int) (r:GRules):Option (Int × Int):=Xf Tb f35 250 Ha (l,c,day,best,i,r)
noncomputable def bj (l:List GFact) (c:List GFact) (day:Int) (best:Int) (i:Int):Option (Int × Int):=Xf Tb f35 2042 DJ (l,c,day,best,i)
noncomputable def vZ (l:List GFact) (t:List GRules):Option (List GSegment):=Xf Tb f8 1 f8.ins (l,t)
noncomputable def mx (l:List GFact) (t:List GRules) (e:List Int) (i:Int) (c:List GFact) (p:List GPosting) (life:GSpan):Option (List GSegment):=Xf Tb f8 250 Nf (l,t,e,i,c,p,life)
noncomputable def gF (l:List GFact) (t:List GRules) (e:List Int) (i:Int) (c:List GFact) (p:List GPosting) (life:GSpan):Option (List GSegment):=Xf Tb f8 506 NZ (l,t,e,i,c,p,life)
noncomputable def iS (l:List GFact) (t:List GRules) (e:List Int) (k:Int) (c:List GFact) (p:List GPosting) (life:GSpan):Option (List GSegment):=Xf Tb f8 1018 Hk (l,t,e,k,c,p,life)
noncomputable def cy (l:List GFact) (t:List GRules) (e:List Int) (i:Int) (c:List GFact) (p:List GPosting) (life:GSpan) (out:List GSegment):Option (List GSegment):=Xf Tb f8 4090 G5 (l,t,e,i,c,p,life,out)
noncomputable def jX (l:List GFact) (t:List GRules) (e:List Int) (i:Int) (k:Int) (c:List GFact) (p:List GPosting) (life:GSpan):Option (List GSegment):=Xf Tb f8 64806 Dj (l,t,e,i,k,c,p,life)
noncomputable def e8 (l:List GSpan):Option (List GSpan):=Xf Tb f105 1 f105.ins l
noncomputable def xf (law:List GSegment) (state:Int) (rule:Int):Option (List GSpan):=Xf Tb f50 1 f50.ins (law,state,rule)
noncomputable def dI (law:List GSegment) (state:Int) (rule:Int) (i:Int) (out:List GSpan):Option (List GSpan):=Xf Tb f50 58 L6 (law,state,rule,i,out)
noncomputable def wS (l:List GSpan) (n:Int):Option (List GSpan):=Xf Tb f104 1 f104.ins (l,n)
noncomputable def jU (n:Int) (i:Int) (out:List GSpan) (m:List GSpan):Option (List GSpan):=Xf Tb f104 122 Ex (n,i,out,m)
noncomputable def kC (l:List GSpan) (before:Int) (limit:Int):Option (List GSpan):=Xf Tb f49 1 f49.ins (l,before,limit)
noncomputable def dz (kind:Int):Option Int:=Xf Tb f106 1 f106.ins kind
noncomputable def di (rank:Int):Option Int:=Xf Tb f52 1 f52.ins rank
noncomputable def gX (rank:Int) (k:Int):Option Int:=Xf Tb f52 26 LO (rank,k)
noncomputable def wr (v:GVersion) (kind:Int):Option (Int × Bool):=Xf Tb f51 1 f51.ins (v,kind)
noncomputable def lu (kind:Int) (i:Int) (From:Int) (Rounding:GRounding) (Credits:List GCredit) (Series:List GIndex) (Lets:List GLet) (Grants:List GGrant) (Reduces:List GReduce):Option (Int × Bool):=Xf Tb f51 26 MO (kind,i,From,Rounding,Credits,Series,Lets,Grants,Reduces)
noncomputable def wL (l:List GFact) (kind:Int) (state:Int):Option (List GSpan):=Xf Tb f107 1 f107.ins (l,kind,state)
noncomputable def db (l:List GFact) (kind:Int) (state:Int) (i:Int) (c:List GFact) (out:List GSpan):Option (List GSpan):=Xf Tb f107 122 Dg (l,kind,state,i,c,out)
noncomputable def qA (l:List GFact) (kind:Int) (state:Int) (before:Int) (limit:Int):Option (List GSpan):=Xf Tb f53 1 f53.ins (l,kind,state,before,limit)
noncomputable def cg (l:List GFact) (state:Int) (before:Int) (limit:Int) (ref:Int) (c:List GFact) (out:List GSpan):Option (List GSpan):=Xf Tb f53 250 HW (l,state,before,limit,ref,c,out)
noncomputable def bz (l:List GFact) (state:Int) (before:Int) (limit:Int) (ref:Int) (i:Int) (c:List GFact) (out:List GSpan) (one:List GSpan):Option (List GSpan):=Xf Tb f53 64074 BB (l,state,before,limit,ref,i,c,out,one)
noncomputable def oM (l:List GFact) (law:List GSegment) (schemes:List GScheme) (before:Int):Option (List GPeriod × Int):=Xf Tb f13 1 f13.ins (l,law,schemes,before)
noncomputable def eV (l:List GFact) (law:List GSegment) (schemes:List GScheme) (before:Int) (i:Int):Option (List GPeriod × Int):=Xf Tb f13 58 L4 (l,law,schemes,before,i)
noncomputable def cP (l:List GFact) (law:List GSegment) (schemes:List GScheme) (before:Int) (i:Int) (out:List GPeriod):Option (List GPeriod × Int):=Xf Tb f13 250 HV (l,law,schemes,before,i,out)
noncomputable def bR (l:List GFact) (law:List GSegment) (schemes:List GScheme) (before:Int) (i:Int) (s:Int) (rank:Int) (out:List GPeriod):Option (List GPeriod × Int):=Xf Tb f13 32038 AC (l,law,schemes,before,i,s,rank,out)
noncomputable def bu (l:List GFact) (law:List GSegment) (schemes:List GScheme) (before:Int) (i:Int) (s:Int) (rank:Int) (k:Int) (out:List GPeriod) (d:List GSpan):Option (List GPeriod × Int):=Xf Tb f13 8201806 xd (l,law,schemes,before,i,s,rank,k,out,d)
noncomputable def xh (claims:List GPeriod) (state:Int) (rank:Int) (day:Int):Option Bool:=Xf Tb f278 1 f278.ins (claims,state,rank,day)
noncomputable def lD (claims:List GPeriod) (state:Int) (rank:Int) (day:Int) (i:Int):Option Bool:=Xf Tb f278 26 Hc (claims,state,rank,day,i)
noncomputable def o5 (claims:List GPeriod) (state:Int) (day:Int):Option Int:=Xf Tb f294 1 f294.ins (claims,state,day)
noncomputable def gQ (claims:List GPeriod) (state:Int) (day:Int) (best:Int) (i:Int):Option Int:=Xf Tb f294 58 HF (claims,state,day,best,i)
noncomputable def q5 (claims:List GPeriod) (state:Int) (day:Int):Option Int:=Xf Tb f295 1 f295.ins (claims,state,day)
noncomputable def iz (claims:List GPeriod) (state:Int) (day:Int) (best:Int) (i:Int):Option Int:=Xf Tb f295 58 GG (claims,state,day,best,i)
noncomputable def tZ (claims:List GPeriod) (s:Int) (b:Int) (day:Int):Option Bool:=Xf Tb f279 1 f279.ins (claims,s,b,day)
noncomputable def pz (claims:List GPeriod) (day:Int):Option (Int × Int × Bool):=Xf Tb f244 1 f244.ins (claims,day)
noncomputable def ij (claims:List GPeriod) (day:Int) (rank:Int):Option (Int × Int × Bool):=Xf Tb f244 58 G1 (claims,day,rank)
noncomputable def cd (claims:List GPeriod) (day:Int) (rank:Int) (best:Int) (s:Int):Option (Int × Int × Bool):=Xf Tb f244 14922 zp (claims,day,rank,best,s)
noncomputable def nJ (claims:List GPeriod):Option (List GCounted):=Xf Tb f184 1 f184.ins claims
noncomputable def eE (claims:List GPeriod) (e:List Int) (i:Int):Option (List GCounted):=Xf Tb f184 58 IN (claims,e,i)
noncomputable def cA (claims:List GPeriod) (e:List Int) (i:Int) (out:List GCounted):Option (List GCounted):=Xf Tb f184 250 EL (claims,e,i,out)
noncomputable def gw (claims:List GPeriod) (e:List Int) (i:Int) (s:GSpan):Option (List GCounted):=Xf Tb f184 14927 yb (claims,e,i,s)
noncomputable def gx (claims:List GPeriod) (e:List Int) (i:Int) (s:GSpan):Option (List GCounted):=Xf Tb f184 29855 yV (claims,e,i,s)
noncomputable def qw (x:GLaws) (l:List GFact) (states:List Int) (day:Int):Option (List GCounted):=Xf Tb f115 1 f115.ins (x,l,states,day)
noncomputable def iu (l:List GFact) (states:List Int) (day:Int) (i:Int) (States:List GState) (Treaty:List GRules) (Rates:List GRate) (schemes:List GScheme):Option (List GCounted):=Xf Tb f115 58 GX (l,states,day,i,States,Treaty,Rates,schemes)
noncomputable def gn (x:GLaws) (l:List GFact) (day:Int):Option (List GCounted × Int):=Xf Tb f56 1 f56.ins (x,l,day)
noncomputable def sq (x:GLaws) (day:Int) (a:List GFact):Option (List GCounted × List GFact):=Xf Tb f20 1 f20.ins (x,day,a)
noncomputable def cx (x:Int):Option Bool:=Xf Tb f117 1 f117.ins x
noncomputable def pY (month:Int):Option Bool:=Xf Tb f246 1 f246.ins month
noncomputable def nT (year:Int):Option Bool:=Xf Tb f189 1 f189.ins year
noncomputable def cF (year:Int) (month:Int):Option Int:=Xf Tb f126 1 f126.ins (year,month)
noncomputable def sb (month:Int):Option Int:=Xf Tb f186 1 f186.ins month
noncomputable def dO (x:Int):Option Bool:=Xf Tb f118 1 f118.ins x
noncomputable def cL (x:Int):Option Int:=Xf Tb f188 1 f188.ins x
noncomputable def BM (a:Int) (b:Int):Option Int:=Xf Tb f187 1 f187.ins (a,b)
noncomputable def aX (a:Int) (b:Int):Option Int:=Xf Tb f187 12 IH (a,b)
noncomputable def bM (f:GFraction):Option Bool:=Xf Tb f119 1 f119.ins f
noncomputable def bI (x:Int):Option Bool:=Xf Tb f120 1 f120.ins x
noncomputable def eW (t:List GRate):Option Int:=Xf Tb f57 1 f57.ins t
noncomputable def aQ (t:List GRate) (t8:List GRate) (t9:Int) (t10:Int):Option Int:=Xf Tb f57 58 NO (t,t8,t9,t10)
noncomputable def BS (kind:Int):Option ByteArray:=Xf Tb f193 1 f193.ins kind
noncomputable def qF (t3:Int) (t6:Bool):Option ByteArray:=Xf Tb f193 215 D8 (t3,t6)
noncomputable def iv (t3:Int) (t11:Bool):Option ByteArray:=Xf Tb f193 3455 Bd (t3,t11)
noncomputable def jc (t3:Int) (t20:Bool):Option ByteArray:=Xf Tb f193 221183 wF (t3,t20)
noncomputable def iY (x:Int) (low:Int) (high:Int):Option Bool:=Xf Tb f196 1 f196.ins (x,low,high)
noncomputable def oo (s:ByteArray) (c:Int):Option Int:=Xf Tb f297 1 f297.ins (s,c)
noncomputable def sZ (s:ByteArray) (substr:ByteArray):Option Int:=Xf Tb f286 1 f286.ins (s,substr)
noncomputable def zY (s:ByteArray) (substr:ByteArray):Option Int:=Xf Tb f257 1 f257.ins (s,substr)
noncomputable def uy (s:ByteArray) (substr:ByteArray):Option Bool:=Xf Tb f195 1 f195.ins (s,substr)
noncomputable def bP (letter:ByteArray) (t1:ByteArray):Option Bool:=Xf Tb f194 1 f194.ins (letter,t1)
noncomputable def cK (used:Bool) (x:Int) (low:Int) (high:Int):Option Bool:=Xf Tb f197 1 f197.ins (used,x,low,high)
noncomputable def qq (s:GSpan):Option Bool:=Xf Tb f198 1 f198.ins s
noncomputable def th (f:GFact):Option Bool:=Xf Tb f138 1 f138.ins f
noncomputable def gN (t89:Int) (t97:Bool) (f:GFact):Option Bool:=Xf Tb f138 2007 Bx (t89,t97,f)
noncomputable def mF (f:GFact):Option Bool:=Xf Tb f101 1 f101.ins f
noncomputable def z8 (l:List GFact):Option (List GFact):=Xf Tb f174 1 f174.ins l
noncomputable def ct (t8:List GFact) (t9:Int) (t10:Int) (out:List GFact):Option (List GFact):=Xf Tb f174 58 H1 (t8,t9,t10,out)
noncomputable def qm (l:List GFact):Option (List GFact):=Xf Tb f103 1 f103.ins l
noncomputable def sC (f:GFact) (state:Int):Option Int:=Xf Tb f121 1 f121.ins (f,state)
noncomputable def xb (s:GSpan):Option GSpan:=Xf Tb f108 1 f108.ins s
noncomputable def mG (l:List GSpan):Option (List GSpan):=Xf Tb f54 1 f54.ins l
noncomputable def d8 (t10:List GSpan) (t11:Int) (t12:Int) (sorted:List GSpan):Option (List GSpan):=Xf Tb f54 58 NQ (t10,t11,t12,sorted)
noncomputable def dJ (t33:Int) (t34:Int) (out:List GSpan) (t32:List GSpan):Option (List GSpan):=Xf Tb f54 506 GH (t33,t34,out,t32)
noncomputable def yE (l:List GCounted) (state:Int) (rank:Int):Option (List GSpan):=Xf Tb f122 1 f122.ins (l,state,rank)
noncomputable def dZ (state:Int) (rank:Int) (t10:List GCounted) (t11:Int) (t12:Int) (out:List GSpan):Option (List GSpan):=Xf Tb f122 58 Hn (state,rank,t10,t11,t12,out)
noncomputable def vI (a:List GSpan) (b:List GSpan):Option (List GSpan):=Xf Tb f98 1 f98.ins (a,b)
noncomputable def bH (i:Int) (j:Int) (a:List GSpan) (b:List GSpan) (out:List GSpan):Option (List GSpan):=Xf Tb f98 122 HO (i,j,a,b,out)
noncomputable def jI (i:Int) (j:Int) (a:List GSpan) (b:List GSpan) (out:List GSpan):Option (List GSpan):=Xf Tb f98 3915 Dh (i,j,a,b,out)
noncomputable def o8 (l:List GSpan) (s:GSpan):Option (List GSpan):=Xf Tb f42 1 f42.ins (l,s)
noncomputable def pc (l:List GFact) (kind:Int):Option (Int × Bool):=Xf Tb f223 1 f223.ins (l,kind)
noncomputable def dv (kind:Int) (day:Int) (ok:Bool) (t10:List GFact) (t11:Int) (t12:Int):Option (Int × Bool):=Xf Tb f223 58 H7 (kind,day,ok,t10,t11,t12)
noncomputable def uM (l:List GFact):Option (Int × Bool):=Xf Tb f172 1 f172.ins l
noncomputable def uc (l:List GFact):Option (Int × Bool):=Xf Tb f173 1 f173.ins l
noncomputable def wY (l:List GFact):Option GSpan:=Xf Tb f102 1 f102.ins l
noncomputable def oc (counted:List GCounted) (state:Int) (l:List GFact):Option (List GFact × List GEarnings_income):=Xf Tb f58 1 f58.ins (counted,state,l)
noncomputable def bG (counted:List GCounted) (state:Int) (t14:Int) (t15:Int) (l:List GFact) (out:List GEarnings_income) (t13:List GFact):Option (List GFact × List GEarnings_income):=Xf Tb f58 58 Mg (counted,state,t14,t15,l,out,t13)
noncomputable def xY (day:Int):Option Bool:=Xf Tb f123 1 f123.ins day
noncomputable def fE (year:Int):Option Int:=Xf Tb f124 1 f124.ins year
noncomputable def kX (year:Int):Option Int:=Xf Tb f125 1 f125.ins year
noncomputable def nU (day:Int):Option (Int × Int × Int × Bool):=Xf Tb f59 1 f59.ins day
noncomputable def je (day:Int) (year:Int):Option (Int × Int × Int × Bool):=Xf Tb f59 60 N0 (day,year)
noncomputable def iB (year:Int) (month:Int) (rest:Int):Option (Int × Int × Int × Bool):=Xf Tb f59 508 GT (year,month,rest)
noncomputable def lM (year:Int) (month:Int) (dom:Int):Option (Int × Bool):=Xf Tb f131 1 f131.ins (year,month,dom)
noncomputable def jn (year:Int) (month:Int) (day:Int) (m:Int):Option (Int × Bool):=Xf Tb f131 122 DZ (year,month,day,m)
noncomputable def sH (y:Int):Option GSpan:=Xf Tb f63 1 f63.ins y
noncomputable def Bt (l:List GSpan) (day:Int):Option Int:=Xf Tb f130 1 f130.ins (l,day)
noncomputable def cH (day:Int) (n:Int) (t10:Int) (t11:Int) (t9:List GSpan):Option Int:=Xf Tb f130 58 H6 (day,n,t10,t11,t9)
noncomputable def tc (l:List GSpan):Option Int:=Xf Tb f62 1 f62.ins l
noncomputable def nI (f:GFact) (days:Int):Option Int:=Xf Tb f65 1 f65.ins (f,days)
noncomputable def BY (x:Int):Option Bool:=Xf Tb f132 1 f132.ins x
noncomputable def kP (r:GRounding):Option Bool:=Xf Tb f133 1 f133.ins r
noncomputable def cE (t5:Bool) (r:GRounding):Option Bool:=Xf Tb f133 53 IE (t5,r)
noncomputable def tG (x:Int):Option Int:=Xf Tb f135 1 f135.ins x
noncomputable def o7 (negative:Bool) (hi:Int) (lo:Int) (den:Int) (r:GRounding):Option (Int × Int):=Xf Tb f134 1 f134.ins (negative,hi,lo,den,r)
noncomputable def jj (d:Int) (rest:Int) (k:Int) (r:GRounding):Option (Int × Int):=Xf Tb f134 255 Em (d,rest,k,r)
noncomputable def fA (k:Int) (up:Bool) (r:GRounding):Option (Int × Int):=Xf Tb f134 1023 AI (k,up,r)
noncomputable def l5 (k:Int) (r:GRounding):Option (Int × Int):=Xf Tb f134 2047 AV (k,r)
noncomputable def qW (t:List GRate) (currency:Int) (month:Int):Option (GFraction × Bool):=Xf Tb f136 1 f136.ins (t,currency,month)
noncomputable def iQ (t:List GRate) (currency:Int) (month:Int) (best:Int) (t11:List GRate) (t12:Int) (t13:Int) (t6:GFraction):Option (GFraction × Bool):=Xf Tb f136 58 H5 (t,currency,month,best,t11,t12,t13,t6)
noncomputable def lr (x:Int) (y:Int):Option (Int × Int):=Xf Tb f137 1 f137.ins (x,y)
noncomputable def kx (x:Int) (xfrom:Int) (to:Int) (xat:Int) (t:List GRate) (r:GRounding):Option (Int × Int):=Xf Tb f64 1 f64.ins (x,xfrom,to,xat,t,r)
noncomputable def mn (counted:List GCounted) (state:Int) (currency:Int) (rates:List GRate) (l:List GFact):Option (List GEarning × Int × List GFact):=Xf Tb f21 1 f21.ins (counted,state,currency,rates,l)
noncomputable def dN (currency:Int) (rates:List GRate) (t61:Int) (t62:Int) (all:List GEarnings_income) (amounts_k:List Int) (amounts_v:List Int) (t1000000:List GFact):Option (List GEarning × Int × List GFact):=Xf Tb f21 250 I2 (currency,rates,t61,t62,all,amounts_k,amounts_v,t1000000)
noncomputable def gv (currency:Int) (rates:List GRate) (t103:Int) (t104:Int) (all:List GEarnings_income) (amounts_k:List Int) (amounts_v:List Int) (out:List GEarning) (t102:List Int) (t1000000:List GFact):Option (List GEarning × Int × List GFact):=Xf Tb f21 1018 DA (currency,rates,t103,t104,all,amounts_k,amounts_v,out,t102,t1000000)
noncomputable def ed (currency:Int) (rates:List GRate) (t61:Int) (t62:Int) (t67:List GSpan) (t68:Int) (t69:Int) (all:List GEarnings_income) (amounts_k:List Int) (amounts_v:List Int) (t1000000:List GFact):Option (List GEarning × Int × List GFact):=Xf Tb f21 64102 BI (currency,rates,t61,t62,t67,t68,t69,all,amounts_k,amounts_v,t1000000)
noncomputable def bd (currency:Int) (rates:List GRate) (y:Int) (december:Int) (t103:Int) (t104:Int) (t113:Int) (t114:Int) (all:List GEarnings_income) (amounts_k:List Int) (amounts_v:List Int) (out:List GEarning) (t102:List Int) (t1000000:List GFact):Option (List GEarning × Int × List GFact):=Xf Tb f21 1042842 wz (currency,rates,y,december,t103,t104,t113,t114,all,amounts_k,amounts_v,out,t102,t1000000)
noncomputable def en (currency:Int) (rates:List GRate) (last:Int) (y:Int) (t61:Int) (t62:Int) (t67:List GSpan) (t68:Int) (t69:Int) (all:List GEarnings_income) (amounts_k:List Int) (amounts_v:List Int) (t1000000:List GFact):Option (List GEarning × Int × List GFact):=Xf Tb f21 65640862 ut (currency,rates,last,y,t61,t62,t67,t68,t69,all,amounts_k,amounts_v,t1000000)
noncomputable def pH (l:List GCounted) (state:Int) (rank:Int):Option (List GSpan):=Xf Tb f142 1 f142.ins (l,state,rank)
noncomputable def ce (l:List GCounted) (state:Int) (rank:Int) (i:Int) (out:List GSpan):Option (List GSpan):=Xf Tb f142 58 I0 (l,state,rank,i,out)
noncomputable def xX (a:List GSpan) (b:List GSpan):Option (List GSpan):=Xf Tb f141 1 f141.ins (a,b)
noncomputable def sG (l:List GFact) (f:GFact) (counted:List GCounted) (state:Int):Option (List GSpan):=Xf Tb f67 1 f67.ins (l,f,counted,state)
noncomputable def dE (l:List GFact) (counted:List GCounted) (state:Int) (rank:Int) (f:GFact):Option (List GSpan):=Xf Tb f67 15 MS (l,counted,state,rank,f)
noncomputable def B1 (day:Int):Option (Int × Int):=Xf Tb f200 1 f200.ins day
noncomputable def jT (day:Int) (m:Int):Option (Int × Int):=Xf Tb f200 14 GO (day,m)
noncomputable def vW (day:Int):Option (Int × Int × Int × Bool):=Xf Tb f143 1 f143.ins day
noncomputable def nX (l:List GSpan):Option (Int × Int):=Xf Tb f68 1 f68.ins l
noncomputable def cm (l:List GSpan) (lo:Int) (hi:Int) (i:Int):Option (Int × Int):=Xf Tb f68 58 MP (l,lo,hi,i)
noncomputable def iN (month:Int):Option (Int × Bool):=Xf Tb f69 1 f69.ins month
noncomputable def vO (l:List GSpan):Option Int:=Xf Tb f70 1 f70.ins l
noncomputable def dX (n:Int) (i:Int) (m:List GSpan):Option Int:=Xf Tb f70 122 Hp (n,i,m)
noncomputable def yk (f:GFact) (days:Int):Option Int:=Xf Tb f72 1 f72.ins (f,days)
noncomputable def uK (n:Int):Option Bool:=Xf Tb f145 1 f145.ins n
noncomputable def lV (c:Int):Option Bool:=Xf Tb f146 1 f146.ins c
noncomputable def oW (negative:Bool) (n:GPensionref1_wide) (d:Int) (r:GRounding):Option (Int × Int):=Xf Tb f148 1 f148.ins (negative,n,d,r)
noncomputable def bT (negative:Bool) (unit:Int) (k:Int):Option (Int × Int):=Xf Tb f148 255 Ed (negative,unit,k)
noncomputable def rm (t:List GRate) (currency:Int) (month:Int):Option (GFraction × Bool):=Xf Tb f150 1 f150.ins (t,currency,month)
noncomputable def iF (t:List GRate) (currency:Int) (month:Int) (xat:Int) (i:Int) (t6:GFraction):Option (GFraction × Bool):=Xf Tb f150 58 Ih (t,currency,month,xat,i,t6)
noncomputable def F7 (a:Int) (b:Int):Option GPensionref1_wide:=Xf Tb f151 1 f151.ins (a,b)
noncomputable def pb (amount:Int) (xfrom:Int) (to:Int) (month:Int) (t:List GRate) (r:GRounding):Option (Int × Int):=Xf Tb f71 1 f71.ins (amount,xfrom,to,month,t,r)
noncomputable def qZ (counted:List GCounted) (state:Int) (currency:Int) (rates:List GRate) (l:List GFact):Option (List GEarning × Int × List GFact):=Xf Tb f22 1 f22.ins (counted,state,currency,rates,l)
noncomputable def dl (counted:List GCounted) (state:Int) (currency:Int) (rates:List GRate) (i:Int) (l:List GFact) (days:List (List GSpan)) (all:List GSpan):Option (List GEarning × Int × List GFact):=Xf Tb f22 250 HG (counted,state,currency,rates,i,l,days,all)
noncomputable def dD (currency:Int) (rates:List GRate) (hi:Int) (y:Int) (l:List GFact) (days:List (List GSpan)) (all:List GSpan) (out:List GEarning) (down:GRounding):Option (List GEarning × Int × List GFact):=Xf Tb f22 4090 Dx (currency,rates,hi,y,l,days,all,out,down)
noncomputable def hZ (currency:Int) (rates:List GRate) (hi:Int) (y:Int) (xfrom:Int) (next:Int) (l:List GFact) (days:List (List GSpan)) (all:List GSpan) (out:List GEarning) (down:GRounding):Option (List GEarning × Int × List GFact):=Xf Tb f22 523559 yC (currency,rates,hi,y,xfrom,next,l,days,all,out,down)
noncomputable def cw (currency:Int) (rates:List GRate) (hi:Int) (y:Int) (sum:Int) (i:Int) (l:List GFact) (days:List (List GSpan)) (all:List GSpan) (out:List GEarning) (down:GRounding) (year:GSpan):Option (List GEarning × Int × List GFact):=Xf Tb f22 33507834 tR (currency,rates,hi,y,sum,i,l,days,all,out,down,year)
noncomputable def w9:Option Bool:=Xf Tb f23 1 f23.ins ()
noncomputable def p6 (l:List GPensionhand_Fact) (n:List Int) (day:Int) (state:Int) (currency:Int) (bad:Int):Option Bool:=Xf Tb f5 1 f5.ins (l,n,day,state,currency,bad)
noncomputable def bQ (state:Int) (currency:Int) (c:List GCounted) (States:List GState) (Treaty:List GRules) (Rates:List GRate) (a:List GFact):Option Bool:=Xf Tb f5 511 Ly (state,currency,c,States,Treaty,Rates,a)
noncomputable def aZ (p:List GEarning) (q:List GEarning) (i:Int):Option Bool:=Xf Tb f5 32762 EA (p,q,i)
end Go.Ax
