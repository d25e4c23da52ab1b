import Derived.Test.YtnnblpijaoocaaaGreatZHd
import Derived.Test.YtnnblpijaoocaaaGreatRows
set_option linter.all false
set_option maxRecDepth 100000
set_option maxHeartbeats 0
namespace Go.Ax
open Go.Proofs Go.Proofs.YtnnblpijaoocaaaGreat
/- pension/pensionmade.Pick -/
noncomputable def f15:FI:={ fid:=15,fn:=Tryz.f15,c:=ah Tryz.f15,ins:={ sl:=[(0, .t (.i .i64)),(1, .t (.i .i64))] },out:=.new (.t (.i .i64)),cuts:=[] }
noncomputable def f42:FI:={ fid:=42,fn:=Tryz.f42,c:=ah Tryz.f42,ins:={ sl:=[(0, .t (.i .i64)),(1, .t (.i .i64))] },out:=.new (.t (.i .i64)),cuts:=[] }
noncomputable def f59:FI:={ fid:=59,fn:=Tryz.f59,c:=ah Tryz.f59,ins:={ sl:=[(0, .t (.ls (.i .i64))),(1, .t (.i .i64))] },out:=.new (.t (.i .i64)),cuts:=[] }
abbrev FO:Tm:={ sl:=[(0, .t (.ls (.i .i64))),(3, .k (.row 0 14)),(4, .t (.i .i64))],ob:=[.row 38 (.st .GFact)] }
noncomputable def f30:FI:={ fid:=30,fn:=Tryz.f30,c:=ah Tryz.f30,ins:={ sl:=[(0, .t (.ls (.i .i64)))] },out:=.own true 38 (.st .GFact),cuts:=[(58,FO)] }
abbrev E7:Tm:={ sl:=[(0, .t (.ls (.st .GFact))),(1, .t (.i .i64)),(5, .k (.row 0 14)),(6, .t (.i .i64))],ob:=[.row 38 (.st .GFact)] }
noncomputable def f29:FI:={ fid:=29,fn:=Tryz.f29,c:=ah Tryz.f29,ins:={ sl:=[(0, .t (.ls (.st .GFact))),(1, .t (.i .i64))] },out:=.own true 38 (.st .GFact),cuts:=[(58,E7)] }
noncomputable def f44:FI:={ fid:=44,fn:=Tryz.f44,c:=ah Tryz.f44,ins:={ sl:=[(0, .t (.i .i64))] },out:=.new (.t (.s)),cuts:=[] }
abbrev BA:Tm:={ sl:=[(1, .t (.i .u8)),(5, .t (.s)),(6, .t (.i .i64))],ob:=[] }
noncomputable def f106:FI:={ fid:=106,fn:=Tryz.f106,c:=ah Tryz.f106,ins:={ sl:=[(0, .t (.i .i64)),(1, .t (.i .u8))] },out:=.new (.t (.b)),cuts:=[(58,BA)] }
noncomputable def f71:FI:={ fid:=71,fn:=Tryz.f71,c:=ah Tryz.f71,ins:={ sl:=[(0, .t (.i .i64)),(1, .t (.i .u8)),(2, .t (.i .i64)),(3, .t (.i .i64)),(4, .t (.i .i64))] },out:=.new (.t (.b)),cuts:=[] }
noncomputable def f45:FI:={ fid:=45,fn:=Tryz.f45,c:=ah Tryz.f45,ins:={ sl:=[(0, .t (.st .GFact))] },out:=.new (.t (.b)),cuts:=[] }
noncomputable def f46:FI:={ fid:=46,fn:=Tryz.f46,c:=ah Tryz.f46,ins:={ sl:=[(0, .t (.st .GFact)),(1, .t (.st .GFact))] },out:=.new (.t (.i .i64)),cuts:=[] }
abbrev M6:Tm:={ sl:=[(0, .k (.row 0 1)),(1, .t (.i .i64)),(7, .t (.i .i64))],ob:=[.row 5 (.i .u8)] }
noncomputable def f107:FI:={ fid:=107,fn:=Tryz.f107,c:=ah Tryz.f107,ins:={ sl:=[(0, .k (.c .nil)),(1, .t (.i .i64)),(2, .t (.i .i64))],ob:=[] },out:=.gen ({ sl:=[(2000000, .tp [.k (.row 0 1)])],ob:=[.row 5 (.i .u8)] }),cuts:=[(26,M6)] }
abbrev u9:Tm:={ sl:=[(0, .k (.row 0 1)),(1, .t (.i .i64)),(7, .t (.i .i64))],ob:=[.row 5 (.i .u8)] }
noncomputable def nz:FI:={ fid:=107,fn:=Tryz.f107,c:=ah Tryz.f107,ins:={ sl:=[(0, .k (.row 0 1)),(1, .t (.i .i64)),(2, .t (.i .i64))],ob:=[.row 5 (.i .u8)] },out:=.gen ({ sl:=[(2000000, .tp [.k (.row 0 1)])],ob:=[.row 5 (.i .u8)] }),cuts:=[(26,u9)] }
abbrev E9:Tm:={ sl:=[(1, .k (.ptr 0 14 0 0)),(3, .t (.i .i64))],ob:=[.box [.t (.st .GFact)]] }
abbrev yt:Tm:={ sl:=[(1, .k (.ptr 0 14 0 0)),(4, .k (.row 1 1)),(5, .t (.s)),(6, .t (.i .i64))],ob:=[.box [.t (.st .GFact)], .row 5 (.i .u8)] }
abbrev yJ:Tm:={ sl:=[(1, .k (.ptr 0 14 0 0)),(4, .k (.row 1 1)),(5, .t (.s)),(6, .t (.i .i64))],ob:=[.box [.t (.st .GFact)], .row 5 (.i .u8)] }
noncomputable def f72:FI:={ fid:=72,fn:=Tryz.f72,c:=ah Tryz.f72,ins:={ sl:=[(0, .t (.st .GFact))] },out:=.own true 5 (.i .u8),cuts:=[(31,E9),(1018,yt),(8147,yJ)] }
noncomputable def f47:FI:={ fid:=47,fn:=Tryz.f47,c:=ah Tryz.f47,ins:={ sl:=[(0, .t (.st .GFact)),(1, .t (.st .GFact))] },out:=.new (.t (.b)),cuts:=[] }
abbrev G6:Tm:={ sl:=[(0, .t (.ls (.st .GFact))),(1, .t (.ls (.st .GFact))),(5, .k (.row 0 14)),(6, .t (.i .i64))],ob:=[.row 38 (.st .GFact)] }
abbrev yx:Tm:={ sl:=[(0, .t (.ls (.st .GFact))),(1, .t (.ls (.st .GFact))),(5, .k (.row 0 14)),(6, .t (.i .i64)),(7, .k (.ptr 1 14 0 0))],ob:=[.row 38 (.st .GFact), .box [.t (.st .GFact)]] }
abbrev u3:Tm:={ sl:=[(0, .t (.ls (.st .GFact))),(1, .t (.ls (.st .GFact))),(5, .k (.row 0 14)),(6, .t (.i .i64)),(7, .k (.ptr 1 14 0 0)),(8, .t (.i .i64))],ob:=[.row 38 (.st .GFact), .box [.t (.st .GFact)]] }
noncomputable def f17:FI:={ fid:=17,fn:=Tryz.f17,c:=ah Tryz.f17,ins:={ sl:=[(0, .t (.ls (.st .GFact))),(1, .t (.ls (.st .GFact)))] },out:=.own true 38 (.st .GFact),cuts:=[(58,G6),(3731,yx),(59708,u3)] }
noncomputable def f43:FI:={ fid:=43,fn:=Tryz.f43,c:=ah Tryz.f43,ins:={ sl:=[(0, .t (.i .i64))] },out:=.new (.t (.i .i64)),cuts:=[] }
abbrev CT:Tm:={ sl:=[(1, .k (.ptr 0 13 0 0)),(2, .k (.ptr 1 14 0 0)),(3, .k (.ptr 2 14 0 0)),(4, .t (.i .i64)),(5, .t (.i .i64))],ob:=[.box [.t (.st .GPensionhand_Fact)], .box [.t (.st .GFact)], .box [.t (.st .GFact)]] }
abbrev yj:Tm:={ sl:=[(1, .k (.ptr 0 13 0 0)),(2, .k (.ptr 1 14 0 0)),(3, .k (.ptr 2 14 0 0)),(4, .t (.i .i64)),(5, .t (.i .i64)),(6, .t (.s)),(7, .t (.i .i64))],ob:=[.box [.t (.st .GPensionhand_Fact)], .box [.t (.st .GFact)], .box [.t (.st .GFact)]] }
abbrev wm:Tm:={ sl:=[(1, .k (.ptr 0 13 0 0)),(2, .k (.ptr 1 14 0 0)),(3, .k (.ptr 2 14 0 0)),(4, .t (.i .i64)),(5, .t (.i .i64)),(6, .t (.s)),(7, .t (.i .i64))],ob:=[.box [.t (.st .GPensionhand_Fact)], .box [.t (.st .GFact)], .box [.t (.st .GFact)]] }
noncomputable def f16:FI:={ fid:=16,fn:=Tryz.f16,c:=ah Tryz.f16,ins:={ sl:=[(0, .t (.st .GPensionhand_Fact))] },out:=.new (.t (.st .GFact)),cuts:=[(127,CT),(2042,yj),(16339,wm)] }
abbrev FN:Tm:={ sl:=[(0, .t (.ls (.st .GPensionhand_Fact))),(1, .t (.ls (.i .i64))),(2, .t (.b)),(7, .k (.row 0 14)),(8, .t (.i .i64))],ob:=[.row 38 (.st .GFact)] }
abbrev yk:Tm:={ sl:=[(0, .t (.ls (.st .GPensionhand_Fact))),(1, .t (.ls (.i .i64))),(2, .t (.b)),(7, .k (.row 0 14)),(8, .t (.i .i64)),(9, .k (.ptr 1 13 0 0))],ob:=[.row 38 (.st .GFact), .box [.t (.st .GPensionhand_Fact)]] }
noncomputable def f11:FI:={ fid:=11,fn:=Tryz.f11,c:=ah Tryz.f11,ins:={ sl:=[(0, .t (.ls (.st .GPensionhand_Fact))),(1, .t (.ls (.i .i64))),(2, .t (.b))] },out:=.own true 38 (.st .GFact),cuts:=[(58,FN),(7463,yk)] }
abbrev CJ:Tm:={ sl:=[(0, .t (.i .i64)),(3, .t (.s))],ob:=[] }
noncomputable def f128:FI:={ fid:=128,fn:=Tryz.f128,c:=ah Tryz.f128,ins:={ sl:=[(0, .t (.i .i64))] },out:=.new (.t (.s)),cuts:=[(28,CJ)] }
noncomputable def f166:FI:={ fid:=166,fn:=Tryz.f166,c:=ah Tryz.f166,ins:={ sl:=[(0, .t (.i .i64))] },out:=.new (.t (.s)),cuts:=[] }
abbrev Cu:Tm:={ sl:=[(1, .t (.ls (.i .i64))),(2, .t (.i .i64)),(7, .t (.s)),(8, .t (.s))],ob:=[] }
abbrev zi:Tm:={ sl:=[(1, .t (.ls (.i .i64))),(2, .t (.i .i64)),(7, .t (.s)),(8, .t (.s))],ob:=[] }
abbrev zp:Tm:={ sl:=[(1, .t (.ls (.i .i64))),(2, .t (.i .i64)),(7, .t (.s)),(8, .t (.s))],ob:=[] }
abbrev wi:Tm:={ sl:=[(1, .t (.ls (.i .i64))),(2, .t (.i .i64)),(8, .t (.s))],ob:=[] }
abbrev tM:Tm:={ sl:=[(1, .t (.ls (.i .i64))),(2, .t (.i .i64)),(8, .t (.s))],ob:=[] }
noncomputable def f129:FI:={ fid:=129,fn:=Tryz.f129,c:=ah Tryz.f129,ins:={ sl:=[(0, .t (.s)),(1, .t (.ls (.i .i64))),(2, .t (.i .i64))] },out:=.new (.t (.s)),cuts:=[(31,Cu),(127,zi),(255,zp),(8191,wi),(65535,tM)] }
abbrev FW:Tm:={ sl:=[(0, .t (.i .i64)),(1, .t (.ls (.i .i64))),(6, .t (.s))],ob:=[] }
noncomputable def f82:FI:={ fid:=82,fn:=Tryz.f82,c:=ah Tryz.f82,ins:={ sl:=[(0, .t (.i .i64)),(1, .t (.ls (.i .i64)))] },out:=.new (.t (.s)),cuts:=[(31,FW)] }
abbrev Cv:Tm:={ sl:=[(0, .t (.s)),(1, .t (.i .i64)),(5, .t (.b))],ob:=[] }
noncomputable def f220:FI:={ fid:=220,fn:=Tryz.f220,c:=ah Tryz.f220,ins:={ sl:=[(0, .t (.s)),(1, .t (.i .i64))] },out:=.new (.t (.i .i64)),cuts:=[(28,Cv)] }
noncomputable def f221:FI:={ fid:=221,fn:=Tryz.f221,c:=ah Tryz.f221,ins:={ sl:=[(0, .t (.i .u8))] },out:=.new (.t (.b)),cuts:=[] }
noncomputable def f223:FI:={ fid:=223,fn:=Tryz.f223,c:=ah Tryz.f223,ins:={ sl:=[(0, .t (.i .u8))] },out:=.new (.t (.b)),cuts:=[] }
abbrev Cf:Tm:={ sl:=[(0, .t (.s)),(1, .t (.i .i64)),(2, .t (.b)),(7, .t (.i .i64))],ob:=[] }
noncomputable def f222:FI:={ fid:=222,fn:=Tryz.f222,c:=ah Tryz.f222,ins:={ sl:=[(0, .t (.s)),(1, .t (.i .i64)),(2, .t (.b))] },out:=.new (.t (.i .i64)),cuts:=[(28,Cf)] }
abbrev B8:Tm:={ sl:=[(0, .t (.s)),(6, .t (.i .i64))],ob:=[] }
abbrev zl:Tm:={ sl:=[(0, .t (.s)),(6, .t (.i .i64)),(8, .t (.i .i64)),(9, .t (.i .i64))],ob:=[] }
abbrev yH:Tm:={ sl:=[(6, .t (.i .i64)),(10, .t (.s)),(11, .t (.s))],ob:=[] }
abbrev uZ:Tm:={ sl:=[(6, .t (.i .i64)),(10, .t (.s)),(11, .t (.s)),(12, .t (.i .i64))],ob:=[] }
noncomputable def f200:FI:={ fid:=200,fn:=Tryz.f200,c:=ah Tryz.f200,ins:={ sl:=[(0, .t (.s))] },out:=.new (.tp [.t (.s), .t (.s), .t (.i .i64), .t (.b)]),cuts:=[(15,B8),(250,zl),(255,yH),(2042,uZ)] }
abbrev Br:Tm:={ sl:=[(0, .t (.s)),(4, .t (.i .i64)),(5, .t (.i .i64))],ob:=[] }
noncomputable def f227:FI:={ fid:=227,fn:=Tryz.f227,c:=ah Tryz.f227,ins:={ sl:=[(0, .t (.s))] },out:=.new (.tp [.t (.i .i64), .t (.b)]),cuts:=[(58,Br)] }
noncomputable def f254:FI:={ fid:=254,fn:=Tryz.f254,c:=ah Tryz.f254,ins:={ sl:=[(0, .t (.i .i64))] },out:=.new (.t (.b)),cuts:=[] }
noncomputable def f244:FI:={ fid:=244,fn:=Tryz.f244,c:=ah Tryz.f244,ins:={ sl:=[(0, .t (.i .i64)),(1, .t (.i .i64))] },out:=.new (.t (.i .i64)),cuts:=[] }
abbrev Ct:Tm:={ sl:=[(0, .t (.i .i64)),(3, .t (.i .i64)),(4, .t (.i .i64))],ob:=[] }
noncomputable def f245:FI:={ fid:=245,fn:=Tryz.f245,c:=ah Tryz.f245,ins:={ sl:=[(0, .t (.i .i64))] },out:=.new (.t (.i .i64)),cuts:=[(58,Ct)] }
noncomputable def f228:FI:={ fid:=228,fn:=Tryz.f228,c:=ah Tryz.f228,ins:={ sl:=[(0, .t (.i .i64)),(1, .t (.i .i64)),(2, .t (.i .i64))] },out:=.new (.tp [.t (.i .i64), .t (.b)]),cuts:=[] }
noncomputable def f202:FI:={ fid:=202,fn:=Tryz.f202,c:=ah Tryz.f202,ins:={ sl:=[(0, .t (.s))] },out:=.new (.tp [.t (.i .i64), .t (.b)]),cuts:=[] }
abbrev FL:Tm:={ sl:=[(0, .t (.s)),(1, .t (.i .i64))],ob:=[] }
abbrev yu:Tm:={ sl:=[(29, .t (.b))],ob:=[] }
noncomputable def f224:FI:={ fid:=224,fn:=Tryz.f224,c:=ah Tryz.f224,ins:={ sl:=[(0, .t (.s)),(1, .t (.i .i64))] },out:=.new (.t (.i .i64)),cuts:=[(7,FL),(117,yu)] }
abbrev zb:Tm:={ sl:=[(0, .t (.s)),(1, .t (.i .i64)),(4, .k (.ptr 0 3 0 0)),(7, .t (.i .i64)),(8, .t (.i .i64)),(9, .t (.b))],ob:=[.box [.t (.st .GToken)]] }
noncomputable def f197:FI:={ fid:=197,fn:=Tryz.f197,c:=ah Tryz.f197,ins:={ sl:=[(0, .t (.s)),(1, .t (.i .i64))] },out:=.new (.tp [.t (.st .GToken), .t (.i .i64), .t (.i .i64)]),cuts:=[(127,zb)] }
abbrev B5:Tm:={ sl:=[(0, .t (.s)),(5, .k (.row 0 3)),(6, .t (.i .i64))],ob:=[.row 216 (.st .GToken)] }
noncomputable def f156:FI:={ fid:=156,fn:=Tryz.f156,c:=ah Tryz.f156,ins:={ sl:=[(0, .t (.s))] },out:=.new (.tp [.t (.ls (.st .GToken)), .t (.i .i64), .t (.i .i64)]),cuts:=[(62,B5)] }
noncomputable def f120:FI:={ fid:=120,fn:=Tryz.f120,c:=ah Tryz.f120,ins:={ sl:=[(0, .t (.s))],ob:=[] },out:=.gen2 ({ sl:=[(2000000, .tp [.tp [.k (.c (.lit (.pointer none))), .t (.i .i64), .t (.i .i64)]])],ob:=[] }) ({ sl:=[(2000000, .tp [.tp [.k (.ptr 0 4 0 0), .t (.i .i64), .t (.i .i64)]])],ob:=[.box [.t (.st .GPensionref5_reader)]] }),cuts:=[] }
noncomputable def f161:FI:={ fid:=161,fn:=Tryz.f161,c:=ah Tryz.f161,ins:={ sl:=[(0, .dp (.st .GPensionref5_reader)),(1, .t (.s))] },out:=.new (.t (.b)),cuts:=[] }
noncomputable def f124:FI:={ fid:=124,fn:=Tryz.f124,c:=ah Tryz.f124,ins:={ sl:=[(0, .k (.ptr 0 4 0 0)),(1, .t (.s)),(1000000, .k (.ptr 0 4 0 0))],ob:=[.box [.t (.st .GPensionref5_reader)]] },out:=.gen ({ sl:=[(1000000, .k (.ptr 0 4 0 0)),(2000000, .tp [.t (.b)])],ob:=[.box [.t (.st .GPensionref5_reader)]] }),cuts:=[] }
noncomputable def f157:FI:={ fid:=157,fn:=Tryz.f157,c:=ah Tryz.f157,ins:={ sl:=[(0, .k (.ptr 0 4 0 0)),(1000000, .k (.ptr 0 4 0 0))],ob:=[.box [.t (.st .GPensionref5_reader)]] },out:=.gen ({ sl:=[(1000000, .k (.ptr 0 4 0 0)),(2000000, .tp [.tp []])],ob:=[.box [.t (.st .GPensionref5_reader)]] }),cuts:=[] }
noncomputable def f121:FI:={ fid:=121,fn:=Tryz.f121,c:=ah Tryz.f121,ins:={ sl:=[(0, .k (.ptr 0 4 0 0)),(1, .t (.s)),(1000000, .k (.ptr 0 4 0 0))],ob:=[.box [.t (.st .GPensionref5_reader)]] },out:=.gen ({ sl:=[(1000000, .k (.ptr 0 4 0 0)),(2000000, .tp [.tp []])],ob:=[.box [.t (.st .GPensionref5_reader)]] }),cuts:=[] }
noncomputable def f158:FI:={ fid:=158,fn:=Tryz.f158,c:=ah Tryz.f158,ins:={ sl:=[(0, .dp (.st .GPensionref5_reader)),(1, .t (.i .i64))] },out:=.new (.t (.b)),cuts:=[] }
abbrev CY:Tm:={ sl:=[(0, .t (.s)),(3, .t (.i .i64))],ob:=[] }
noncomputable def f198:FI:={ fid:=198,fn:=Tryz.f198,c:=ah Tryz.f198,ins:={ sl:=[(0, .t (.s))] },out:=.new (.t (.b)),cuts:=[(26,CY)] }
abbrev Cr:Tm:={ sl:=[(4, .t (.b))],ob:=[] }
noncomputable def f199:FI:={ fid:=199,fn:=Tryz.f199,c:=ah Tryz.f199,ins:={ sl:=[(0, .t (.s))] },out:=.new (.t (.b)),cuts:=[(53,Cr)] }
noncomputable def f159:FI:={ fid:=159,fn:=Tryz.f159,c:=ah Tryz.f159,ins:={ sl:=[(0, .t (.s))] },out:=.new (.t (.b)),cuts:=[] }
noncomputable def f122:FI:={ fid:=122,fn:=Tryz.f122,c:=ah Tryz.f122,ins:={ sl:=[(0, .k (.ptr 0 4 0 0)),(1000000, .k (.ptr 0 4 0 0))],ob:=[.box [.t (.st .GPensionref5_reader)]] },out:=.gen ({ sl:=[(1000000, .k (.ptr 0 4 0 0)),(2000000, .tp [.t (.s)])],ob:=[.box [.t (.st .GPensionref5_reader)]] }),cuts:=[] }
noncomputable def f226:FI:={ fid:=226,fn:=Tryz.f226,c:=ah Tryz.f226,ins:={ sl:=[(0, .t (.i .i64))] },out:=.new (.t (.i .u64)),cuts:=[] }
abbrev Ny:Tm:={ sl:=[(0, .t (.i .u64)),(2, .t (.i .i64))],ob:=[] }
abbrev MK:Tm:={ sl:=[(0, .t (.i .u64)),(2, .t (.i .i64))],ob:=[] }
noncomputable def f101:FI:={ fid:=101,fn:=Tryz.f101,c:=ah Tryz.f101,ins:={ sl:=[(0, .t (.i .u64))] },out:=.new (.t (.i .i64)),cuts:=[(7,Ny),(15,MK)] }
noncomputable def f255:FI:={ fid:=255,fn:=Tryz.f255,c:=ah Tryz.f255,ins:={ sl:=[(0, .t (.i .u64))] },out:=.new (.t (.i .i64)),cuts:=[] }
abbrev G0:Tm:={ sl:=[(0, .t (.i .u64)),(1, .t (.i .u64)),(2, .t (.i .u64))],ob:=[] }
abbrev Ca:Tm:={ sl:=[(0, .t (.i .u64)),(1, .t (.i .u64)),(2, .t (.i .u64))],ob:=[] }
abbrev IU:Tm:={ sl:=[(2, .t (.i .u64)),(8, .t (.i .u64)),(9, .t (.i .u64)),(10, .t (.i .u64)),(11, .t (.i .u64)),(13, .t (.i .u64)),(14, .t (.i .u64)),(15, .t (.i .u64))],ob:=[] }
abbrev xU:Tm:={ sl:=[(2, .t (.i .u64)),(8, .t (.i .u64)),(9, .t (.i .u64)),(10, .t (.i .u64)),(11, .t (.i .u64)),(13, .t (.i .u64)),(14, .t (.i .u64)),(15, .t (.i .u64)),(16, .t (.i .u64))],ob:=[] }
abbrev E4:Tm:={ sl:=[(2, .t (.i .u64)),(8, .t (.i .u64)),(14, .t (.i .u64)),(15, .t (.i .u64)),(17, .t (.i .u64)),(18, .t (.i .u64))],ob:=[] }
abbrev ET:Tm:={ sl:=[(2, .t (.i .u64)),(8, .t (.i .u64)),(9, .t (.i .u64)),(10, .t (.i .u64)),(14, .t (.i .u64)),(15, .t (.i .u64)),(16, .t (.i .u64)),(17, .t (.i .u64)),(18, .t (.i .u64))],ob:=[] }
noncomputable def f253:FI:={ fid:=253,fn:=Tryz.f253,c:=ah Tryz.f253,ins:={ sl:=[(0, .t (.i .u64)),(1, .t (.i .u64)),(2, .t (.i .u64))] },out:=.new (.tp [.t (.i .u64), .t (.i .u64)]),cuts:=[(7,G0),(15,Ca),(65535,IU),(131068,xU),(1048575,E4),(2097148,ET)] }
noncomputable def f242:FI:={ fid:=242,fn:=Tryz.f242,c:=ah Tryz.f242,ins:={ sl:=[(0, .t (.st .GPensionref1_wide)),(1, .t (.i .u64))] },out:=.new (.tp [.t (.st .GPensionref1_wide), .t (.i .u64)]),cuts:=[] }
abbrev B4:Tm:={ sl:=[(0, .t (.i .u64)),(1, .t (.i .u64))],ob:=[] }
noncomputable def f243:FI:={ fid:=243,fn:=Tryz.f243,c:=ah Tryz.f243,ins:={ sl:=[(0, .t (.i .u64)),(1, .t (.i .u64))] },out:=.new (.t (.i .u64)),cuts:=[(12,B4)] }
noncomputable def f225:FI:={ fid:=225,fn:=Tryz.f225,c:=ah Tryz.f225,ins:={ sl:=[(0, .t (.b)),(1, .t (.st .GPensionref1_wide)),(2, .t (.i .u64))] },out:=.new (.tp [.t (.st .GFraction), .t (.i .i64)]),cuts:=[] }
noncomputable def f201:FI:={ fid:=201,fn:=Tryz.f201,c:=ah Tryz.f201,ins:={ sl:=[(0, .t (.i .i64)),(1, .t (.i .i64))] },out:=.new (.tp [.t (.st .GFraction), .t (.i .i64)]),cuts:=[] }
abbrev zy:Tm:={ sl:=[(2, .k (.ptr 0 2 0 0)),(5, .t (.s)),(6, .t (.s)),(7, .t (.i .i64)),(9, .t (.i .i64)),(10, .t (.i .i64)),(11, .t (.i .i64))],ob:=[.box [.t (.st .GFraction)]] }
noncomputable def f160:FI:={ fid:=160,fn:=Tryz.f160,c:=ah Tryz.f160,ins:={ sl:=[(0, .t (.s))] },out:=.new (.tp [.t (.st .GFraction), .t (.i .i64), .t (.b)]),cuts:=[(250,zy)] }
noncomputable def f123:FI:={ fid:=123,fn:=Tryz.f123,c:=ah Tryz.f123,ins:={ sl:=[(0, .k (.ptr 0 4 0 0)),(1, .t (.i .i64)),(2, .t (.i .i64)),(1000000, .k (.ptr 0 4 0 0))],ob:=[.box [.t (.st .GPensionref5_reader)]] },out:=.gen ({ sl:=[(1000000, .k (.ptr 0 4 0 0)),(2000000, .tp [.t (.i .i64)])],ob:=[.box [.t (.st .GPensionref5_reader)]] }),cuts:=[] }
noncomputable def f162:FI:={ fid:=162,fn:=Tryz.f162,c:=ah Tryz.f162,ins:={ sl:=[(0, .t (.s))] },out:=.new (.t (.i .i64)),cuts:=[] }
noncomputable def f203:FI:={ fid:=203,fn:=Tryz.f203,c:=ah Tryz.f203,ins:={ sl:=[(0, .t (.s))] },out:=.new (.t (.i .i64)),cuts:=[] }
noncomputable def f204:FI:={ fid:=204,fn:=Tryz.f204,c:=ah Tryz.f204,ins:={ sl:=[(0, .t (.s))] },out:=.new (.t (.i .i64)),cuts:=[] }
noncomputable def f205:FI:={ fid:=205,fn:=Tryz.f205,c:=ah Tryz.f205,ins:={ sl:=[(0, .t (.s))] },out:=.new (.t (.i .i64)),cuts:=[] }
noncomputable def f163:FI:={ fid:=163,fn:=Tryz.f163,c:=ah Tryz.f163,ins:={ sl:=[(0, .k (.ptr 0 4 0 0)),(1, .t (.i .i64)),(1000000, .k (.ptr 0 4 0 0))],ob:=[.box [.t (.st .GPensionref5_reader)]] },out:=.gen ({ sl:=[(1000000, .k (.ptr 0 4 0 0)),(2000000, .tp [.t (.i .i64)])],ob:=[.box [.t (.st .GPensionref5_reader)]] }),cuts:=[] }
noncomputable def f250:FI:={ fid:=250,fn:=Tryz.f250,c:=ah Tryz.f250,ins:={ sl:=[(0, .t (.i .i64))] },out:=.new (.t (.i .i64)),cuts:=[] }
noncomputable def f246:FI:={ fid:=246,fn:=Tryz.f246,c:=ah Tryz.f246,ins:={ sl:=[(0, .k (.ptr 0 4 0 0)),(1, .t (.i .i64)),(1000000, .k (.ptr 0 4 0 0))],ob:=[.box [.t (.st .GPensionref5_reader)]] },out:=.gen ({ sl:=[(1000000, .k (.ptr 0 4 0 0)),(2000000, .tp [.t (.st .GExpr)])],ob:=[.box [.t (.st .GPensionref5_reader)]] }),cuts:=[] }
noncomputable def f229:FI:={ fid:=229,fn:=Tryz.f229,c:=ah Tryz.f229,ins:={ sl:=[(0, .k (.ptr 0 4 0 0)),(1000000, .k (.ptr 0 4 0 0))],ob:=[.box [.t (.st .GPensionref5_reader)]] },out:=.gen ({ sl:=[(1000000, .k (.ptr 0 4 0 0)),(2000000, .tp [.t (.st .GExpr)])],ob:=[.box [.t (.st .GPensionref5_reader)]] }),cuts:=[] }
abbrev ti:Tm:={ sl:=[(3, .t (.i .i64)),(12, .t (.b))],ob:=[] }
noncomputable def f247:FI:={ fid:=247,fn:=Tryz.f247,c:=ah Tryz.f247,ins:={ sl:=[(0, .t (.i .i64))] },out:=.new (.t (.i .i64)),cuts:=[(13823,ti)] }
noncomputable def f248:FI:={ fid:=248,fn:=Tryz.f248,c:=ah Tryz.f248,ins:={ sl:=[(0, .t (.i .i64))] },out:=.new (.t (.s)),cuts:=[] }
abbrev C2:Tm:={ sl:=[(0, .dp (.st .GPensionref5_reader)),(1, .t (.i .i64)),(5, .t (.i .i64))],ob:=[] }
noncomputable def f230:FI:={ fid:=230,fn:=Tryz.f230,c:=ah Tryz.f230,ins:={ sl:=[(0, .dp (.st .GPensionref5_reader)),(1, .t (.i .i64))] },out:=.new (.t (.i .i64)),cuts:=[(26,C2)] }
abbrev yy:Tm:={ sl:=[(0, .k (.ptr 0 4 0 0)),(1, .t (.i .i64)),(4, .k (.ptr 1 6 0 0)),(8, .k (.ptr 2 6 0 0)),(1000000, .k (.ptr 0 4 0 0))],ob:=[.box [.t (.st .GPensionref5_reader)], .box [.t (.i .i64), .t (.st .GFraction), .t (.i .i64), .t (.s), .k (.c .nil)], .box [.t (.i .i64), .t (.st .GFraction), .t (.i .i64), .t (.s), .t (.ls (.st .GExpr))]] }
noncomputable def f206:FI:={ fid:=206,fn:=Tryz.f206,c:=ah Tryz.f206,ins:={ sl:=[(0, .k (.ptr 0 4 0 0)),(1, .t (.i .i64)),(1000000, .k (.ptr 0 4 0 0))],ob:=[.box [.t (.st .GPensionref5_reader)]] },out:=.gen ({ sl:=[(1000000, .k (.ptr 0 4 0 0)),(2000000, .tp [.t (.st .GExpr)])],ob:=[.box [.t (.st .GPensionref5_reader)]] }),cuts:=[(124,yy)] }
abbrev yC:Tm:={ sl:=[(0, .k (.ptr 0 4 0 0)),(1000000, .k (.ptr 0 4 0 0)),(1000001, .k (.ptr 1 8 0 0))],ob:=[.box [.t (.st .GPensionref5_reader)], .box [.t (.i .i64), .t (.st .GRounding), .k (.row 2 2), .k (.row 3 3), .k (.row 4 7), .k (.row 5 13), .k (.row 6 7)], .row 251 (.st .GCredit), .row 253 (.st .GIndex), .row 258 (.st .GLet), .row 261 (.st .GGrant), .row 263 (.st .GReduce)] }
abbrev vf:Tm:={ sl:=[(0, .k (.ptr 0 4 0 0)),(1, .k (.ptr 1 8 0 0)),(4, .k (.ptr 2 2 0 0)),(1000000, .k (.ptr 0 4 0 0)),(1000001, .k (.ptr 1 8 0 0))],ob:=[.box [.t (.st .GPensionref5_reader)], .box [.t (.i .i64), .t (.st .GRounding), .k (.row 3 2), .k (.row 4 3), .k (.row 5 7), .k (.row 6 13), .k (.row 7 7)], .box [.t (.st .GCredit)], .row 251 (.st .GCredit), .row 253 (.st .GIndex), .row 258 (.st .GLet), .row 261 (.st .GGrant), .row 263 (.st .GReduce)] }
abbrev uk:Tm:={ sl:=[(0, .k (.ptr 0 4 0 0)),(1, .k (.ptr 1 8 0 0)),(6, .k (.ptr 2 3 0 0)),(1000000, .k (.ptr 0 4 0 0)),(1000001, .k (.ptr 1 8 0 0))],ob:=[.box [.t (.st .GPensionref5_reader)], .box [.t (.i .i64), .t (.st .GRounding), .k (.row 3 2), .k (.row 4 3), .k (.row 5 7), .k (.row 6 13), .k (.row 7 7)], .box [.t (.st .GIndex)], .row 251 (.st .GCredit), .row 253 (.st .GIndex), .row 258 (.st .GLet), .row 261 (.st .GGrant), .row 263 (.st .GReduce)] }
abbrev sY:Tm:={ sl:=[(0, .k (.ptr 0 4 0 0)),(1, .k (.ptr 1 8 0 0)),(6, .k (.ptr 2 3 0 0)),(1000000, .k (.ptr 0 4 0 0)),(1000001, .k (.ptr 1 8 0 0))],ob:=[.box [.t (.st .GPensionref5_reader)], .box [.t (.i .i64), .t (.st .GRounding), .k (.row 3 2), .k (.row 4 3), .k (.row 5 7), .k (.row 6 13), .k (.row 7 7)], .box [.t (.st .GIndex)], .row 251 (.st .GCredit), .row 253 (.st .GIndex), .row 258 (.st .GLet), .row 261 (.st .GGrant), .row 263 (.st .GReduce)] }
noncomputable def fR:FI:={ fid:=164,fn:=Tryz.f164,c:=ah Tryz.f164,ins:={ sl:=[(0, .k (.ptr 0 4 0 0)),(1, .k (.ptr 1 8 0 0)),(1000000, .k (.ptr 0 4 0 0)),(1000001, .k (.ptr 1 8 0 0))],ob:=[.box [.t (.st .GPensionref5_reader)], .box [.t (.i .i64), .t (.st .GRounding), .k (.row 2 2), .k (.row 3 3), .k (.row 4 7), .k (.row 5 13), .k (.row 6 7)], .row 251 (.st .GCredit), .row 253 (.st .GIndex), .row 258 (.st .GLet), .row 261 (.st .GGrant), .row 263 (.st .GReduce)] },out:=.gen ({ sl:=[(1000000, .k (.ptr 0 4 0 0)),(1000001, .k (.ptr 1 8 0 0)),(2000000, .tp [.tp []])],ob:=[.box [.t (.st .GPensionref5_reader)], .box [.t (.i .i64), .t (.st .GRounding), .k (.row 2 2), .k (.row 3 3), .k (.row 4 7), .k (.row 5 13), .k (.row 6 7)], .row 251 (.st .GCredit), .row 253 (.st .GIndex), .row 258 (.st .GLet), .row 261 (.st .GGrant), .row 263 (.st .GReduce)] }),cuts:=[(3,yC),(75,vf),(315,uk),(631,sY)] }
abbrev CK:Tm:={ sl:=[(0, .k (.ptr 0 4 0 0)),(2, .k (.ptr 1 8 0 0)),(3, .k (.ptr 2 8 0 0)),(1000000, .k (.ptr 0 4 0 0))],ob:=[.box [.t (.st .GPensionref5_reader)], .box [.t (.i .i64), .t (.st .GRounding), .k (.c .nil), .k (.c .nil), .k (.c .nil), .k (.c .nil), .k (.c .nil)], .box [.t (.i .i64), .t (.st .GRounding), .k (.c .nil), .k (.c .nil), .k (.c .nil), .k (.c .nil), .k (.c .nil)]] }
abbrev vu:Tm:={ sl:=[(0, .k (.ptr 0 4 0 0)),(2, .k (.ptr 1 8 0 0)),(3, .k (.ptr 2 8 0 0)),(1000000, .k (.ptr 0 4 0 0))],ob:=[.box [.t (.st .GPensionref5_reader)], .box [.t (.i .i64), .t (.st .GRounding), .k (.c .nil), .k (.c .nil), .k (.c .nil), .k (.c .nil), .k (.c .nil)], .box [.t (.i .i64), .t (.st .GRounding), .k (.row 3 2), .k (.row 4 3), .k (.row 5 7), .k (.row 6 13), .k (.row 7 7)], .row 251 (.st .GCredit), .row 253 (.st .GIndex), .row 258 (.st .GLet), .row 261 (.st .GGrant), .row 263 (.st .GReduce)] }
noncomputable def f125:FI:={ fid:=125,fn:=Tryz.f125,c:=ah Tryz.f125,ins:={ sl:=[(0, .k (.ptr 0 4 0 0)),(1000000, .k (.ptr 0 4 0 0))],ob:=[.box [.t (.st .GPensionref5_reader)]] },out:=.gen ({ sl:=[(1000000, .k (.ptr 0 4 0 0)),(2000000, .tp [.t (.st .GVersion)])],ob:=[.box [.t (.st .GPensionref5_reader)]] }),cuts:=[(31,CK),(4092,vu)] }
noncomputable def f126:FI:={ fid:=126,fn:=Tryz.f126,c:=ah Tryz.f126,ins:={ sl:=[(0, .dp (.st .GPensionref5_reader))] },out:=.new (.t (.i .i64)),cuts:=[] }
noncomputable def f83:FI:={ fid:=83,fn:=Tryz.f83,c:=ah Tryz.f83,ins:={ sl:=[(0, .t (.i .i64))] },out:=.new (.t (.b)),cuts:=[] }
noncomputable def f207:FI:={ fid:=207,fn:=Tryz.f207,c:=ah Tryz.f207,ins:={ sl:=[(0, .t (.st .GRounding))] },out:=.new (.t (.b)),cuts:=[] }
abbrev Cm:Tm:={ sl:=[(0, .t (.i .i64)),(1, .t (.i .i64)),(5, .k (.row 0 1)),(6, .t (.i .i64))],ob:=[.row 9 (.s)] }
noncomputable def f208:FI:={ fid:=208,fn:=Tryz.f208,c:=ah Tryz.f208,ins:={ sl:=[(0, .t (.i .i64)),(1, .t (.i .i64))] },out:=.new (.t (.s)),cuts:=[(58,Cm)] }
noncomputable def f231:FI:={ fid:=231,fn:=Tryz.f231,c:=ah Tryz.f231,ins:={ sl:=[(0, .t (.st .GFraction))] },out:=.new (.t (.b)),cuts:=[] }
abbrev CV:Tm:={ sl:=[(0, .t (.i .i64)),(1, .t (.i .i64)),(5, .t (.s))],ob:=[] }
noncomputable def f249:FI:={ fid:=249,fn:=Tryz.f249,c:=ah Tryz.f249,ins:={ sl:=[(0, .t (.i .i64)),(1, .t (.i .i64))] },out:=.new (.t (.s)),cuts:=[(28,CV)] }
abbrev Cc:Tm:={ sl:=[(1, .k (.ptr 0 2 0 0)),(3, .t (.s))],ob:=[.box [.t (.st .GFraction)]] }
noncomputable def f232:FI:={ fid:=232,fn:=Tryz.f232,c:=ah Tryz.f232,ins:={ sl:=[(0, .t (.st .GFraction))] },out:=.new (.t (.s)),cuts:=[(31,Cc)] }
abbrev wj:Tm:={ sl:=[(1, .t (.i .i64)),(7, .t (.s)),(8, .t (.i .i64)),(9, .t (.i .i64))],ob:=[] }
noncomputable def f209:FI:={ fid:=209,fn:=Tryz.f209,c:=ah Tryz.f209,ins:={ sl:=[(0, .t (.st .GFraction)),(1, .t (.i .i64))] },out:=.new (.tp [.t (.s), .t (.b)]),cuts:=[(2042,wj)] }
abbrev Bz:Tm:={ sl:=[(1, .k (.ptr 0 6 0 0)),(3, .t (.i .i64)),(4, .t (.i .i64))],ob:=[.box [.t (.i .i64), .t (.st .GFraction), .t (.i .i64), .t (.s), .t (.ls (.st .GExpr))]] }
noncomputable def f233:FI:={ fid:=233,fn:=Tryz.f233,c:=ah Tryz.f233,ins:={ sl:=[(0, .t (.st .GExpr))] },out:=.data (.t (.i .i64)),cuts:=[(58,Bz)] }
abbrev BT:Tm:={ sl:=[(1, .k (.ptr 0 6 0 0)),(3, .t (.i .i64)),(4, .t (.i .i64))],ob:=[.box [.t (.i .i64), .t (.st .GFraction), .t (.i .i64), .t (.s), .t (.ls (.st .GExpr))]] }
noncomputable def f234:FI:={ fid:=234,fn:=Tryz.f234,c:=ah Tryz.f234,ins:={ sl:=[(0, .t (.st .GExpr))] },out:=.data (.t (.i .i64)),cuts:=[(58,BT)] }
abbrev zh:Tm:={ sl:=[(1, .k (.ptr 0 6 0 0)),(3, .t (.b)),(6, .t (.i .i64))],ob:=[.box [.t (.i .i64), .t (.st .GFraction), .t (.i .i64), .t (.s), .t (.ls (.st .GExpr))]] }
noncomputable def f235:FI:={ fid:=235,fn:=Tryz.f235,c:=ah Tryz.f235,ins:={ sl:=[(0, .t (.st .GExpr))] },out:=.new (.t (.b)),cuts:=[(250,zh)] }
noncomputable def f210:FI:={ fid:=210,fn:=Tryz.f210,c:=ah Tryz.f210,ins:={ sl:=[(0, .t (.st .GExpr))] },out:=.new (.t (.b)),cuts:=[] }
abbrev CP:Tm:={ sl:=[(1, .k (.ptr 0 8 0 0)),(3, .t (.i .i64))],ob:=[.box [.t (.i .i64), .t (.st .GRounding), .t (.ls (.st .GCredit)), .t (.ls (.st .GIndex)), .t (.ls (.st .GLet)), .t (.ls (.st .GGrant)), .t (.ls (.st .GReduce))]] }
abbrev yE:Tm:={ sl:=[(1, .k (.ptr 0 8 0 0)),(4, .t (.i .i64))],ob:=[.box [.t (.i .i64), .t (.st .GRounding), .t (.ls (.st .GCredit)), .t (.ls (.st .GIndex)), .t (.ls (.st .GLet)), .t (.ls (.st .GGrant)), .t (.ls (.st .GReduce))]] }
abbrev zq:Tm:={ sl:=[(1, .k (.ptr 0 8 0 0)),(7, .t (.i .i64))],ob:=[.box [.t (.i .i64), .t (.st .GRounding), .t (.ls (.st .GCredit)), .t (.ls (.st .GIndex)), .t (.ls (.st .GLet)), .t (.ls (.st .GGrant)), .t (.ls (.st .GReduce))]] }
abbrev yA:Tm:={ sl:=[(1, .k (.ptr 0 8 0 0)),(8, .t (.i .i64))],ob:=[.box [.t (.i .i64), .t (.st .GRounding), .t (.ls (.st .GCredit)), .t (.ls (.st .GIndex)), .t (.ls (.st .GLet)), .t (.ls (.st .GGrant)), .t (.ls (.st .GReduce))]] }
abbrev vK:Tm:={ sl:=[(1, .k (.ptr 0 8 0 0)),(9, .t (.i .i64))],ob:=[.box [.t (.i .i64), .t (.st .GRounding), .t (.ls (.st .GCredit)), .t (.ls (.st .GIndex)), .t (.ls (.st .GLet)), .t (.ls (.st .GGrant)), .t (.ls (.st .GReduce))]] }
noncomputable def f165:FI:={ fid:=165,fn:=Tryz.f165,c:=ah Tryz.f165,ins:={ sl:=[(0, .t (.st .GVersion))] },out:=.new (.t (.b)),cuts:=[(58,CP),(122,yE),(250,zq),(506,yA),(1018,vK)] }
abbrev Bh:Tm:={ sl:=[(1, .k (.ptr 0 3 0 0)),(3, .t (.i .i64))],ob:=[.box [.t (.s), .t (.i .i64), .t (.ls (.st .GVersion))]] }
noncomputable def f127:FI:={ fid:=127,fn:=Tryz.f127,c:=ah Tryz.f127,ins:={ sl:=[(0, .t (.st .GStatute))] },out:=.new (.t (.b)),cuts:=[(58,Bh)] }
abbrev yo:Tm:={ sl:=[(2, .k (.ptr 0 3 0 0)),(5, .k (.ptr 1 4 0 0)),(8, .k (.ptr 2 3 0 0)),(9, .t (.b))],ob:=[.box [.t (.s), .t (.i .i64), .k (.c .nil)], .box [.t (.st .GPensionref5_reader)], .box [.t (.s), .t (.i .i64), .k (.row 3 8)], .row 178 (.st .GVersion)] }
noncomputable def f81:FI:={ fid:=81,fn:=Tryz.f81,c:=ah Tryz.f81,ins:={ sl:=[(0, .t (.s))] },out:=.data (.tp [.t (.st .GStatute), .t (.i .i64), .t (.i .i64)]),cuts:=[(4090,yo)] }
abbrev FY:Tm:={ sl:=[(0, .t (.ls (.i .i64))),(2, .k (.ptr 0 3 0 0)),(3, .k (.ptr 1 3 0 0)),(4, .t (.i .i64))],ob:=[.box [.k (.c .nil), .k (.c .nil), .k (.c .nil)], .box [.k (.row 2 4), .k (.c .nil), .k (.row 3 4)], .row 126 (.st .GState), .row 118 (.st .GRate)] }
noncomputable def f50:FI:={ fid:=50,fn:=Tryz.f50,c:=ah Tryz.f50,ins:={ sl:=[(0, .t (.ls (.i .i64)))],ob:=[] },out:=.gen ({ sl:=[(2000000, .tp [.ag [.k (.row 0 4), .k (.row 1 5), .k (.row 2 4)]])],ob:=[.row 126 (.st .GState), .row 42 (.st .GRules), .row 118 (.st .GRate)] }),cuts:=[(58,FY)] }
abbrev IA:Tm:={ sl:=[(1, .t (.i .i64)),(5, .k (.row 0 5)),(6, .t (.i .i64))],ob:=[.row 42 (.st .GRules)] }
noncomputable def f19:FI:={ fid:=19,fn:=Tryz.f19,c:=ah Tryz.f19,ins:={ sl:=[(0, .t (.ls (.i .i64))),(1, .t (.i .i64))] },out:=.own false 42 (.st .GRules),cuts:=[(234,IA)] }
abbrev BB:Tm:={ sl:=[(0, .t (.ls (.st .GRules))),(3, .t (.i .i64))],ob:=[] }
abbrev vW:Tm:={ sl:=[(0, .t (.ls (.st .GRules))),(3, .t (.i .i64)),(4, .k (.ptr 0 5 0 0)),(5, .t (.i .i64))],ob:=[.box [.t (.st .GRules)]] }
noncomputable def f52:FI:={ fid:=52,fn:=Tryz.f52,c:=ah Tryz.f52,ins:={ sl:=[(0, .t (.ls (.st .GRules)))] },out:=.new (.t (.i .i64)),cuts:=[(122,BB),(31310,vW)] }
abbrev Gd:Tm:={ sl:=[(0, .t (.ls (.st .GFact))),(3, .k (.row 0 14)),(4, .t (.i .i64))],ob:=[.row 38 (.st .GFact)] }
noncomputable def f38:FI:={ fid:=38,fn:=Tryz.f38,c:=ah Tryz.f38,ins:={ sl:=[(0, .t (.ls (.st .GFact)))] },out:=.own true 38 (.st .GFact),cuts:=[(58,Gd)] }
abbrev zB:Tm:={ sl:=[(1, .t (.i .i64)),(6, .k (.row 0 14)),(7, .t (.i .i64)),(8, .t (.b)),(9, .t (.i .i64))],ob:=[.row 38 (.st .GFact)] }
noncomputable def f105:FI:={ fid:=105,fn:=Tryz.f105,c:=ah Tryz.f105,ins:={ sl:=[(0, .t (.ls (.st .GFact))),(1, .t (.i .i64))] },out:=.new (.tp [.t (.i .i64), .t (.b)]),cuts:=[(122,zB)] }
noncomputable def f69:FI:={ fid:=69,fn:=Tryz.f69,c:=ah Tryz.f69,ins:={ sl:=[(0, .t (.ls (.st .GFact)))] },out:=.new (.tp [.t (.i .i64), .t (.b)]),cuts:=[] }
noncomputable def f70:FI:={ fid:=70,fn:=Tryz.f70,c:=ah Tryz.f70,ins:={ sl:=[(0, .t (.ls (.st .GFact)))] },out:=.new (.tp [.t (.i .i64), .t (.b)]),cuts:=[] }
noncomputable def f40:FI:={ fid:=40,fn:=Tryz.f40,c:=ah Tryz.f40,ins:={ sl:=[(0, .t (.ls (.st .GFact)))] },out:=.new (.t (.st .GSpan)),cuts:=[] }
noncomputable def f148:FI:={ fid:=148,fn:=Tryz.f148,c:=ah Tryz.f148,ins:={ sl:=[(0, .t (.st .GSpan))] },out:=.new (.tp [.t (.st .GSpan), .t (.b)]),cuts:=[] }
abbrev GU:Tm:={ sl:=[(0, .t (.ls (.i .i64))),(1, .t (.i .i64)),(5, .t (.i .i64))],ob:=[] }
noncomputable def f55:FI:={ fid:=55,fn:=Tryz.f55,c:=ah Tryz.f55,ins:={ sl:=[(0, .t (.ls (.i .i64))),(1, .t (.i .i64))] },out:=.data (.t (.ls (.i .i64))),cuts:=[(28,GU)] }
abbrev Bp:Tm:={ sl:=[(0, .t (.ls (.ls (.st .GSpan)))),(3, .t (.ls (.i .i64))),(4, .t (.i .i64))],ob:=[] }
abbrev wk:Tm:={ sl:=[(0, .t (.ls (.ls (.st .GSpan)))),(3, .t (.ls (.i .i64))),(4, .t (.i .i64)),(5, .t (.i .i64))],ob:=[] }
noncomputable def f102:FI:={ fid:=102,fn:=Tryz.f102,c:=ah Tryz.f102,ins:={ sl:=[(0, .t (.ls (.ls (.st .GSpan))))] },out:=.data (.t (.ls (.i .i64))),cuts:=[(58,Bp),(3730,wk)] }
abbrev B7:Tm:={ sl:=[(0, .t (.ls (.st .GSpan))),(1, .t (.i .i64)),(5, .t (.i .i64))],ob:=[] }
noncomputable def f103:FI:={ fid:=103,fn:=Tryz.f103,c:=ah Tryz.f103,ins:={ sl:=[(0, .t (.ls (.st .GSpan))),(1, .t (.i .i64))] },out:=.new (.t (.b)),cuts:=[(26,B7)] }
noncomputable def f104:FI:={ fid:=104,fn:=Tryz.f104,c:=ah Tryz.f104,ins:={ sl:=[(0, .t (.ls (.st .GSpan))),(1, .t (.st .GSpan))] },out:=.own true 30 (.st .GSpan),cuts:=[] }
abbrev BY:Tm:={ sl:=[(0, .t (.ls (.st .GSpan))),(1, .t (.ls (.st .GSpan))),(2, .t (.i .i64)),(7, .t (.ls (.i .i64))),(8, .k (.row 0 2)),(9, .t (.i .i64))],ob:=[.row 30 (.st .GSpan)] }
noncomputable def f68:FI:={ fid:=68,fn:=Tryz.f68,c:=ah Tryz.f68,ins:={ sl:=[(0, .t (.ls (.st .GSpan))),(1, .t (.ls (.st .GSpan))),(2, .t (.i .i64))] },out:=.own true 30 (.st .GSpan),cuts:=[(122,BY)] }
noncomputable def f39:FI:={ fid:=39,fn:=Tryz.f39,c:=ah Tryz.f39,ins:={ sl:=[(0, .t (.ls (.st .GSpan))),(1, .t (.st .GSpan))] },out:=.own true 30 (.st .GSpan),cuts:=[] }
abbrev G9:Tm:={ sl:=[(0, .t (.ls (.st .GPosting))),(3, .k (.ptr 0 4 0 0)),(5, .t (.i .i64))],ob:=[.box [.t (.st .GPosting)]] }
noncomputable def f41:FI:={ fid:=41,fn:=Tryz.f41,c:=ah Tryz.f41,ins:={ sl:=[(0, .t (.ls (.st .GPosting))),(1, .t (.st .GPosting))] },out:=.own true 32 (.st .GPosting),cuts:=[(28,G9)] }
abbrev CS:Tm:={ sl:=[(0, .t (.ls (.st .GFact))),(3, .k (.row 0 14)),(4, .k (.row 1 4)),(5, .t (.i .i64))],ob:=[.row 38 (.st .GFact), .row 32 (.st .GPosting)] }
abbrev yT:Tm:={ sl:=[(0, .t (.ls (.st .GFact))),(3, .k (.row 0 14)),(4, .k (.row 1 4)),(5, .t (.i .i64)),(6, .t (.i .i64))],ob:=[.row 38 (.st .GFact), .row 32 (.st .GPosting)] }
abbrev q5:Tm:={ sl:=[(0, .t (.ls (.st .GFact))),(3, .k (.row 0 14)),(4, .k (.row 1 4)),(5, .t (.i .i64)),(6, .t (.i .i64)),(7, .k (.row 2 2)),(8, .t (.i .i64))],ob:=[.row 38 (.st .GFact), .row 32 (.st .GPosting), .row 30 (.st .GSpan)] }
abbrev rt:Tm:={ sl:=[(0, .t (.ls (.st .GFact))),(3, .k (.row 0 14)),(4, .k (.row 1 4)),(5, .t (.i .i64)),(6, .t (.i .i64)),(7, .k (.row 2 2)),(9, .t (.i .i64))],ob:=[.row 38 (.st .GFact), .row 32 (.st .GPosting), .row 30 (.st .GSpan)] }
noncomputable def f13:FI:={ fid:=13,fn:=Tryz.f13,c:=ah Tryz.f13,ins:={ sl:=[(0, .t (.ls (.st .GFact)))] },out:=.own true 32 (.st .GPosting),cuts:=[(122,CS),(7826,yT),(2003530,q5),(4007070,rt)] }
abbrev EU:Tm:={ sl:=[(0, .t (.ls (.st .GRules))),(1, .t (.i .i64)),(4, .k (.ptr 0 5 0 0)),(6, .t (.i .i64))],ob:=[.box [.t (.st .GRules)]] }
noncomputable def f51:FI:={ fid:=51,fn:=Tryz.f51,c:=ah Tryz.f51,ins:={ sl:=[(0, .t (.ls (.st .GRules))),(1, .t (.i .i64))] },out:=.new (.tp [.t (.st .GRules), .t (.b)]),cuts:=[(26,EU)] }
noncomputable def f53:FI:={ fid:=53,fn:=Tryz.f53,c:=ah Tryz.f53,ins:={ sl:=[(0, .t (.st .GSpan)),(1, .t (.i .i64))] },out:=.new (.t (.b)),cuts:=[] }
abbrev BK:Tm:={ sl:=[(0, .t (.ls (.st .GFact))),(1, .t (.i .i64)),(4, .k (.ptr 0 1 0 0)),(5, .k (.ptr 1 1 0 0)),(6, .t (.i .i64))],ob:=[.row 184 (.i .i64), .row 184 (.i .i64)] }
noncomputable def f130:FI:={ fid:=130,fn:=Tryz.f130,c:=ah Tryz.f130,ins:={ sl:=[(0, .t (.ls (.st .GFact))),(1, .t (.i .i64))] },out:=.new (.t (.arr 6 (.i .i64))),cuts:=[(58,BK)] }
abbrev Co:Tm:={ sl:=[(0, .t (.ls (.st .GFact))),(1, .t (.i .i64)),(6, .k (.row 0 14)),(7, .t (.i .i64)),(8, .t (.i .i64))],ob:=[.row 38 (.st .GFact)] }
noncomputable def f22:FI:={ fid:=22,fn:=Tryz.f22,c:=ah Tryz.f22,ins:={ sl:=[(0, .t (.ls (.st .GFact))),(1, .t (.i .i64))] },out:=.new (.tp [.t (.i .i64), .t (.b)]),cuts:=[(122,Co)] }
abbrev BN:Tm:={ sl:=[(0, .t (.ls (.st .GFact))),(1, .t (.i .i64)),(5, .t (.ls (.i .i64))),(6, .t (.i .i64))],ob:=[] }
noncomputable def f131:FI:={ fid:=131,fn:=Tryz.f131,c:=ah Tryz.f131,ins:={ sl:=[(0, .t (.ls (.st .GFact))),(1, .t (.i .i64))] },out:=.data (.t (.ls (.i .i64))),cuts:=[(58,BN)] }
abbrev Bi:Tm:={ sl:=[(0, .t (.ls (.st .GFact))),(1, .t (.ls (.st .GFact))),(3, .t (.i .i64)),(6, .k (.ptr 0 5 0 0)),(10, .k (.ptr 1 1 0 0)),(11, .t (.i .i64)),(12, .t (.i .i64)),(13, .t (.i .i64)),(14, .t (.i .i64))],ob:=[.box [.t (.st .GRules)], .row 184 (.i .i64)] }
noncomputable def f84:FI:={ fid:=84,fn:=Tryz.f84,c:=ah Tryz.f84,ins:={ sl:=[(0, .t (.ls (.st .GFact))),(1, .t (.ls (.st .GFact))),(2, .t (.st .GRules)),(3, .t (.i .i64))] },out:=.new (.tp [.t (.i .i64), .t (.b)]),cuts:=[(122,Bi)] }
abbrev Fq:Tm:={ sl:=[(0, .t (.ls (.st .GFact))),(1, .t (.ls (.st .GFact))),(2, .t (.ls (.st .GPosting))),(4, .t (.i .i64)),(8, .k (.ptr 0 5 0 0)),(12, .t (.i .i64)),(13, .t (.i .i64))],ob:=[.box [.t (.st .GRules)]] }
abbrev Cg:Tm:={ sl:=[(0, .t (.ls (.st .GFact))),(1, .t (.ls (.st .GFact))),(4, .t (.i .i64)),(8, .k (.ptr 0 5 0 0)),(12, .t (.i .i64)),(14, .t (.i .i64))],ob:=[.box [.t (.st .GRules)]] }
abbrev zx:Tm:={ sl:=[(0, .t (.ls (.st .GFact))),(1, .t (.ls (.st .GFact))),(4, .t (.i .i64)),(12, .t (.i .i64)),(17, .t (.i .i64))],ob:=[] }
noncomputable def f54:FI:={ fid:=54,fn:=Tryz.f54,c:=ah Tryz.f54,ins:={ sl:=[(0, .t (.ls (.st .GFact))),(1, .t (.ls (.st .GFact))),(2, .t (.ls (.st .GPosting))),(3, .t (.st .GRules)),(4, .t (.i .i64))] },out:=.new (.tp [.t (.i .i64), .t (.i .i64)]),cuts:=[(58,Fq),(250,Cg),(2042,zx)] }
abbrev C8:Tm:={ sl:=[(0, .t (.ls (.st .GFact))),(1, .t (.ls (.st .GRules))),(5, .k (.row 0 14)),(6, .k (.row 1 4)),(7, .k (.ptr 2 2 0 0)),(8, .t (.ls (.i .i64))),(9, .t (.i .i64))],ob:=[.row 38 (.st .GFact), .row 32 (.st .GPosting), .box [.t (.st .GSpan)]] }
abbrev B0:Tm:={ sl:=[(0, .t (.ls (.st .GFact))),(1, .t (.ls (.st .GRules))),(5, .k (.row 0 14)),(6, .k (.row 1 4)),(7, .k (.ptr 2 2 0 0)),(8, .t (.ls (.i .i64))),(10, .t (.i .i64))],ob:=[.row 38 (.st .GFact), .row 32 (.st .GPosting), .box [.t (.st .GSpan)]] }
abbrev zz:Tm:={ sl:=[(0, .t (.ls (.st .GFact))),(1, .t (.ls (.st .GRules))),(5, .k (.row 0 14)),(6, .k (.row 1 4)),(7, .k (.ptr 2 2 0 0)),(8, .t (.ls (.i .i64))),(12, .t (.i .i64))],ob:=[.row 38 (.st .GFact), .row 32 (.st .GPosting), .box [.t (.st .GSpan)]] }
abbrev zj:Tm:={ sl:=[(0, .t (.ls (.st .GFact))),(1, .t (.ls (.st .GRules))),(5, .k (.row 0 14)),(6, .k (.row 1 4)),(7, .k (.ptr 2 2 0 0)),(8, .t (.ls (.i .i64))),(13, .k (.row 3 4)),(14, .t (.i .i64))],ob:=[.row 38 (.st .GFact), .row 32 (.st .GPosting), .box [.t (.st .GSpan)], .row 62 (.st .GSegment)] }
abbrev vp:Tm:={ sl:=[(0, .t (.ls (.st .GFact))),(1, .t (.ls (.st .GRules))),(5, .k (.row 0 14)),(6, .k (.row 1 4)),(7, .k (.ptr 2 2 0 0)),(8, .t (.ls (.i .i64))),(10, .t (.i .i64)),(11, .t (.i .i64))],ob:=[.row 38 (.st .GFact), .row 32 (.st .GPosting), .box [.t (.st .GSpan)]] }
noncomputable def f23:FI:={ fid:=23,fn:=Tryz.f23,c:=ah Tryz.f23,ins:={ sl:=[(0, .t (.ls (.st .GFact))),(1, .t (.ls (.st .GRules)))] },out:=.own true 62 (.st .GSegment),cuts:=[(250,C8),(506,B0),(1018,zz),(4090,zj),(64806,vp)] }
abbrev yL:Tm:={ sl:=[(3, .t (.i .i64)),(6, .t (.b))],ob:=[] }
abbrev wE:Tm:={ sl:=[(3, .t (.i .i64)),(11, .t (.b))],ob:=[] }
abbrev rD:Tm:={ sl:=[(3, .t (.i .i64)),(20, .t (.b))],ob:=[] }
noncomputable def f137:FI:={ fid:=137,fn:=Tryz.f137,c:=ah Tryz.f137,ins:={ sl:=[(0, .t (.i .i64))] },out:=.new (.t (.s)),cuts:=[(215,yL),(3455,wE),(221183,rD)] }
noncomputable def f140:FI:={ fid:=140,fn:=Tryz.f140,c:=ah Tryz.f140,ins:={ sl:=[(0, .t (.i .i64)),(1, .t (.i .i64)),(2, .t (.i .i64))] },out:=.new (.t (.b)),cuts:=[] }
noncomputable def f251:FI:={ fid:=251,fn:=Tryz.f251,c:=ah Tryz.f251,ins:={ sl:=[(0, .t (.s)),(1, .t (.i .u8))] },out:=.data (.t (.i .i64)),cuts:=[] }
noncomputable def f238:FI:={ fid:=238,fn:=Tryz.f238,c:=ah Tryz.f238,ins:={ sl:=[(0, .t (.s)),(1, .t (.i .u8))] },out:=.new (.t (.i .i64)),cuts:=[] }
noncomputable def f219:FI:={ fid:=219,fn:=Tryz.f219,c:=ah Tryz.f219,ins:={ sl:=[(0, .t (.s)),(1, .t (.s))] },out:=.new (.t (.i .i64)),cuts:=[] }
noncomputable def f193:FI:={ fid:=193,fn:=Tryz.f193,c:=ah Tryz.f193,ins:={ sl:=[(0, .t (.s)),(1, .t (.s))] },out:=.new (.t (.i .i64)),cuts:=[] }
noncomputable def f139:FI:={ fid:=139,fn:=Tryz.f139,c:=ah Tryz.f139,ins:={ sl:=[(0, .t (.s)),(1, .t (.s))] },out:=.new (.t (.b)),cuts:=[] }
noncomputable def f138:FI:={ fid:=138,fn:=Tryz.f138,c:=ah Tryz.f138,ins:={ sl:=[(0, .t (.s)),(1, .dp (.s))] },out:=.new (.t (.b)),cuts:=[] }
noncomputable def f141:FI:={ fid:=141,fn:=Tryz.f141,c:=ah Tryz.f141,ins:={ sl:=[(0, .t (.b)),(1, .t (.i .i64)),(2, .t (.i .i64)),(3, .t (.i .i64))] },out:=.new (.t (.b)),cuts:=[] }
noncomputable def f142:FI:={ fid:=142,fn:=Tryz.f142,c:=ah Tryz.f142,ins:={ sl:=[(0, .t (.st .GSpan))] },out:=.new (.t (.b)),cuts:=[] }
abbrev yD:Tm:={ sl:=[(1, .k (.ptr 0 14 0 0)),(89, .t (.i .i64)),(97, .t (.b))],ob:=[.box [.t (.st .GFact)]] }
noncomputable def f90:FI:={ fid:=90,fn:=Tryz.f90,c:=ah Tryz.f90,ins:={ sl:=[(0, .t (.st .GFact))] },out:=.new (.t (.b)),cuts:=[(2007,yD)] }
noncomputable def f61:FI:={ fid:=61,fn:=Tryz.f61,c:=ah Tryz.f61,ins:={ sl:=[(0, .t (.st .GFact))] },out:=.new (.t (.b)),cuts:=[] }
abbrev Fa:Tm:={ sl:=[(1, .fn 61 []),(5, .k (.row 0 14)),(8, .t (.ls (.st .GFact))),(9, .t (.i .i64)),(10, .t (.i .i64))],ob:=[.row 38 (.st .GFact)] }
noncomputable def f60:FI:={ fid:=60,fn:=Tryz.f60,c:=ah Tryz.f60,ins:={ sl:=[(0, .t (.ls (.st .GFact))),(1, .fn 61 [])] },out:=.own true 38 (.st .GFact),cuts:=[(58,Fa)] }
noncomputable def f31:FI:={ fid:=31,fn:=Tryz.f31,c:=ah Tryz.f31,ins:={ sl:=[(0, .t (.ls (.st .GFact)))] },out:=.own true 38 (.st .GFact),cuts:=[] }
abbrev Ge:Tm:={ sl:=[(1, .t (.i .i64)),(6, .t (.i .i64)),(7, .t (.b)),(10, .t (.ls (.st .GFact))),(11, .t (.i .i64)),(12, .t (.i .i64))],ob:=[] }
noncomputable def f91:FI:={ fid:=91,fn:=Tryz.f91,c:=ah Tryz.f91,ins:={ sl:=[(0, .t (.ls (.st .GFact))),(1, .t (.i .i64))] },out:=.new (.tp [.t (.i .i64), .t (.b)]),cuts:=[(58,Ge)] }
noncomputable def f63:FI:={ fid:=63,fn:=Tryz.f63,c:=ah Tryz.f63,ins:={ sl:=[(0, .t (.ls (.st .GFact)))] },out:=.new (.tp [.t (.i .i64), .t (.b)]),cuts:=[] }
noncomputable def f64:FI:={ fid:=64,fn:=Tryz.f64,c:=ah Tryz.f64,ins:={ sl:=[(0, .t (.ls (.st .GFact)))] },out:=.new (.tp [.t (.i .i64), .t (.b)]),cuts:=[] }
noncomputable def f33:FI:={ fid:=33,fn:=Tryz.f33,c:=ah Tryz.f33,ins:={ sl:=[(0, .t (.ls (.st .GFact)))] },out:=.new (.t (.st .GSpan)),cuts:=[] }
abbrev FQ:Tm:={ sl:=[(0, .t (.ls (.st .GFact))),(3, .fn 2000000000 [.k (.ptr 0 1 0 0)]),(14, .k (.row 1 14)),(15, .t (.i .i64)),(16, .t (.i .i64))],ob:=[.map 66 (.st .GCompetence_route) (.ls (.st .GSpan)), .row 38 (.st .GFact)] }
abbrev CL:Tm:={ sl:=[(0, .t (.ls (.st .GFact))),(7, .k (.c .nil)),(39, .k (.ptr 0 1 0 0))],ob:=[.iter (.fn 2000000000 [.k (.ptr 1 1 0 0)]), .map 66 (.st .GCompetence_route) (.ls (.st .GSpan))] }
noncomputable def f12:FI:={ fid:=12,fn:=Tryz.f12,c:=ah Tryz.f12,ins:={ sl:=[(0, .t (.ls (.st .GFact)))] },out:=.new (.t (.ls (.st .GPosting))),cuts:=[(58,FQ),(250,CL)] }
noncomputable def f109:FI:={ fid:=109,fn:=Tryz.f109,c:=ah Tryz.f109,ins:={ sl:=[(0, .t (.i .i64))] },out:=.new (.t (.b)),cuts:=[] }
noncomputable def f149:FI:={ fid:=149,fn:=Tryz.f149,c:=ah Tryz.f149,ins:={ sl:=[(0, .t (.i .i64)),(1, .t (.i .i64))] },out:=.new (.t (.b)),cuts:=[] }
abbrev CX:Tm:={ sl:=[(1, .k (.ptr 0 5 0 0)),(28, .t (.ls (.i .i64))),(29, .t (.i .i64)),(30, .t (.i .i64))],ob:=[.box [.t (.st .GRules)]] }
noncomputable def f108:FI:={ fid:=108,fn:=Tryz.f108,c:=ah Tryz.f108,ins:={ sl:=[(0, .t (.st .GRules))] },out:=.new (.t (.b)),cuts:=[(58,CX)] }
abbrev Bg:Tm:={ sl:=[(0, .t (.ls (.st .GRules))),(18, .t (.ls (.st .GRules))),(19, .t (.i .i64)),(20, .t (.i .i64))],ob:=[] }
noncomputable def f73:FI:={ fid:=73,fn:=Tryz.f73,c:=ah Tryz.f73,ins:={ sl:=[(0, .t (.ls (.st .GRules)))] },out:=.new (.t (.i .i64)),cuts:=[(122,Bg)] }
noncomputable def f48:FI:={ fid:=48,fn:=Tryz.f48,c:=ah Tryz.f48,ins:={ sl:=[(0, .t (.ls (.st .GFact))),(1, .t (.ls (.st .GRules)))] },out:=.data (.tp [.t (.st .GCompetence_life), .t (.b)]),cuts:=[] }
noncomputable def f74:FI:={ fid:=74,fn:=Tryz.f74,c:=ah Tryz.f74,ins:={ sl:=[(0, .t (.ls (.st .GRules))),(1, .t (.i .i64))] },out:=.data (.tp [.t (.st .GRules), .t (.b)]),cuts:=[] }
noncomputable def f75:FI:={ fid:=75,fn:=Tryz.f75,c:=ah Tryz.f75,ins:={ sl:=[(0, .t (.st .GSpan)),(1, .t (.i .i64))] },out:=.new (.t (.b)),cuts:=[] }
abbrev F1:Tm:={ sl:=[(1, .t (.i .i64)),(2, .t (.i .i64)),(11, .t (.ls (.st .GPosting))),(12, .t (.i .i64)),(13, .t (.i .i64))],ob:=[] }
noncomputable def f76:FI:={ fid:=76,fn:=Tryz.f76,c:=ah Tryz.f76,ins:={ sl:=[(0, .t (.st .GCompetence_life)),(1, .t (.i .i64)),(2, .t (.i .i64))] },out:=.new (.tp [.t (.i .i64), .t (.b)]),cuts:=[(26,F1)] }
abbrev Ck:Tm:={ sl:=[(0, .t (.ls (.i .i64))),(1, .t (.i .i64)),(7, .t (.i .i64)),(8, .t (.i .i64))],ob:=[] }
noncomputable def f153:FI:={ fid:=153,fn:=Tryz.f153,c:=ah Tryz.f153,ins:={ sl:=[(0, .t (.ls (.i .i64))),(1, .t (.i .i64))] },out:=.new (.t (.i .i64)),cuts:=[(26,Ck)] }
noncomputable def f116:FI:={ fid:=116,fn:=Tryz.f116,c:=ah Tryz.f116,ins:={ sl:=[(0, .t (.ls (.i .i64))),(1, .t (.i .i64))] },out:=.new (.t (.b)),cuts:=[] }
abbrev C5:Tm:={ sl:=[(1, .t (.i .i64)),(2, .t (.ls (.i .i64))),(7, .k (.row 0 14)),(11, .t (.ls (.st .GFact))),(12, .t (.i .i64)),(13, .t (.i .i64))],ob:=[.row 38 (.st .GFact)] }
noncomputable def f112:FI:={ fid:=112,fn:=Tryz.f112,c:=ah Tryz.f112,ins:={ sl:=[(0, .t (.st .GCompetence_life)),(1, .t (.i .i64)),(2, .t (.ls (.i .i64)))] },out:=.own true 38 (.st .GFact),cuts:=[(58,C5)] }
abbrev G4:Tm:={ sl:=[(6, .k (.ptr 0 14 0 0)),(7, .t (.b)),(14, .k (.row 1 14)),(15, .t (.i .i64)),(16, .t (.i .i64))],ob:=[.box [.t (.st .GFact)], .row 38 (.st .GFact)] }
noncomputable def f77:FI:={ fid:=77,fn:=Tryz.f77,c:=ah Tryz.f77,ins:={ sl:=[(0, .t (.st .GCompetence_life)),(1, .t (.i .i64))] },out:=.new (.tp [.t (.i .i64), .t (.b)]),cuts:=[(58,G4)] }
noncomputable def f155:FI:={ fid:=155,fn:=Tryz.f155,c:=ah Tryz.f155,ins:={ sl:=[(0, .t (.st .GSpan)),(1, .dp (.i .i64))] },out:=.new (.t (.b)),cuts:=[] }
abbrev CU:Tm:={ sl:=[(0, .t (.ls (.st .GSpan))),(1, .fn 155 [.dp (.i .i64)]),(7, .t (.i .i64)),(8, .t (.i .i64))],ob:=[] }
noncomputable def f196:FI:={ fid:=196,fn:=Tryz.f196,c:=ah Tryz.f196,ins:={ sl:=[(0, .t (.ls (.st .GSpan))),(1, .fn 155 [.dp (.i .i64)])] },out:=.new (.t (.i .i64)),cuts:=[(26,CU)] }
noncomputable def f154:FI:={ fid:=154,fn:=Tryz.f154,c:=ah Tryz.f154,ins:={ sl:=[(0, .t (.ls (.st .GSpan))),(1, .fn 155 [.dp (.i .i64)])] },out:=.new (.t (.b)),cuts:=[] }
noncomputable def f119:FI:={ fid:=119,fn:=Tryz.f119,c:=ah Tryz.f119,ins:={ sl:=[(0, .t (.ls (.st .GSpan))),(1, .t (.i .i64))] },out:=.new (.t (.b)),cuts:=[] }
abbrev BV:Tm:={ sl:=[(1, .t (.i .i64)),(6, .k (.ptr 0 14 0 0)),(7, .t (.b)),(22, .t (.ls (.st .GFact))),(23, .t (.i .i64)),(24, .t (.i .i64))],ob:=[.box [.t (.st .GFact)]] }
noncomputable def f80:FI:={ fid:=80,fn:=Tryz.f80,c:=ah Tryz.f80,ins:={ sl:=[(0, .t (.ls (.st .GFact))),(1, .t (.i .i64))] },out:=.new (.tp [.t (.i .i64), .t (.b)]),cuts:=[(122,BV)] }
abbrev B3:Tm:={ sl:=[(3, .k (.row 0 1)),(6, .t (.ls (.st .GFact))),(7, .t (.i .i64)),(8, .t (.i .i64))],ob:=[.row 3 (.i .i64)] }
noncomputable def f115:FI:={ fid:=115,fn:=Tryz.f115,c:=ah Tryz.f115,ins:={ sl:=[(0, .t (.ls (.st .GFact)))] },out:=.own true 3 (.i .i64),cuts:=[(58,B3)] }
abbrev EX:Tm:={ sl:=[(1, .t (.i .i64)),(2, .t (.i .i64)),(3, .k (.ptr 0 5 0 0)),(8, .fn 2000000000 [.k (.ptr 1 1 0 0)]),(9, .t (.i .i64)),(25, .k (.row 2 14)),(26, .t (.i .i64)),(27, .t (.i .i64))],ob:=[.box [.t (.st .GCompetence_life)], .map 153 (.i .i64) (.i .i64), .row 38 (.st .GFact)] }
abbrev DI:Tm:={ sl:=[(8, .fn 2000000000 [.k (.ptr 0 1 0 0)]),(18, .t (.i .i64)),(117, .k (.row 1 1)),(118, .t (.i .i64)),(119, .t (.i .i64))],ob:=[.map 153 (.i .i64) (.i .i64), .row 3 (.i .i64)] }
noncomputable def f78:FI:={ fid:=78,fn:=Tryz.f78,c:=ah Tryz.f78,ins:={ sl:=[(0, .t (.st .GCompetence_life)),(1, .t (.i .i64)),(2, .t (.i .i64))] },out:=.new (.tp [.t (.i .i64), .t (.b)]),cuts:=[(58,EX),(65530,DI)] }
noncomputable def f67:FI:={ fid:=67,fn:=Tryz.f67,c:=ah Tryz.f67,ins:={ sl:=[(0, .t (.i .i64))] },out:=.new (.t (.b)),cuts:=[] }
noncomputable def f37:FI:={ fid:=37,fn:=Tryz.f37,c:=ah Tryz.f37,ins:={ sl:=[(0, .t (.i .i64)),(1, .t (.i .i64))] },out:=.new (.t (.i .i64)),cuts:=[] }
noncomputable def f118:FI:={ fid:=118,fn:=Tryz.f118,c:=ah Tryz.f118,ins:={ sl:=[(0, .t (.st .GFact)),(1, .t (.st .GFact))] },out:=.new (.t (.i .i64)),cuts:=[] }
abbrev Mh:Tm:={ sl:=[(0, .t (.ls (.st .GFact))),(1, .fn 118 []),(4, .k (.ptr 0 14 0 0)),(5, .k (.ptr 1 14 0 0)),(6, .t (.i .i64))],ob:=[.box [.t (.st .GFact)], .box [.t (.st .GFact)]] }
noncomputable def f117:FI:={ fid:=117,fn:=Tryz.f117,c:=ah Tryz.f117,ins:={ sl:=[(0, .t (.ls (.st .GFact))),(1, .fn 118 [])] },out:=.new (.t (.st .GFact)),cuts:=[(122,Mh)] }
noncomputable def f79:FI:={ fid:=79,fn:=Tryz.f79,c:=ah Tryz.f79,ins:={ sl:=[(0, .t (.st .GCompetence_life)),(1, .t (.i .i64))] },out:=.new (.tp [.t (.i .i64), .t (.b)]),cuts:=[] }
noncomputable def f49:FI:={ fid:=49,fn:=Tryz.f49,c:=ah Tryz.f49,ins:={ sl:=[(0, .t (.st .GCompetence_life)),(1, .t (.i .i64))] },out:=.new (.tp [.t (.i .i64), .t (.i .i64)]),cuts:=[] }
noncomputable def f18:FI:={ fid:=18,fn:=Tryz.f18,c:=ah Tryz.f18,ins:={ sl:=[(0, .t (.ls (.st .GFact))),(1, .t (.ls (.st .GRules))),(2, .t (.i .i64))] },out:=.new (.tp [.t (.i .i64), .t (.i .i64)]),cuts:=[] }
noncomputable def f14:FI:={ fid:=14,fn:=Tryz.f14,c:=ah Tryz.f14,ins:={ sl:=[] },out:=.new (.t (.b)),cuts:=[] }
noncomputable def f85:FI:={ fid:=85,fn:=Tryz.f85,c:=ah Tryz.f85,ins:={ sl:=[(0, .t (.st .GSpan))] },out:=.new (.t (.st .GSpan)),cuts:=[] }
abbrev GI:Tm:={ sl:=[(3, .k (.ptr 0 1 0 0)),(10, .t (.ls (.st .GSpan))),(11, .t (.i .i64)),(12, .t (.i .i64))],ob:=[.box [.k (.row 1 2)], .row 30 (.st .GSpan)] }
abbrev BM:Tm:={ sl:=[(6, .k (.row 0 2)),(32, .k (.row 1 2)),(33, .t (.i .i64)),(34, .t (.i .i64))],ob:=[.row 30 (.st .GSpan), .row 30 (.st .GSpan)] }
noncomputable def f56:FI:={ fid:=56,fn:=Tryz.f56,c:=ah Tryz.f56,ins:={ sl:=[(0, .t (.ls (.st .GSpan)))] },out:=.own true 30 (.st .GSpan),cuts:=[(58,GI),(506,BM)] }
abbrev FU:Tm:={ sl:=[(1, .t (.i .i64)),(2, .t (.i .i64)),(7, .k (.row 0 2)),(10, .t (.ls (.st .GSegment))),(11, .t (.i .i64)),(12, .t (.i .i64))],ob:=[.row 30 (.st .GSpan)] }
noncomputable def f25:FI:={ fid:=25,fn:=Tryz.f25,c:=ah Tryz.f25,ins:={ sl:=[(0, .t (.ls (.st .GSegment))),(1, .t (.i .i64)),(2, .t (.i .i64))] },out:=.own true 30 (.st .GSpan),cuts:=[(58,FU)] }
noncomputable def f57:FI:={ fid:=57,fn:=Tryz.f57,c:=ah Tryz.f57,ins:={ sl:=[(0, .t (.ls (.st .GSpan)))] },out:=.own true 30 (.st .GSpan),cuts:=[] }
abbrev Gy:Tm:={ sl:=[(0, .t (.ls (.st .GSegment))),(1, .t (.i .i64)),(2, .t (.i .i64)),(7, .k (.row 0 2)),(8, .t (.i .i64))],ob:=[.row 30 (.st .GSpan)] }
noncomputable def f26:FI:={ fid:=26,fn:=Tryz.f26,c:=ah Tryz.f26,ins:={ sl:=[(0, .t (.ls (.st .GSegment))),(1, .t (.i .i64)),(2, .t (.i .i64))] },out:=.own true 30 (.st .GSpan),cuts:=[(58,Gy)] }
abbrev GT:Tm:={ sl:=[(0, .t (.ls (.st .GSpan))),(1, .t (.ls (.st .GSpan))),(5, .t (.i .i64))],ob:=[] }
noncomputable def f24:FI:={ fid:=24,fn:=Tryz.f24,c:=ah Tryz.f24,ins:={ sl:=[(0, .t (.ls (.st .GSpan))),(1, .t (.ls (.st .GSpan)))] },out:=.new (.t (.b)),cuts:=[(58,GT)] }
noncomputable def f7:FI:={ fid:=7,fn:=Tryz.f7,c:=ah Tryz.f7,ins:={ sl:=[(0, .t (.ls (.st .GPensionhand_Fact))),(1, .t (.ls (.i .i64))),(2, .t (.b)),(3, .t (.ls (.st .GSegment))),(4, .t (.i .i64)),(5, .t (.i .i64))] },out:=.new (.t (.b)),cuts:=[] }
noncomputable def f20:FI:={ fid:=20,fn:=Tryz.f20,c:=ah Tryz.f20,ins:={ sl:=[(0, .t (.i .i64)),(1, .t (.b))] },out:=.new (.t (.i .i64)),cuts:=[] }
abbrev NE:Tm:={ sl:=[(0, .t (.ls (.st .GPensionhand_Fact))),(1, .t (.ls (.i .i64))),(2, .t (.i .i64)),(7, .k (.row 0 14)),(8, .t (.i .i64))],ob:=[.row 38 (.st .GFact)] }
noncomputable def f6:FI:={ fid:=6,fn:=Tryz.f6,c:=ah Tryz.f6,ins:={ sl:=[(0, .t (.ls (.st .GPensionhand_Fact))),(1, .t (.ls (.i .i64))),(2, .t (.i .i64))] },out:=.new (.t (.b)),cuts:=[(122,NE)] }
noncomputable def Ma:XT→HP f251.ins.tys→Option (HP f251.out.tys):=fun _ (a:ByteArray × Int)=>some (Go.firstIdx a.1 a.2.toNat.toUInt8)
noncomputable def NP:XT→HP f74.ins.tys→Option (HP f74.out.tys):=fun _ (a:List GRules × Int)=>qN a.1 a.2
noncomputable def Tb:iy:={ P:=Tryz.prog,fs:=[(15,[f15]),(42,[f42]),(59,[f59]),(30,[f30]),(29,[f29]),(44,[f44]),(106,[f106]),(71,[f71]),(45,[f45]),(46,[f46]),(107,[nz,f107]),(72,[f72]),(47,[f47]),(17,[f17]),(43,[f43]),(16,[f16]),(11,[f11]),(128,[f128]),(166,[f166]),(129,[f129]),(82,[f82]),(220,[f220]),(221,[f221]),(223,[f223]),(222,[f222]),(200,[f200]),(227,[f227]),(254,[f254]),(244,[f244]),(245,[f245]),(228,[f228]),(202,[f202]),(224,[f224]),(197,[f197]),(156,[f156]),(120,[f120]),(161,[f161]),(124,[f124]),(157,[f157]),(121,[f121]),(158,[f158]),(198,[f198]),(199,[f199]),(159,[f159]),(122,[f122]),(226,[f226]),(101,[f101]),(255,[f255]),(253,[f253]),(242,[f242]),(243,[f243]),(225,[f225]),(201,[f201]),(160,[f160]),(123,[f123]),(162,[f162]),(203,[f203]),(204,[f204]),(205,[f205]),(163,[f163]),(250,[f250]),(246,[f246]),(229,[f229]),(247,[f247]),(248,[f248]),(230,[f230]),(206,[f206]),(164,[fR]),(125,[f125]),(126,[f126]),(83,[f83]),(207,[f207]),(208,[f208]),(231,[f231]),(249,[f249]),(232,[f232]),(209,[f209]),(233,[f233]),(234,[f234]),(235,[f235]),(210,[f210]),(165,[f165]),(127,[f127]),(81,[f81]),(50,[f50]),(19,[f19]),(52,[f52]),(38,[f38]),(105,[f105]),(69,[f69]),(70,[f70]),(40,[f40]),(148,[f148]),(55,[f55]),(102,[f102]),(103,[f103]),(104,[f104]),(68,[f68]),(39,[f39]),(41,[f41]),(13,[f13]),(51,[f51]),(53,[f53]),(130,[f130]),(22,[f22]),(131,[f131]),(84,[f84]),(54,[f54]),(23,[f23]),(137,[f137]),(140,[f140]),(238,[f238]),(219,[f219]),(193,[f193]),(139,[f139]),(138,[f138]),(141,[f141]),(142,[f142]),(90,[f90]),(61,[f61]),(60,[f60]),(31,[f31]),(91,[f91]),(63,[f63]),(64,[f64]),(33,[f33]),(12,[f12]),(109,[f109]),(149,[f149]),(108,[f108]),(73,[f73]),(48,[f48]),(75,[f75]),(76,[f76]),(153,[f153]),(116,[f116]),(112,[f112]),(77,[f77]),(155,[f155]),(196,[f196]),(154,[f154]),(119,[f119]),(80,[f80]),(115,[f115]),(78,[f78]),(67,[f67]),(37,[f37]),(118,[f118]),(117,[f117]),(79,[f79]),(49,[f49]),(18,[f18]),(14,[f14]),(85,[f85]),(56,[f56]),(25,[f25]),(57,[f57]),(26,[f26]),(24,[f24]),(7,[f7]),(20,[f20]),(6,[f6])],sp:=(fun f=>(bif Nat.beq f 74 then .hand f74 NP else (bif Nat.beq f 251 then .hand f251 Ma else (bif Nat.beq f 114 then .mut (fun _=>EG 152) else (bif Nat.beq f 113 then .mut (fun _=>wT 152 3) else (bif Nat.beq f 89 then .mut (fun _=>sJ) else (bif Nat.beq f 88 then .mut (fun _=>EE) else (bif Nat.beq f 86 then .mut (fun _=>oW 56 87 30 (.st .GSpan) gP) else (bif Nat.beq f 34 then .mut (fun _=>sP) else .none))))))))) }
theorem aj:gm Tb:=⟨fun f=>(.cnd (.h _) (.cnd (.h _) (.cnd (.m _) (.cnd (.m _) (.cnd (.m _) (.cnd (.m _) (.cnd (.m _) (.cnd (.m _) trivial))))))))⟩
noncomputable def qh (t0:ByteArray) (t1:Int):Option Int:=Ma (Xc Tb) (t0,t1)
noncomputable def wc (t:List GRules) (day:Int):Option (GRules × Bool):=NP (Xc Tb) (t,day)
noncomputable def gJ (n:Int) (k:Int):Option Int:=Xf Tb f15 1 f15.ins (n,k)
noncomputable def am (n:Int) (m:Int):Option Int:=Xf Tb f42 1 f42.ins (n,m)
noncomputable def az (n:List Int) (i:Int):Option Int:=Xf Tb f59 1 f59.ins (n,i)
noncomputable def oG (n:List Int):Option (List GFact):=Xf Tb f30 1 f30.ins n
noncomputable def jM (n:List Int) (p:Int) (out:List GFact):Option (List GFact):=Xf Tb f30 58 FO (n,p,out)
noncomputable def ui (l:List GFact) (person:Int):Option (List GFact):=Xf Tb f29 1 f29.ins (l,person)
noncomputable def dZ (l:List GFact) (person:Int) (i:Int) (out:List GFact):Option (List GFact):=Xf Tb f29 58 E7 (l,person,i,out)
noncomputable def jT (kind:Int):Option ByteArray:=Xf Tb f44 1 f44.ins kind
noncomputable def ub (kind:Int) (c:Int):Option Bool:=Xf Tb f106 1 f106.ins (kind,c)
noncomputable def dE (c:Int) (s:ByteArray) (i:Int):Option Bool:=Xf Tb f106 58 BA (c,s,i)
noncomputable def bH (kind:Int) (c:Int) (n:Int) (least:Int) (most:Int):Option Bool:=Xf Tb f71 1 f71.ins (kind,c,n,least,most)
noncomputable def fW (f:GFact):Option Bool:=Xf Tb f45 1 f45.ins f
noncomputable def mO (a:GFact) (b:GFact):Option Int:=Xf Tb f46 1 f46.ins (a,b)
noncomputable def aT (n:Int) (size:Int) (b:List Int):Option (List Int):=Xf Tb nz 1 nz.ins (n,size,b)
noncomputable def gU (n:Int) (i:Int) (b:List Int):Option (List Int):=Xf Tb nz 26 u9 (n,i,b)
noncomputable def mS (f:GFact):Option (List Int):=Xf Tb f72 1 f72.ins f
noncomputable def iX (gone:Int) (f:GFact):Option (List Int):=Xf Tb f72 31 E9 (gone,f)
noncomputable def gi (s:ByteArray) (i:Int) (f:GFact) (b:List Int):Option (List Int):=Xf Tb f72 1018 yt (s,i,f,b)
noncomputable def bA (s:ByteArray) (i:Int) (f:GFact) (b:List Int):Option (List Int):=Xf Tb f72 8147 yJ (s,i,f,b)
noncomputable def lI (a:GFact) (b:GFact):Option Bool:=Xf Tb f47 1 f47.ins (a,b)
noncomputable def iK (a:List GFact) (b:List GFact):Option (List GFact):=Xf Tb f17 1 f17.ins (a,b)
noncomputable def aM (a:List GFact) (b:List GFact) (i:Int) (out:List GFact):Option (List GFact):=Xf Tb f17 58 G6 (a,b,i,out)
noncomputable def gn (a:List GFact) (b:List GFact) (i:Int) (out:List GFact) (f:GFact):Option (List GFact):=Xf Tb f17 3731 yx (a,b,i,out,f)
noncomputable def fU (a:List GFact) (b:List GFact) (i:Int) (xat:Int) (out:List GFact) (f:GFact):Option (List GFact):=Xf Tb f17 59708 u3 (a,b,i,xat,out,f)
noncomputable def rC (n:Int):Option Int:=Xf Tb f43 1 f43.ins n
noncomputable def vO (r:GPensionhand_Fact):Option GFact:=Xf Tb f16 1 f16.ins r
noncomputable def eR (xfrom:Int) (to:Int) (r:GPensionhand_Fact) (t2:GFact) (f:GFact):Option GFact:=Xf Tb f16 127 CT (xfrom,to,r,t2,f)
noncomputable def iU (xfrom:Int) (to:Int) (u:ByteArray) (i:Int) (r:GPensionhand_Fact) (t2:GFact) (f:GFact):Option GFact:=Xf Tb f16 2042 yj (xfrom,to,u,i,r,t2,f)
noncomputable def bu (xfrom:Int) (to:Int) (u:ByteArray) (i:Int) (r:GPensionhand_Fact) (t2:GFact) (f:GFact):Option GFact:=Xf Tb f16 16339 wm (xfrom,to,u,i,r,t2,f)
noncomputable def qd (l:List GPensionhand_Fact) (n:List Int) (dense:Bool):Option (List GFact):=Xf Tb f11 1 f11.ins (l,n,dense)
noncomputable def gQ (l:List GPensionhand_Fact) (n:List Int) (dense:Bool) (i:Int) (out:List GFact):Option (List GFact):=Xf Tb f11 58 FN (l,n,dense,i,out)
noncomputable def d9 (l:List GPensionhand_Fact) (n:List Int) (dense:Bool) (i:Int) (out:List GFact) (r:GPensionhand_Fact):Option (List GFact):=Xf Tb f11 7463 yk (l,n,dense,i,out,r)
noncomputable def aZ (n:Int):Option ByteArray:=Xf Tb f128 1 f128.ins n
noncomputable def i8 (n:Int) (s:ByteArray):Option ByteArray:=Xf Tb f128 28 CJ (n,s)
noncomputable def dY (n:Int):Option ByteArray:=Xf Tb f166 1 f166.ins n
noncomputable def jy (xfrom:ByteArray) (n:List Int) (xat:Int):Option ByteArray:=Xf Tb f129 1 f129.ins (xfrom,n,xat)
noncomputable def dF (n:List Int) (xat:Int) (years:ByteArray) (s:ByteArray):Option ByteArray:=Xf Tb f129 31 Cu (n,xat,years,s)
noncomputable def gc (n:List Int) (xat:Int) (years:ByteArray) (s:ByteArray):Option ByteArray:=Xf Tb f129 127 zi (n,xat,years,s)
noncomputable def gp (n:List Int) (xat:Int) (years:ByteArray) (s:ByteArray):Option ByteArray:=Xf Tb f129 255 zp (n,xat,years,s)
noncomputable def fE (n:List Int) (xat:Int) (s:ByteArray):Option ByteArray:=Xf Tb f129 8191 wi (n,xat,s)
noncomputable def fk (n:List Int) (xat:Int) (s:ByteArray):Option ByteArray:=Xf Tb f129 65535 tM (n,xat,s)
noncomputable def wx (state:Int) (n:List Int):Option ByteArray:=Xf Tb f82 1 f82.ins (state,n)
noncomputable def kz (state:Int) (n:List Int) (s:ByteArray):Option ByteArray:=Xf Tb f82 31 FW (state,n,s)
noncomputable def DV (s:ByteArray) (xat:Int):Option Int:=Xf Tb f220 1 f220.ins (s,xat)
noncomputable def eu (s:ByteArray) (xat:Int) (comment:Bool):Option Int:=Xf Tb f220 28 Cv (s,xat,comment)
noncomputable def iJ (c:Int):Option Bool:=Xf Tb f221 1 f221.ins c
noncomputable def ik (c:Int):Option Bool:=Xf Tb f223 1 f223.ins c
noncomputable def tx (s:ByteArray) (xat:Int) (point:Bool):Option Int:=Xf Tb f222 1 f222.ins (s,xat,point)
noncomputable def e9 (s:ByteArray) (xat:Int) (point:Bool) (n:Int):Option Int:=Xf Tb f222 28 Cf (s,xat,point,n)
noncomputable def oV (s:ByteArray):Option (ByteArray × ByteArray × Int × Bool):=Xf Tb f200 1 f200.ins s
noncomputable def gG (s:ByteArray) (dim:Int):Option (ByteArray × ByteArray × Int × Bool):=Xf Tb f200 15 B8 (s,dim)
noncomputable def fQ (s:ByteArray) (dim:Int) (xat:Int) (i:Int):Option (ByteArray × ByteArray × Int × Bool):=Xf Tb f200 250 zl (s,dim,xat,i)
noncomputable def iZ (dim:Int) (a:ByteArray) (b:ByteArray):Option (ByteArray × ByteArray × Int × Bool):=Xf Tb f200 255 yH (dim,a,b)
noncomputable def gY (dim:Int) (a:ByteArray) (b:ByteArray) (i:Int):Option (ByteArray × ByteArray × Int × Bool):=Xf Tb f200 2042 uZ (dim,a,b,i)
noncomputable def lD (s:ByteArray):Option (Int × Bool):=Xf Tb f227 1 f227.ins s
noncomputable def jV (s:ByteArray) (n:Int) (i:Int):Option (Int × Bool):=Xf Tb f227 58 Br (s,n,i)
noncomputable def vd (year:Int):Option Bool:=Xf Tb f254 1 f254.ins year
noncomputable def ng (year:Int) (month:Int):Option Int:=Xf Tb f244 1 f244.ins (year,month)
noncomputable def sH (month:Int):Option Int:=Xf Tb f245 1 f245.ins month
noncomputable def jF (month:Int) (n:Int) (m:Int):Option Int:=Xf Tb f245 58 Ct (month,n,m)
noncomputable def yN (year:Int) (month:Int) (dom:Int):Option (Int × Bool):=Xf Tb f228 1 f228.ins (year,month,dom)
noncomputable def kF (s:ByteArray):Option (Int × Bool):=Xf Tb f202 1 f202.ins s
noncomputable def wD (s:ByteArray) (xat:Int):Option Int:=Xf Tb f224 1 f224.ins (s,xat)
noncomputable def lH (s:ByteArray) (xat:Int):Option Int:=Xf Tb f224 7 FL (s,xat)
noncomputable def aQ (t29:Bool):Option Int:=Xf Tb f224 117 yu t29
noncomputable def vY (s:ByteArray) (xat:Int):Option (GToken × Int × Int):=Xf Tb f197 1 f197.ins (s,xat)
noncomputable def dc (s:ByteArray) (xat:Int) (kind:Int) (n:Int) (ok:Bool) (t4:GToken):Option (GToken × Int × Int):=Xf Tb f197 127 zb (s,xat,kind,n,ok,t4)
noncomputable def yV (s:ByteArray):Option (List GToken × Int × Int):=Xf Tb f156 1 f156.ins s
noncomputable def lN (s:ByteArray) (xat:Int) (out:List GToken):Option (List GToken × Int × Int):=Xf Tb f156 62 B5 (s,xat,out)
noncomputable def sU (s:ByteArray):Option (Bool × Int × Int × Int × Int × GPensionref5_reader):=Xf Tb f120 1 f120.ins s
noncomputable def dM (r:GPensionref5_reader) (s:ByteArray):Option Bool:=Xf Tb f161 1 f161.ins (r,s)
noncomputable def aH (s:ByteArray) (r:GPensionref5_reader):Option (Bool × GPensionref5_reader):=Xf Tb f124 1 f124.ins (s,r)
noncomputable def aL (r:GPensionref5_reader):Option GPensionref5_reader:=Xf Tb f157 1 f157.ins r
noncomputable def ay (s:ByteArray) (r:GPensionref5_reader):Option GPensionref5_reader:=Xf Tb f121 1 f121.ins (s,r)
noncomputable def cq (r:GPensionref5_reader) (k:Int):Option Bool:=Xf Tb f158 1 f158.ins (r,k)
noncomputable def rB (s:ByteArray):Option Bool:=Xf Tb f198 1 f198.ins s
noncomputable def em (s:ByteArray) (i:Int):Option Bool:=Xf Tb f198 26 CY (s,i)
noncomputable def pb (s:ByteArray):Option Bool:=Xf Tb f199 1 f199.ins s
noncomputable def aw (t4:Bool):Option Bool:=Xf Tb f199 53 Cr t4
noncomputable def iE (s:ByteArray):Option Bool:=Xf Tb f159 1 f159.ins s
noncomputable def e8 (r:GPensionref5_reader):Option (ByteArray × GPensionref5_reader):=Xf Tb f122 1 f122.ins r
noncomputable def k7 (n:Int):Option Int:=Xf Tb f226 1 f226.ins n
noncomputable def pL (x:Int):Option Int:=Xf Tb f255 1 f255.ins x
noncomputable def ld (hi:Int) (lo:Int) (y:Int):Option (Int × Int):=Xf Tb f253 1 f253.ins (hi,lo,y)
noncomputable def nE (hi:Int) (lo:Int) (y:Int):Option (Int × Int):=Xf Tb f253 7 G0 (hi,lo,y)
noncomputable def lZ (hi:Int) (lo:Int) (y:Int):Option (Int × Int):=Xf Tb f253 15 Ca (hi,lo,y)
noncomputable def qg (y:Int) (s:Int) (yn1:Int) (yn0:Int) (un32:Int) (un1:Int) (un0:Int) (q1:Int) (rhat:Int):Option (Int × Int):=Xf Tb f253 131068 xU (y,s,yn1,yn0,un32,un1,un0,q1,rhat)
noncomputable def jS (w:GPensionref1_wide) (d:Int):Option (GPensionref1_wide × Int):=Xf Tb f242 1 f242.ins (w,d)
noncomputable def zf (a:Int) (b:Int):Option Int:=Xf Tb f243 1 f243.ins (a,b)
noncomputable def lz (a:Int) (b:Int):Option Int:=Xf Tb f243 12 B4 (a,b)
noncomputable def qU (negative:Bool) (n:GPensionref1_wide) (d:Int):Option (GFraction × Int):=Xf Tb f225 1 f225.ins (negative,n,d)
noncomputable def kg (num:Int) (den:Int):Option (GFraction × Int):=Xf Tb f201 1 f201.ins (num,den)
noncomputable def ju (text:ByteArray):Option (GFraction × Int × Bool):=Xf Tb f160 1 f160.ins text
noncomputable def eE (a:ByteArray) (b:ByteArray) (dim:Int) (num:Int) (den:Int) (i:Int) (t2:GFraction):Option (GFraction × Int × Bool):=Xf Tb f160 250 zy (a,b,dim,num,den,i,t2)
noncomputable def cL (least:Int) (most:Int) (r:GPensionref5_reader):Option (Int × GPensionref5_reader):=Xf Tb f123 1 f123.ins (least,most,r)
noncomputable def AG (s:ByteArray):Option Int:=Xf Tb f162 1 f162.ins s
noncomputable def qr (s:ByteArray):Option Int:=Xf Tb f203 1 f203.ins s
noncomputable def jo (s:ByteArray):Option Int:=Xf Tb f204 1 f204.ins s
noncomputable def jm (s:ByteArray):Option Int:=Xf Tb f205 1 f205.ins s
noncomputable def eU (what:Int) (r:GPensionref5_reader):Option (Int × GPensionref5_reader):=Xf Tb f163 1 f163.ins (what,r)
noncomputable def qO (op:Int):Option Int:=Xf Tb f250 1 f250.ins op
noncomputable def fa (op:Int) (r:GPensionref5_reader):Option (GExpr × GPensionref5_reader):=Xf Tb f246 1 f246.ins (op,r)
noncomputable def jt (r:GPensionref5_reader):Option (GExpr × GPensionref5_reader):=Xf Tb f229 1 f229.ins r
noncomputable def sO (op:Int):Option Int:=Xf Tb f247 1 f247.ins op
noncomputable def bW (t3:Int) (t12:Bool):Option Int:=Xf Tb f247 13823 ti (t3,t12)
noncomputable def qT (op:Int):Option ByteArray:=Xf Tb f248 1 f248.ins op
noncomputable def jD (r:GPensionref5_reader) (n:Int):Option Int:=Xf Tb f230 1 f230.ins (r,n)
noncomputable def cT (r:GPensionref5_reader) (n:Int) (op:Int):Option Int:=Xf Tb f230 26 C2 (r,n,op)
noncomputable def aB (n:Int) (r:GPensionref5_reader):Option (GExpr × GPensionref5_reader):=Xf Tb f206 1 f206.ins (n,r)
noncomputable def ee (n:Int) (r:GPensionref5_reader) (Op:Int) (Value:GFraction) (Dim:Int) (Name:ByteArray) (Op2:Int) (Value2:GFraction) (Dim2:Int) (Name2:ByteArray) (Args:List GExpr):Option (GExpr × GPensionref5_reader):=Xf Tb f206 124 yy (n,r,Op,Value,Dim,Name,Op2,Value2,Dim2,Name2,Args)
noncomputable def jA (r:GPensionref5_reader) (From:Int) (Rounding:GRounding) (Credits:List GCredit) (Series:List GIndex) (Lets:List GLet) (Grants:List GGrant) (Reduces:List GReduce):Option (GPensionref5_reader × Int × GRounding × List GCredit × List GIndex × List GLet × List GGrant × List GReduce):=Xf Tb fR 1 fR.ins (r,From,Rounding,Credits,Series,Lets,Grants,Reduces)
noncomputable def be (r:GPensionref5_reader) (From:Int) (Rounding:GRounding) (Credits:List GCredit) (Series:List GIndex) (Lets:List GLet) (Grants:List GGrant) (Reduces:List GReduce):Option (GPensionref5_reader × Int × GRounding × List GCredit × List GIndex × List GLet × List GGrant × List GReduce):=Xf Tb fR 3 yC (r,From,Rounding,Credits,Series,Lets,Grants,Reduces)
noncomputable def dS (r:GPensionref5_reader) (From:Int) (Rounding:GRounding) (c:GCredit) (Credits:List GCredit) (Series:List GIndex) (Lets:List GLet) (Grants:List GGrant) (Reduces:List GReduce):Option (GPensionref5_reader × Int × GRounding × List GCredit × List GIndex × List GLet × List GGrant × List GReduce):=Xf Tb fR 75 vf (r,From,Rounding,c,Credits,Series,Lets,Grants,Reduces)
noncomputable def cG (r:GPensionref5_reader) (From:Int) (Rounding:GRounding) (x:GIndex) (Credits:List GCredit) (Series:List GIndex) (Lets:List GLet) (Grants:List GGrant) (Reduces:List GReduce):Option (GPensionref5_reader × Int × GRounding × List GCredit × List GIndex × List GLet × List GGrant × List GReduce):=Xf Tb fR 315 uk (r,From,Rounding,x,Credits,Series,Lets,Grants,Reduces)
noncomputable def dB (r:GPensionref5_reader) (From:Int) (Rounding:GRounding) (x:GIndex) (Credits:List GCredit) (Series:List GIndex) (Lets:List GLet) (Grants:List GGrant) (Reduces:List GReduce):Option (GPensionref5_reader × Int × GRounding × List GCredit × List GIndex × List GLet × List GGrant × List GReduce):=Xf Tb fR 631 sY (r,From,Rounding,x,Credits,Series,Lets,Grants,Reduces)
noncomputable def fm (r:GPensionref5_reader):Option (GVersion × GPensionref5_reader):=Xf Tb f125 1 f125.ins r
noncomputable def dy (r:GPensionref5_reader) (From:Int) (Rounding:GRounding) (From2:Int) (Rounding2:GRounding):Option (GVersion × GPensionref5_reader):=Xf Tb f125 31 CK (r,From,Rounding,From2,Rounding2)
noncomputable def dg (r:GPensionref5_reader) (From:Int) (Rounding:GRounding) (From2:Int) (Rounding2:GRounding) (Credits:List GCredit) (Series:List GIndex) (Lets:List GLet) (Grants:List GGrant) (Reduces:List GReduce):Option (GVersion × GPensionref5_reader):=Xf Tb f125 4092 vu (r,From,Rounding,From2,Rounding2,Credits,Series,Lets,Grants,Reduces)
noncomputable def f4 (r:GPensionref5_reader):Option Int:=Xf Tb f126 1 f126.ins r
noncomputable def fx (day:Int):Option Bool:=Xf Tb f83 1 f83.ins day
noncomputable def nK (r:GRounding):Option Bool:=Xf Tb f207 1 f207.ins r
noncomputable def km (n:Int) (of:Int):Option ByteArray:=Xf Tb f208 1 f208.ins (n,of)
noncomputable def bj (n:Int) (of:Int) (i:Int) (l:List ByteArray):Option ByteArray:=Xf Tb f208 58 Cm (n,of,i,l)
noncomputable def fB (f:GFraction):Option Bool:=Xf Tb f231 1 f231.ins f
noncomputable def kw (n:Int) (least:Int):Option ByteArray:=Xf Tb f249 1 f249.ins (n,least)
noncomputable def iV (n:Int) (least:Int) (s:ByteArray):Option ByteArray:=Xf Tb f249 28 CV (n,least,s)
noncomputable def iP (a:GFraction):Option ByteArray:=Xf Tb f232 1 f232.ins a
noncomputable def fu (s:ByteArray) (a:GFraction):Option ByteArray:=Xf Tb f232 31 Cc (s,a)
noncomputable def fC (value:GFraction) (dim:Int):Option (ByteArray × Bool):=Xf Tb f209 1 f209.ins (value,dim)
noncomputable def cA (dim:Int) (s:ByteArray) (rest:Int) (k:Int):Option (ByteArray × Bool):=Xf Tb f209 2042 wj (dim,s,rest,k)
noncomputable def oK (e:GExpr):Option Int:=Xf Tb f233 1 f233.ins e
noncomputable def jI (n:Int) (i:Int) (Op:Int) (Value:GFraction) (Dim:Int) (Name:ByteArray) (Args:List GExpr):Option Int:=Xf Tb f233 58 Bz (n,i,Op,Value,Dim,Name,Args)
noncomputable def qK (e:GExpr):Option Int:=Xf Tb f234 1 f234.ins e
noncomputable def kB (n:Int) (i:Int) (Op:Int) (Value:GFraction) (Dim:Int) (Name:ByteArray) (Args:List GExpr):Option Int:=Xf Tb f234 58 BT (n,i,Op,Value,Dim,Name,Args)
noncomputable def mR (e:GExpr):Option Bool:=Xf Tb f235 1 f235.ins e
noncomputable def gT (zero:Bool) (i:Int) (Op:Int) (Value:GFraction) (Dim:Int) (Name:ByteArray) (Args:List GExpr):Option Bool:=Xf Tb f235 250 zh (zero,i,Op,Value,Dim,Name,Args)
noncomputable def eQ (e:GExpr):Option Bool:=Xf Tb f210 1 f210.ins e
noncomputable def j9 (v:GVersion):Option Bool:=Xf Tb f165 1 f165.ins v
noncomputable def ep (i:Int) (From:Int) (Rounding:GRounding) (Credits:List GCredit) (Series:List GIndex) (Lets:List GLet) (Grants:List GGrant) (Reduces:List GReduce):Option Bool:=Xf Tb f165 58 CP (i,From,Rounding,Credits,Series,Lets,Grants,Reduces)
noncomputable def dQ (i:Int) (From:Int) (Rounding:GRounding) (Credits:List GCredit) (Series:List GIndex) (Lets:List GLet) (Grants:List GGrant) (Reduces:List GReduce):Option Bool:=Xf Tb f165 122 yE (i,From,Rounding,Credits,Series,Lets,Grants,Reduces)
noncomputable def dR (i:Int) (From:Int) (Rounding:GRounding) (Credits:List GCredit) (Series:List GIndex) (Lets:List GLet) (Grants:List GGrant) (Reduces:List GReduce):Option Bool:=Xf Tb f165 250 zq (i,From,Rounding,Credits,Series,Lets,Grants,Reduces)
noncomputable def dU (i:Int) (From:Int) (Rounding:GRounding) (Credits:List GCredit) (Series:List GIndex) (Lets:List GLet) (Grants:List GGrant) (Reduces:List GReduce):Option Bool:=Xf Tb f165 506 yA (i,From,Rounding,Credits,Series,Lets,Grants,Reduces)
noncomputable def dC (i:Int) (From:Int) (Rounding:GRounding) (Credits:List GCredit) (Series:List GIndex) (Lets:List GLet) (Grants:List GGrant) (Reduces:List GReduce):Option Bool:=Xf Tb f165 1018 vK (i,From,Rounding,Credits,Series,Lets,Grants,Reduces)
noncomputable def lm (x:GStatute):Option Bool:=Xf Tb f127 1 f127.ins x
noncomputable def jP (i:Int) (Name:ByteArray) (Currency:Int) (Versions:List GVersion):Option Bool:=Xf Tb f127 58 Bh (i,Name,Currency,Versions)
noncomputable def tF (s:ByteArray):Option (GStatute × Int × Int):=Xf Tb f81 1 f81.ins s
noncomputable def dJ (first:Bool) (Name:ByteArray) (Currency:Int) (r:GPensionref5_reader) (Name2:ByteArray) (Currency2:Int) (Versions:List GVersion):Option (GStatute × Int × Int):=Xf Tb f81 4090 yo (first,Name,Currency,r,Name2,Currency2,Versions)
noncomputable def wl (n:List Int):Option (List GState × List GRules × List GRate):=Xf Tb f50 1 f50.ins n
noncomputable def ir (n:List Int) (s:Int) (States:List GState) (Rates:List GRate):Option (List GState × List GRules × List GRate):=Xf Tb f50 58 FY (n,s,States,Rates)
noncomputable def rF (n:List Int) (limit:Int):Option (List GRules):=Xf Tb f19 1 f19.ins (n,limit)
noncomputable def ze (limit:Int) (i:Int) (t:List GRules):Option (List GRules):=Xf Tb f19 234 IA (limit,i,t)
noncomputable def q9 (t:List GRules):Option Int:=Xf Tb f52 1 f52.ins t
noncomputable def gZ (t:List GRules) (i:Int):Option Int:=Xf Tb f52 122 BB (t,i)
noncomputable def fL (t:List GRules) (i:Int) (k:Int) (r:GRules):Option Int:=Xf Tb f52 31310 vW (t,i,k,r)
noncomputable def fy (l:List GFact):Option (List GFact):=Xf Tb f38 1 f38.ins l
noncomputable def bY (l:List GFact) (i:Int) (out:List GFact):Option (List GFact):=Xf Tb f38 58 Gd (l,i,out)
noncomputable def mX (l:List GFact) (kind:Int):Option (Int × Bool):=Xf Tb f105 1 f105.ins (l,kind)
noncomputable def ck (kind:Int) (day:Int) (ok:Bool) (i:Int) (c:List GFact):Option (Int × Bool):=Xf Tb f105 122 zB (kind,day,ok,i,c)
noncomputable def qV (l:List GFact):Option (Int × Bool):=Xf Tb f69 1 f69.ins l
noncomputable def rJ (l:List GFact):Option (Int × Bool):=Xf Tb f70 1 f70.ins l
noncomputable def lS (l:List GFact):Option GSpan:=Xf Tb f40 1 f40.ins l
noncomputable def pu (s:GSpan):Option (GSpan × Bool):=Xf Tb f148 1 f148.ins s
noncomputable def cJ (l:List Int) (n:Int):Option (List Int):=Xf Tb f55 1 f55.ins (l,n)
noncomputable def gv (l:List Int) (n:Int) (xat:Int):Option (List Int):=Xf Tb f55 28 GU (l,n,xat)
noncomputable def sZ (lists:List (List GSpan)):Option (List Int):=Xf Tb f102 1 f102.ins lists
noncomputable def dL (lists:List (List GSpan)) (out:List Int) (i:Int):Option (List Int):=Xf Tb f102 58 Bp (lists,out,i)
noncomputable def co (lists:List (List GSpan)) (out:List Int) (i:Int) (k:Int):Option (List Int):=Xf Tb f102 3730 wk (lists,out,i,k)
noncomputable def kI (l:List GSpan) (day:Int):Option Bool:=Xf Tb f103 1 f103.ins (l,day)
noncomputable def bE (l:List GSpan) (day:Int) (i:Int):Option Bool:=Xf Tb f103 26 B7 (l,day,i)
noncomputable def yw (l:List GSpan) (s:GSpan):Option (List GSpan):=Xf Tb f104 1 f104.ins (l,s)
noncomputable def lO (a:List GSpan) (b:List GSpan) (kind:Int):Option (List GSpan):=Xf Tb f68 1 f68.ins (a,b,kind)
noncomputable def bC (a:List GSpan) (b:List GSpan) (kind:Int) (e:List Int) (i:Int) (out:List GSpan):Option (List GSpan):=Xf Tb f68 122 BY (a,b,kind,e,i,out)
noncomputable def wh (l:List GSpan) (s:GSpan):Option (List GSpan):=Xf Tb f39 1 f39.ins (l,s)
noncomputable def qc (l:List GPosting) (p:GPosting):Option (List GPosting):=Xf Tb f41 1 f41.ins (l,p)
noncomputable def gR (l:List GPosting) (xat:Int) (p:GPosting):Option (List GPosting):=Xf Tb f41 28 G9 (l,xat,p)
noncomputable def mn (l:List GFact):Option (List GPosting):=Xf Tb f13 1 f13.ins l
noncomputable def dD (l:List GFact) (seat:Int) (c:List GFact) (out:List GPosting):Option (List GPosting):=Xf Tb f13 122 CS (l,seat,c,out)
noncomputable def bP (l:List GFact) (seat:Int) (state:Int) (c:List GFact) (out:List GPosting):Option (List GPosting):=Xf Tb f13 7826 yT (l,seat,state,c,out)
noncomputable def bM (l:List GFact) (seat:Int) (state:Int) (i:Int) (c:List GFact) (out:List GPosting) (s:List GSpan):Option (List GPosting):=Xf Tb f13 2003530 q5 (l,seat,state,i,c,out,s)
noncomputable def dz (l:List GFact) (seat:Int) (state:Int) (i:Int) (c:List GFact) (out:List GPosting) (s:List GSpan):Option (List GPosting):=Xf Tb f13 4007070 rt (l,seat,state,i,c,out,s)
noncomputable def n9 (t:List GRules) (day:Int):Option (GRules × Bool):=Xf Tb f51 1 f51.ins (t,day)
noncomputable def gj (t:List GRules) (day:Int) (i:Int) (t4:GRules):Option (GRules × Bool):=Xf Tb f51 26 EU (t,day,i,t4)
noncomputable def fg (s:GSpan) (day:Int):Option Bool:=Xf Tb f53 1 f53.ins (s,day)
noncomputable def pq (c:List GFact) (day:Int):Option (List Int):=Xf Tb f130 1 f130.ins (c,day)
noncomputable def cw (c:List GFact) (day:Int) (i:Int) (t4:List Int) (out:List Int):Option (List Int):=Xf Tb f130 58 BK (c,day,i,t4,out)
noncomputable def je (l:List GFact) (day:Int):Option (Int × Bool):=Xf Tb f22 1 f22.ins (l,day)
noncomputable def bQ (l:List GFact) (day:Int) (xat:Int) (i:Int) (c:List GFact):Option (Int × Bool):=Xf Tb f22 122 Co (l,day,xat,i,c)
noncomputable def qZ (c:List GFact) (day:Int):Option (List Int):=Xf Tb f131 1 f131.ins (c,day)
noncomputable def ef (c:List GFact) (day:Int) (out:List Int) (i:Int):Option (List Int):=Xf Tb f131 58 BN (c,day,out,i)
noncomputable def my (l:List GFact) (c:List GFact) (r:GRules) (day:Int):Option (Int × Bool):=Xf Tb f84 1 f84.ins (l,c,r,day)
noncomputable def cc (l:List GFact) (c:List GFact) (day:Int) (sum:Int) (n:Int) (best:Int) (i:Int) (r:GRules) (s:List Int):Option (Int × Bool):=Xf Tb f84 122 Bi (l,c,day,sum,n,best,i,r,s)
noncomputable def wz (l:List GFact) (c:List GFact) (p:List GPosting) (r:GRules) (day:Int):Option (Int × Int):=Xf Tb f54 1 f54.ins (l,c,p,r,day)
noncomputable def ew (l:List GFact) (c:List GFact) (p:List GPosting) (day:Int) (best:Int) (i:Int) (r:GRules):Option (Int × Int):=Xf Tb f54 58 Fq (l,c,p,day,best,i,r)
noncomputable def dK (l:List GFact) (c:List GFact) (day:Int) (best:Int) (i:Int) (r:GRules):Option (Int × Int):=Xf Tb f54 250 Cg (l,c,day,best,i,r)
noncomputable def aP (l:List GFact) (c:List GFact) (day:Int) (best:Int) (i:Int):Option (Int × Int):=Xf Tb f54 2042 zx (l,c,day,best,i)
noncomputable def vF (l:List GFact) (t:List GRules):Option (List GSegment):=Xf Tb f23 1 f23.ins (l,t)
noncomputable def jW (l:List GFact) (t:List GRules) (e:List Int) (i:Int) (c:List GFact) (p:List GPosting) (life:GSpan):Option (List GSegment):=Xf Tb f23 250 C8 (l,t,e,i,c,p,life)
noncomputable def eV (l:List GFact) (t:List GRules) (e:List Int) (i:Int) (c:List GFact) (p:List GPosting) (life:GSpan):Option (List GSegment):=Xf Tb f23 506 B0 (l,t,e,i,c,p,life)
noncomputable def fN (l:List GFact) (t:List GRules) (e:List Int) (k:Int) (c:List GFact) (p:List GPosting) (life:GSpan):Option (List GSegment):=Xf Tb f23 1018 zz (l,t,e,k,c,p,life)
noncomputable def bI (l:List GFact) (t:List GRules) (e:List Int) (i:Int) (c:List GFact) (p:List GPosting) (life:GSpan) (out:List GSegment):Option (List GSegment):=Xf Tb f23 4090 zj (l,t,e,i,c,p,life,out)
noncomputable def gW (l:List GFact) (t:List GRules) (e:List Int) (i:Int) (k:Int) (c:List GFact) (p:List GPosting) (life:GSpan):Option (List GSegment):=Xf Tb f23 64806 vp (l,t,e,i,k,c,p,life)
noncomputable def vV (kind:Int):Option ByteArray:=Xf Tb f137 1 f137.ins kind
noncomputable def mo (t3:Int) (t6:Bool):Option ByteArray:=Xf Tb f137 215 yL (t3,t6)
noncomputable def fD (t3:Int) (t11:Bool):Option ByteArray:=Xf Tb f137 3455 wE (t3,t11)
noncomputable def gg (t3:Int) (t20:Bool):Option ByteArray:=Xf Tb f137 221183 rD (t3,t20)
noncomputable def fY (x:Int) (low:Int) (high:Int):Option Bool:=Xf Tb f140 1 f140.ins (x,low,high)
noncomputable def k9 (s:ByteArray) (c:Int):Option Int:=Xf Tb f238 1 f238.ins (s,c)
noncomputable def oy (s:ByteArray) (substr:ByteArray):Option Int:=Xf Tb f219 1 f219.ins (s,substr)
noncomputable def uA (s:ByteArray) (substr:ByteArray):Option Int:=Xf Tb f193 1 f193.ins (s,substr)
noncomputable def pR (s:ByteArray) (substr:ByteArray):Option Bool:=Xf Tb f139 1 f139.ins (s,substr)
noncomputable def bd (letter:ByteArray) (t1:ByteArray):Option Bool:=Xf Tb f138 1 f138.ins (letter,t1)
noncomputable def bS (used:Bool) (x:Int) (low:Int) (high:Int):Option Bool:=Xf Tb f141 1 f141.ins (used,x,low,high)
noncomputable def mD (s:GSpan):Option Bool:=Xf Tb f142 1 f142.ins s
noncomputable def s9 (f:GFact):Option Bool:=Xf Tb f90 1 f90.ins f
noncomputable def ff (t89:Int) (t97:Bool) (f:GFact):Option Bool:=Xf Tb f90 2007 yD (t89,t97,f)
noncomputable def gF (f:GFact):Option Bool:=Xf Tb f61 1 f61.ins f
noncomputable def uo (l:List GFact):Option (List GFact):=Xf Tb f60 1 f60.ins l
noncomputable def bB (t8:List GFact) (t9:Int) (t10:Int) (out:List GFact):Option (List GFact):=Xf Tb f60 58 Fa (t8,t9,t10,out)
noncomputable def jG (l:List GFact):Option (List GFact):=Xf Tb f31 1 f31.ins l
noncomputable def lA (l:List GFact) (kind:Int):Option (Int × Bool):=Xf Tb f91 1 f91.ins (l,kind)
noncomputable def cz (kind:Int) (day:Int) (ok:Bool) (t10:List GFact) (t11:Int) (t12:Int):Option (Int × Bool):=Xf Tb f91 58 Ge (kind,day,ok,t10,t11,t12)
noncomputable def pZ (l:List GFact):Option (Int × Bool):=Xf Tb f63 1 f63.ins l
noncomputable def pG (l:List GFact):Option (Int × Bool):=Xf Tb f64 1 f64.ins l
noncomputable def mU (l:List GFact):Option GSpan:=Xf Tb f33 1 f33.ins l
noncomputable def iO (l:List GFact):Option (List GPosting):=Xf Tb f12 1 f12.ins l
noncomputable def bg (l:List GFact) (t15:Int) (t16:Int) (sent_k:List GCompetence_route) (sent_v:List (List GSpan)) (t14:List GFact):Option (List GPosting):=Xf Tb f12 58 FQ (l,t15,t16,sent_k,sent_v,t14)
noncomputable def jr (l:List GFact) (m1_k:List GCompetence_route) (m1_v:List (List GSpan)):Option (List GPosting):=Xf Tb f12 250 CL (l,m1_k,m1_v)
noncomputable def jH (day:Int):Option Bool:=Xf Tb f109 1 f109.ins day
noncomputable def fA (x:Int) (high:Int):Option Bool:=Xf Tb f149 1 f149.ins (x,high)
noncomputable def pJ (r:GRules):Option Bool:=Xf Tb f108 1 f108.ins r
noncomputable def cY (t28:List Int) (t29:Int) (t30:Int) (r:GRules):Option Bool:=Xf Tb f108 58 CX (t28,t29,t30,r)
noncomputable def pK (t:List GRules):Option Int:=Xf Tb f73 1 f73.ins t
noncomputable def bZ (t:List GRules) (t18:List GRules) (t19:Int) (t20:Int):Option Int:=Xf Tb f73 122 Bg (t,t18,t19,t20)
noncomputable def jz (l:List GFact) (t:List GRules):Option (GCompetence_life × Bool):=Xf Tb f48 1 f48.ins (l,t)
noncomputable def eD (s:GSpan) (day:Int):Option Bool:=Xf Tb f75 1 f75.ins (s,day)
noncomputable def fp (x:GCompetence_life) (day:Int) (limit:Int):Option (Int × Bool):=Xf Tb f76 1 f76.ins (x,day,limit)
noncomputable def d7 (day:Int) (limit:Int) (t11:List GPosting) (t12:Int) (t13:Int):Option (Int × Bool):=Xf Tb f76 26 F1 (day,limit,t11,t12,t13)
noncomputable def we (s:List Int) (v:Int):Option Int:=Xf Tb f153 1 f153.ins (s,v)
noncomputable def cZ (s:List Int) (v:Int) (t7:Int) (t8:Int):Option Int:=Xf Tb f153 26 Ck (s,v,t7,t8)
noncomputable def iS (s:List Int) (v:Int):Option Bool:=Xf Tb f116 1 f116.ins (s,v)
noncomputable def bK (x:GCompetence_life) (day:Int) (kinds:List Int):Option (List GFact):=Xf Tb f112 1 f112.ins (x,day,kinds)
noncomputable def aS (day:Int) (kinds:List Int) (t11:List GFact) (t12:Int) (t13:Int) (out:List GFact):Option (List GFact):=Xf Tb f112 58 C5 (day,kinds,t11,t12,t13,out)
noncomputable def gH (x:GCompetence_life) (day:Int):Option (Int × Bool):=Xf Tb f77 1 f77.ins (x,day)
noncomputable def df (ok:Bool) (t15:Int) (t16:Int) (best:GFact) (t14:List GFact):Option (Int × Bool):=Xf Tb f77 58 G4 (ok,t15,t16,best,t14)
noncomputable def pW (s:GSpan) (t1:Int):Option Bool:=Xf Tb f155 1 f155.ins (s,t1)
noncomputable def p7 (s:List GSpan) (f0:Int):Option Int:=Xf Tb f196 1 f196.ins (s,f0)
noncomputable def bq (s:List GSpan) (f0:Int) (t7:Int) (t8:Int):Option Int:=Xf Tb f196 26 CU (s,f0,t7,t8)
noncomputable def me (s:List GSpan) (f0:Int):Option Bool:=Xf Tb f154 1 f154.ins (s,f0)
noncomputable def mI (l:List GSpan) (day:Int):Option Bool:=Xf Tb f119 1 f119.ins (l,day)
noncomputable def dH (l:List GFact) (day:Int):Option (Int × Bool):=Xf Tb f80 1 f80.ins (l,day)
noncomputable def aJ (day:Int) (ok:Bool) (t22:List GFact) (t23:Int) (t24:Int) (best:GFact):Option (Int × Bool):=Xf Tb f80 122 BV (day,ok,t22,t23,t24,best)
noncomputable def ip (l:List GFact):Option (List Int):=Xf Tb f115 1 f115.ins l
noncomputable def dn (t6:List GFact) (t7:Int) (t8:Int) (out:List Int):Option (List Int):=Xf Tb f115 58 B3 (t6,t7,t8,out)
noncomputable def eZ (x:GCompetence_life) (day:Int) (substantial:Int):Option (Int × Bool):=Xf Tb f78 1 f78.ins (x,day,substantial)
noncomputable def bF (day:Int) (substantial:Int) (total:Int) (t26:Int) (t27:Int) (x:GCompetence_life) (shares_k:List Int) (shares_v:List Int) (t25:List GFact):Option (Int × Bool):=Xf Tb f78 58 EX (day,substantial,total,t26,t27,x,shares_k,shares_v,t25)
noncomputable def dh (best:Int) (t118:Int) (t119:Int) (shares_k:List Int) (shares_v:List Int) (t117:List Int):Option (Int × Bool):=Xf Tb f78 65530 DI (best,t118,t119,shares_k,shares_v,t117)
noncomputable def qf (x:GCompetence_life) (day:Int):Option (Int × Bool):=Xf Tb f79 1 f79.ins (x,day)
noncomputable def l3 (x:GCompetence_life) (day:Int):Option (Int × Int):=Xf Tb f49 1 f49.ins (x,day)
noncomputable def kG (l:List GFact) (t:List GRules) (day:Int):Option (Int × Int):=Xf Tb f18 1 f18.ins (l,t,day)
noncomputable def rH:Option Bool:=Xf Tb f14 1 f14.ins ()
noncomputable def rr (s:GSpan):Option GSpan:=Xf Tb f85 1 f85.ins s
noncomputable def ua (l:List GSpan):Option (List GSpan):=Xf Tb f56 1 f56.ins l
noncomputable def da (t10:List GSpan) (t11:Int) (t12:Int) (sorted:List GSpan):Option (List GSpan):=Xf Tb f56 58 GI (t10,t11,t12,sorted)
noncomputable def cM (t33:Int) (t34:Int) (out:List GSpan) (t32:List GSpan):Option (List GSpan):=Xf Tb f56 506 BM (t33,t34,out,t32)
noncomputable def hZ (law:List GSegment) (state:Int) (rule:Int):Option (List GSpan):=Xf Tb f25 1 f25.ins (law,state,rule)
noncomputable def bi (state:Int) (rule:Int) (t10:List GSegment) (t11:Int) (t12:Int) (out:List GSpan):Option (List GSpan):=Xf Tb f25 58 FU (state,rule,t10,t11,t12,out)
noncomputable def mP (l:List GSpan):Option (List GSpan):=Xf Tb f57 1 f57.ins l
noncomputable def mW (law:List GSegment) (state:Int) (rule:Int):Option (List GSpan):=Xf Tb f26 1 f26.ins (law,state,rule)
noncomputable def cP (law:List GSegment) (state:Int) (rule:Int) (i:Int) (out:List GSpan):Option (List GSpan):=Xf Tb f26 58 Gy (law,state,rule,i,out)
noncomputable def jJ (a:List GSpan) (b:List GSpan):Option Bool:=Xf Tb f24 1 f24.ins (a,b)
noncomputable def ct (a:List GSpan) (b:List GSpan) (i:Int):Option Bool:=Xf Tb f24 58 GT (a,b,i)
noncomputable def sb (l:List GPensionhand_Fact) (n:List Int) (dense:Bool) (raw:List GSegment) (state:Int) (rule:Int):Option Bool:=Xf Tb f7 1 f7.ins (l,n,dense,raw,state,rule)
end Go.Ax
