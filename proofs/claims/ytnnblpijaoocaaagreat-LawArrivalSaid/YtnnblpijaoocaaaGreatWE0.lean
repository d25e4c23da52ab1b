import Derived.Test.YtnnblpijaoocaaaGreatWHd
import Derived.Test.YtnnblpijaoocaaaGreatRows
set_option linter.all false
set_option maxRecDepth 100000
set_option maxHeartbeats 0
namespace Go.Ax
open Go.Proofs Go.Proofs.YtnnblpijaoocaaaGreat
/- pension/pensionmade.Pick -/
noncomputable def f15:FI:={ fid:=15,fn:=Tryz.f15,c:=aj Tryz.f15,ins:={ sl:=[(0, .t (.i .i64)),(1, .t (.i .i64))] },out:=.new (.t (.i .i64)),cuts:=[] }
noncomputable def f42:FI:={ fid:=42,fn:=Tryz.f42,c:=aj Tryz.f42,ins:={ sl:=[(0, .t (.i .i64)),(1, .t (.i .i64))] },out:=.new (.t (.i .i64)),cuts:=[] }
noncomputable def f59:FI:={ fid:=59,fn:=Tryz.f59,c:=aj Tryz.f59,ins:={ sl:=[(0, .t (.ls (.i .i64))),(1, .t (.i .i64))] },out:=.new (.t (.i .i64)),cuts:=[] }
abbrev IJ:Tm:={ sl:=[(0, .t (.ls (.i .i64))),(3, .k (.row 0 14)),(4, .t (.i .i64))],ob:=[.row 38 (.st .GFact)] }
noncomputable def f30:FI:={ fid:=30,fn:=Tryz.f30,c:=aj Tryz.f30,ins:={ sl:=[(0, .t (.ls (.i .i64)))] },out:=.own true 38 (.st .GFact),cuts:=[(58,IJ)] }
abbrev G0:Tm:={ sl:=[(0, .t (.ls (.st .GFact))),(1, .t (.i .i64)),(5, .k (.row 0 14)),(6, .t (.i .i64))],ob:=[.row 38 (.st .GFact)] }
noncomputable def f29:FI:={ fid:=29,fn:=Tryz.f29,c:=aj Tryz.f29,ins:={ sl:=[(0, .t (.ls (.st .GFact))),(1, .t (.i .i64))] },out:=.own true 38 (.st .GFact),cuts:=[(58,G0)] }
noncomputable def f44:FI:={ fid:=44,fn:=Tryz.f44,c:=aj Tryz.f44,ins:={ sl:=[(0, .t (.i .i64))] },out:=.new (.t (.s)),cuts:=[] }
abbrev Eb:Tm:={ sl:=[(1, .t (.i .u8)),(5, .t (.s)),(6, .t (.i .i64))],ob:=[] }
noncomputable def f106:FI:={ fid:=106,fn:=Tryz.f106,c:=aj Tryz.f106,ins:={ sl:=[(0, .t (.i .i64)),(1, .t (.i .u8))] },out:=.new (.t (.b)),cuts:=[(58,Eb)] }
noncomputable def f71:FI:={ fid:=71,fn:=Tryz.f71,c:=aj Tryz.f71,ins:={ sl:=[(0, .t (.i .i64)),(1, .t (.i .u8)),(2, .t (.i .i64)),(3, .t (.i .i64)),(4, .t (.i .i64))] },out:=.new (.t (.b)),cuts:=[] }
noncomputable def f45:FI:={ fid:=45,fn:=Tryz.f45,c:=aj Tryz.f45,ins:={ sl:=[(0, .t (.st .GFact))] },out:=.new (.t (.b)),cuts:=[] }
noncomputable def f46:FI:={ fid:=46,fn:=Tryz.f46,c:=aj Tryz.f46,ins:={ sl:=[(0, .t (.st .GFact)),(1, .t (.st .GFact))] },out:=.new (.t (.i .i64)),cuts:=[] }
abbrev Qp:Tm:={ sl:=[(0, .k (.row 0 1)),(1, .t (.i .i64)),(7, .t (.i .i64))],ob:=[.row 5 (.i .u8)] }
noncomputable def f107:FI:={ fid:=107,fn:=Tryz.f107,c:=aj Tryz.f107,ins:={ sl:=[(0, .k (.c .nil)),(1, .t (.i .i64)),(2, .t (.i .i64))],ob:=[] },out:=.gen ({ sl:=[(2000000, .tp [.k (.row 0 1)])],ob:=[.row 5 (.i .u8)] }),cuts:=[(26,Qp)] }
abbrev x8:Tm:={ sl:=[(0, .k (.row 0 1)),(1, .t (.i .i64)),(7, .t (.i .i64))],ob:=[.row 5 (.i .u8)] }
noncomputable def oA:FI:={ fid:=107,fn:=Tryz.f107,c:=aj Tryz.f107,ins:={ sl:=[(0, .k (.row 0 1)),(1, .t (.i .i64)),(2, .t (.i .i64))],ob:=[.row 5 (.i .u8)] },out:=.gen ({ sl:=[(2000000, .tp [.k (.row 0 1)])],ob:=[.row 5 (.i .u8)] }),cuts:=[(26,x8)] }
abbrev Hu:Tm:={ sl:=[(1, .k (.ptr 0 14 0 0)),(3, .t (.i .i64))],ob:=[.box [.t (.st .GFact)]] }
abbrev Be:Tm:={ sl:=[(1, .k (.ptr 0 14 0 0)),(4, .k (.row 1 1)),(5, .t (.s)),(6, .t (.i .i64))],ob:=[.box [.t (.st .GFact)], .row 5 (.i .u8)] }
abbrev AX:Tm:={ sl:=[(1, .k (.ptr 0 14 0 0)),(4, .k (.row 1 1)),(5, .t (.s)),(6, .t (.i .i64))],ob:=[.box [.t (.st .GFact)], .row 5 (.i .u8)] }
noncomputable def f72:FI:={ fid:=72,fn:=Tryz.f72,c:=aj Tryz.f72,ins:={ sl:=[(0, .t (.st .GFact))] },out:=.own true 5 (.i .u8),cuts:=[(31,Hu),(1018,Be),(8147,AX)] }
noncomputable def f47:FI:={ fid:=47,fn:=Tryz.f47,c:=aj Tryz.f47,ins:={ sl:=[(0, .t (.st .GFact)),(1, .t (.st .GFact))] },out:=.new (.t (.b)),cuts:=[] }
abbrev Iy:Tm:={ sl:=[(0, .t (.ls (.st .GFact))),(1, .t (.ls (.st .GFact))),(5, .k (.row 0 14)),(6, .t (.i .i64))],ob:=[.row 38 (.st .GFact)] }
abbrev Bk:Tm:={ sl:=[(0, .t (.ls (.st .GFact))),(1, .t (.ls (.st .GFact))),(5, .k (.row 0 14)),(6, .t (.i .i64)),(7, .k (.ptr 1 14 0 0))],ob:=[.row 38 (.st .GFact), .box [.t (.st .GFact)]] }
abbrev xk:Tm:={ sl:=[(0, .t (.ls (.st .GFact))),(1, .t (.ls (.st .GFact))),(5, .k (.row 0 14)),(6, .t (.i .i64)),(7, .k (.ptr 1 14 0 0)),(8, .t (.i .i64))],ob:=[.row 38 (.st .GFact), .box [.t (.st .GFact)]] }
noncomputable def f17:FI:={ fid:=17,fn:=Tryz.f17,c:=aj Tryz.f17,ins:={ sl:=[(0, .t (.ls (.st .GFact))),(1, .t (.ls (.st .GFact)))] },out:=.own true 38 (.st .GFact),cuts:=[(58,Iy),(3731,Bk),(59708,xk)] }
noncomputable def f43:FI:={ fid:=43,fn:=Tryz.f43,c:=aj Tryz.f43,ins:={ sl:=[(0, .t (.i .i64))] },out:=.new (.t (.i .i64)),cuts:=[] }
abbrev CZ:Tm:={ sl:=[(1, .k (.ptr 0 13 0 0)),(2, .k (.ptr 1 14 0 0)),(3, .k (.ptr 2 14 0 0)),(4, .t (.i .i64)),(5, .t (.i .i64))],ob:=[.box [.t (.st .GPensionhand_Fact)], .box [.t (.st .GFact)], .box [.t (.st .GFact)]] }
abbrev AB:Tm:={ sl:=[(1, .k (.ptr 0 13 0 0)),(2, .k (.ptr 1 14 0 0)),(3, .k (.ptr 2 14 0 0)),(4, .t (.i .i64)),(5, .t (.i .i64)),(6, .t (.s)),(7, .t (.i .i64))],ob:=[.box [.t (.st .GPensionhand_Fact)], .box [.t (.st .GFact)], .box [.t (.st .GFact)]] }
abbrev yA:Tm:={ sl:=[(1, .k (.ptr 0 13 0 0)),(2, .k (.ptr 1 14 0 0)),(3, .k (.ptr 2 14 0 0)),(4, .t (.i .i64)),(5, .t (.i .i64)),(6, .t (.s)),(7, .t (.i .i64))],ob:=[.box [.t (.st .GPensionhand_Fact)], .box [.t (.st .GFact)], .box [.t (.st .GFact)]] }
noncomputable def f16:FI:={ fid:=16,fn:=Tryz.f16,c:=aj Tryz.f16,ins:={ sl:=[(0, .t (.st .GPensionhand_Fact))] },out:=.new (.t (.st .GFact)),cuts:=[(127,CZ),(2042,AB),(16339,yA)] }
abbrev IY:Tm:={ sl:=[(0, .t (.ls (.st .GPensionhand_Fact))),(1, .t (.ls (.i .i64))),(2, .t (.b)),(7, .k (.row 0 14)),(8, .t (.i .i64))],ob:=[.row 38 (.st .GFact)] }
abbrev AV:Tm:={ sl:=[(0, .t (.ls (.st .GPensionhand_Fact))),(1, .t (.ls (.i .i64))),(2, .t (.b)),(7, .k (.row 0 14)),(8, .t (.i .i64)),(9, .k (.ptr 1 13 0 0))],ob:=[.row 38 (.st .GFact), .box [.t (.st .GPensionhand_Fact)]] }
noncomputable def f11:FI:={ fid:=11,fn:=Tryz.f11,c:=aj Tryz.f11,ins:={ sl:=[(0, .t (.ls (.st .GPensionhand_Fact))),(1, .t (.ls (.i .i64))),(2, .t (.b))] },out:=.own true 38 (.st .GFact),cuts:=[(58,IY),(7463,AV)] }
abbrev DT:Tm:={ sl:=[(0, .t (.i .i64)),(3, .t (.s))],ob:=[] }
noncomputable def f128:FI:={ fid:=128,fn:=Tryz.f128,c:=aj Tryz.f128,ins:={ sl:=[(0, .t (.i .i64))] },out:=.new (.t (.s)),cuts:=[(28,DT)] }
noncomputable def f166:FI:={ fid:=166,fn:=Tryz.f166,c:=aj Tryz.f166,ins:={ sl:=[(0, .t (.i .i64))] },out:=.new (.t (.s)),cuts:=[] }
abbrev D8:Tm:={ sl:=[(1, .t (.ls (.i .i64))),(2, .t (.i .i64)),(7, .t (.s)),(8, .t (.s))],ob:=[] }
abbrev Bo:Tm:={ sl:=[(1, .t (.ls (.i .i64))),(2, .t (.i .i64)),(7, .t (.s)),(8, .t (.s))],ob:=[] }
abbrev A6:Tm:={ sl:=[(1, .t (.ls (.i .i64))),(2, .t (.i .i64)),(7, .t (.s)),(8, .t (.s))],ob:=[] }
abbrev yh:Tm:={ sl:=[(1, .t (.ls (.i .i64))),(2, .t (.i .i64)),(8, .t (.s))],ob:=[] }
abbrev uo:Tm:={ sl:=[(1, .t (.ls (.i .i64))),(2, .t (.i .i64)),(8, .t (.s))],ob:=[] }
noncomputable def f129:FI:={ fid:=129,fn:=Tryz.f129,c:=aj Tryz.f129,ins:={ sl:=[(0, .t (.s)),(1, .t (.ls (.i .i64))),(2, .t (.i .i64))] },out:=.new (.t (.s)),cuts:=[(31,D8),(127,Bo),(255,A6),(8191,yh),(65535,uo)] }
abbrev Hy:Tm:={ sl:=[(0, .t (.i .i64)),(1, .t (.ls (.i .i64))),(6, .t (.s))],ob:=[] }
noncomputable def f82:FI:={ fid:=82,fn:=Tryz.f82,c:=aj Tryz.f82,ins:={ sl:=[(0, .t (.i .i64)),(1, .t (.ls (.i .i64)))] },out:=.new (.t (.s)),cuts:=[(31,Hy)] }
abbrev DH:Tm:={ sl:=[(0, .t (.s)),(1, .t (.i .i64)),(5, .t (.b))],ob:=[] }
noncomputable def f220:FI:={ fid:=220,fn:=Tryz.f220,c:=aj Tryz.f220,ins:={ sl:=[(0, .t (.s)),(1, .t (.i .i64))] },out:=.new (.t (.i .i64)),cuts:=[(28,DH)] }
noncomputable def f221:FI:={ fid:=221,fn:=Tryz.f221,c:=aj Tryz.f221,ins:={ sl:=[(0, .t (.i .u8))] },out:=.new (.t (.b)),cuts:=[] }
noncomputable def f223:FI:={ fid:=223,fn:=Tryz.f223,c:=aj Tryz.f223,ins:={ sl:=[(0, .t (.i .u8))] },out:=.new (.t (.b)),cuts:=[] }
abbrev DI:Tm:={ sl:=[(0, .t (.s)),(1, .t (.i .i64)),(2, .t (.b)),(7, .t (.i .i64))],ob:=[] }
noncomputable def f222:FI:={ fid:=222,fn:=Tryz.f222,c:=aj Tryz.f222,ins:={ sl:=[(0, .t (.s)),(1, .t (.i .i64)),(2, .t (.b))] },out:=.new (.t (.i .i64)),cuts:=[(28,DI)] }
abbrev EC:Tm:={ sl:=[(0, .t (.s)),(6, .t (.i .i64))],ob:=[] }
abbrev A3:Tm:={ sl:=[(0, .t (.s)),(6, .t (.i .i64)),(8, .t (.i .i64)),(9, .t (.i .i64))],ob:=[] }
abbrev A5:Tm:={ sl:=[(6, .t (.i .i64)),(10, .t (.s)),(11, .t (.s))],ob:=[] }
abbrev xP:Tm:={ sl:=[(6, .t (.i .i64)),(10, .t (.s)),(11, .t (.s)),(12, .t (.i .i64))],ob:=[] }
noncomputable def f200:FI:={ fid:=200,fn:=Tryz.f200,c:=aj Tryz.f200,ins:={ sl:=[(0, .t (.s))] },out:=.new (.tp [.t (.s), .t (.s), .t (.i .i64), .t (.b)]),cuts:=[(15,EC),(250,A3),(255,A5),(2042,xP)] }
abbrev Ez:Tm:={ sl:=[(0, .t (.s)),(4, .t (.i .i64)),(5, .t (.i .i64))],ob:=[] }
noncomputable def f227:FI:={ fid:=227,fn:=Tryz.f227,c:=aj Tryz.f227,ins:={ sl:=[(0, .t (.s))] },out:=.new (.tp [.t (.i .i64), .t (.b)]),cuts:=[(58,Ez)] }
noncomputable def f254:FI:={ fid:=254,fn:=Tryz.f254,c:=aj Tryz.f254,ins:={ sl:=[(0, .t (.i .i64))] },out:=.new (.t (.b)),cuts:=[] }
noncomputable def f244:FI:={ fid:=244,fn:=Tryz.f244,c:=aj Tryz.f244,ins:={ sl:=[(0, .t (.i .i64)),(1, .t (.i .i64))] },out:=.new (.t (.i .i64)),cuts:=[] }
abbrev C2:Tm:={ sl:=[(0, .t (.i .i64)),(3, .t (.i .i64)),(4, .t (.i .i64))],ob:=[] }
noncomputable def f245:FI:={ fid:=245,fn:=Tryz.f245,c:=aj Tryz.f245,ins:={ sl:=[(0, .t (.i .i64))] },out:=.new (.t (.i .i64)),cuts:=[(58,C2)] }
noncomputable def f228:FI:={ fid:=228,fn:=Tryz.f228,c:=aj Tryz.f228,ins:={ sl:=[(0, .t (.i .i64)),(1, .t (.i .i64)),(2, .t (.i .i64))] },out:=.new (.tp [.t (.i .i64), .t (.b)]),cuts:=[] }
noncomputable def f202:FI:={ fid:=202,fn:=Tryz.f202,c:=aj Tryz.f202,ins:={ sl:=[(0, .t (.s))] },out:=.new (.tp [.t (.i .i64), .t (.b)]),cuts:=[] }
abbrev IU:Tm:={ sl:=[(0, .t (.s)),(1, .t (.i .i64))],ob:=[] }
abbrev Am:Tm:={ sl:=[(29, .t (.b))],ob:=[] }
noncomputable def f224:FI:={ fid:=224,fn:=Tryz.f224,c:=aj Tryz.f224,ins:={ sl:=[(0, .t (.s)),(1, .t (.i .i64))] },out:=.new (.t (.i .i64)),cuts:=[(7,IU),(117,Am)] }
abbrev An:Tm:={ sl:=[(0, .t (.s)),(1, .t (.i .i64)),(4, .k (.ptr 0 3 0 0)),(7, .t (.i .i64)),(8, .t (.i .i64)),(9, .t (.b))],ob:=[.box [.t (.st .GToken)]] }
noncomputable def f197:FI:={ fid:=197,fn:=Tryz.f197,c:=aj Tryz.f197,ins:={ sl:=[(0, .t (.s)),(1, .t (.i .i64))] },out:=.new (.tp [.t (.st .GToken), .t (.i .i64), .t (.i .i64)]),cuts:=[(127,An)] }
abbrev DG:Tm:={ sl:=[(0, .t (.s)),(5, .k (.row 0 3)),(6, .t (.i .i64))],ob:=[.row 216 (.st .GToken)] }
noncomputable def f156:FI:={ fid:=156,fn:=Tryz.f156,c:=aj Tryz.f156,ins:={ sl:=[(0, .t (.s))] },out:=.new (.tp [.t (.ls (.st .GToken)), .t (.i .i64), .t (.i .i64)]),cuts:=[(62,DG)] }
noncomputable def f120:FI:={ fid:=120,fn:=Tryz.f120,c:=aj Tryz.f120,ins:={ sl:=[(0, .t (.s))],ob:=[] },out:=.gen2 ({ sl:=[(2000000, .tp [.tp [.k (.c (.lit (.pointer none))), .t (.i .i64), .t (.i .i64)]])],ob:=[] }) ({ sl:=[(2000000, .tp [.tp [.k (.ptr 0 4 0 0), .t (.i .i64), .t (.i .i64)]])],ob:=[.box [.t (.st .GPensionref5_reader)]] }),cuts:=[] }
noncomputable def f161:FI:={ fid:=161,fn:=Tryz.f161,c:=aj Tryz.f161,ins:={ sl:=[(0, .dp (.st .GPensionref5_reader)),(1, .t (.s))] },out:=.new (.t (.b)),cuts:=[] }
noncomputable def f124:FI:={ fid:=124,fn:=Tryz.f124,c:=aj Tryz.f124,ins:={ sl:=[(0, .k (.ptr 0 4 0 0)),(1, .t (.s)),(1000000, .k (.ptr 0 4 0 0))],ob:=[.box [.t (.st .GPensionref5_reader)]] },out:=.gen ({ sl:=[(1000000, .k (.ptr 0 4 0 0)),(2000000, .tp [.t (.b)])],ob:=[.box [.t (.st .GPensionref5_reader)]] }),cuts:=[] }
noncomputable def f157:FI:={ fid:=157,fn:=Tryz.f157,c:=aj Tryz.f157,ins:={ sl:=[(0, .k (.ptr 0 4 0 0)),(1000000, .k (.ptr 0 4 0 0))],ob:=[.box [.t (.st .GPensionref5_reader)]] },out:=.gen ({ sl:=[(1000000, .k (.ptr 0 4 0 0)),(2000000, .tp [.tp []])],ob:=[.box [.t (.st .GPensionref5_reader)]] }),cuts:=[] }
noncomputable def f121:FI:={ fid:=121,fn:=Tryz.f121,c:=aj Tryz.f121,ins:={ sl:=[(0, .k (.ptr 0 4 0 0)),(1, .t (.s)),(1000000, .k (.ptr 0 4 0 0))],ob:=[.box [.t (.st .GPensionref5_reader)]] },out:=.gen ({ sl:=[(1000000, .k (.ptr 0 4 0 0)),(2000000, .tp [.tp []])],ob:=[.box [.t (.st .GPensionref5_reader)]] }),cuts:=[] }
noncomputable def f158:FI:={ fid:=158,fn:=Tryz.f158,c:=aj Tryz.f158,ins:={ sl:=[(0, .dp (.st .GPensionref5_reader)),(1, .t (.i .i64))] },out:=.new (.t (.b)),cuts:=[] }
abbrev EH:Tm:={ sl:=[(0, .t (.s)),(3, .t (.i .i64))],ob:=[] }
noncomputable def f198:FI:={ fid:=198,fn:=Tryz.f198,c:=aj Tryz.f198,ins:={ sl:=[(0, .t (.s))] },out:=.new (.t (.b)),cuts:=[(26,EH)] }
abbrev Ej:Tm:={ sl:=[(4, .t (.b))],ob:=[] }
noncomputable def f199:FI:={ fid:=199,fn:=Tryz.f199,c:=aj Tryz.f199,ins:={ sl:=[(0, .t (.s))] },out:=.new (.t (.b)),cuts:=[(53,Ej)] }
noncomputable def f159:FI:={ fid:=159,fn:=Tryz.f159,c:=aj Tryz.f159,ins:={ sl:=[(0, .t (.s))] },out:=.new (.t (.b)),cuts:=[] }
noncomputable def f122:FI:={ fid:=122,fn:=Tryz.f122,c:=aj Tryz.f122,ins:={ sl:=[(0, .k (.ptr 0 4 0 0)),(1000000, .k (.ptr 0 4 0 0))],ob:=[.box [.t (.st .GPensionref5_reader)]] },out:=.gen ({ sl:=[(1000000, .k (.ptr 0 4 0 0)),(2000000, .tp [.t (.s)])],ob:=[.box [.t (.st .GPensionref5_reader)]] }),cuts:=[] }
noncomputable def f226:FI:={ fid:=226,fn:=Tryz.f226,c:=aj Tryz.f226,ins:={ sl:=[(0, .t (.i .i64))] },out:=.new (.t (.i .u64)),cuts:=[] }
abbrev QT:Tm:={ sl:=[(0, .t (.i .u64)),(2, .t (.i .i64))],ob:=[] }
abbrev P5:Tm:={ sl:=[(0, .t (.i .u64)),(2, .t (.i .i64))],ob:=[] }
noncomputable def f101:FI:={ fid:=101,fn:=Tryz.f101,c:=aj Tryz.f101,ins:={ sl:=[(0, .t (.i .u64))] },out:=.new (.t (.i .i64)),cuts:=[(7,QT),(15,P5)] }
noncomputable def f255:FI:={ fid:=255,fn:=Tryz.f255,c:=aj Tryz.f255,ins:={ sl:=[(0, .t (.i .u64))] },out:=.new (.t (.i .i64)),cuts:=[] }
abbrev HK:Tm:={ sl:=[(0, .t (.i .u64)),(1, .t (.i .u64)),(2, .t (.i .u64))],ob:=[] }
abbrev Eu:Tm:={ sl:=[(0, .t (.i .u64)),(1, .t (.i .u64)),(2, .t (.i .u64))],ob:=[] }
abbrev Ma:Tm:={ sl:=[(2, .t (.i .u64)),(8, .t (.i .u64)),(9, .t (.i .u64)),(10, .t (.i .u64)),(11, .t (.i .u64)),(13, .t (.i .u64)),(14, .t (.i .u64)),(15, .t (.i .u64))],ob:=[] }
abbrev zW:Tm:={ sl:=[(2, .t (.i .u64)),(8, .t (.i .u64)),(9, .t (.i .u64)),(10, .t (.i .u64)),(11, .t (.i .u64)),(13, .t (.i .u64)),(14, .t (.i .u64)),(15, .t (.i .u64)),(16, .t (.i .u64))],ob:=[] }
abbrev Hs:Tm:={ sl:=[(2, .t (.i .u64)),(8, .t (.i .u64)),(14, .t (.i .u64)),(15, .t (.i .u64)),(17, .t (.i .u64)),(18, .t (.i .u64))],ob:=[] }
abbrev HG:Tm:={ sl:=[(2, .t (.i .u64)),(8, .t (.i .u64)),(9, .t (.i .u64)),(10, .t (.i .u64)),(14, .t (.i .u64)),(15, .t (.i .u64)),(16, .t (.i .u64)),(17, .t (.i .u64)),(18, .t (.i .u64))],ob:=[] }
noncomputable def f253:FI:={ fid:=253,fn:=Tryz.f253,c:=aj Tryz.f253,ins:={ sl:=[(0, .t (.i .u64)),(1, .t (.i .u64)),(2, .t (.i .u64))] },out:=.new (.tp [.t (.i .u64), .t (.i .u64)]),cuts:=[(7,HK),(15,Eu),(65535,Ma),(131068,zW),(1048575,Hs),(2097148,HG)] }
noncomputable def f242:FI:={ fid:=242,fn:=Tryz.f242,c:=aj Tryz.f242,ins:={ sl:=[(0, .t (.st .GPensionref1_wide)),(1, .t (.i .u64))] },out:=.new (.tp [.t (.st .GPensionref1_wide), .t (.i .u64)]),cuts:=[] }
abbrev Ee:Tm:={ sl:=[(0, .t (.i .u64)),(1, .t (.i .u64))],ob:=[] }
noncomputable def f243:FI:={ fid:=243,fn:=Tryz.f243,c:=aj Tryz.f243,ins:={ sl:=[(0, .t (.i .u64)),(1, .t (.i .u64))] },out:=.new (.t (.i .u64)),cuts:=[(12,Ee)] }
noncomputable def f225:FI:={ fid:=225,fn:=Tryz.f225,c:=aj Tryz.f225,ins:={ sl:=[(0, .t (.b)),(1, .t (.st .GPensionref1_wide)),(2, .t (.i .u64))] },out:=.new (.tp [.t (.st .GFraction), .t (.i .i64)]),cuts:=[] }
noncomputable def f201:FI:={ fid:=201,fn:=Tryz.f201,c:=aj Tryz.f201,ins:={ sl:=[(0, .t (.i .i64)),(1, .t (.i .i64))] },out:=.new (.tp [.t (.st .GFraction), .t (.i .i64)]),cuts:=[] }
abbrev AL:Tm:={ sl:=[(2, .k (.ptr 0 2 0 0)),(5, .t (.s)),(6, .t (.s)),(7, .t (.i .i64)),(9, .t (.i .i64)),(10, .t (.i .i64)),(11, .t (.i .i64))],ob:=[.box [.t (.st .GFraction)]] }
noncomputable def f160:FI:={ fid:=160,fn:=Tryz.f160,c:=aj Tryz.f160,ins:={ sl:=[(0, .t (.s))] },out:=.new (.tp [.t (.st .GFraction), .t (.i .i64), .t (.b)]),cuts:=[(250,AL)] }
noncomputable def f123:FI:={ fid:=123,fn:=Tryz.f123,c:=aj Tryz.f123,ins:={ sl:=[(0, .k (.ptr 0 4 0 0)),(1, .t (.i .i64)),(2, .t (.i .i64)),(1000000, .k (.ptr 0 4 0 0))],ob:=[.box [.t (.st .GPensionref5_reader)]] },out:=.gen ({ sl:=[(1000000, .k (.ptr 0 4 0 0)),(2000000, .tp [.t (.i .i64)])],ob:=[.box [.t (.st .GPensionref5_reader)]] }),cuts:=[] }
noncomputable def f162:FI:={ fid:=162,fn:=Tryz.f162,c:=aj Tryz.f162,ins:={ sl:=[(0, .t (.s))] },out:=.new (.t (.i .i64)),cuts:=[] }
noncomputable def f203:FI:={ fid:=203,fn:=Tryz.f203,c:=aj Tryz.f203,ins:={ sl:=[(0, .t (.s))] },out:=.new (.t (.i .i64)),cuts:=[] }
noncomputable def f204:FI:={ fid:=204,fn:=Tryz.f204,c:=aj Tryz.f204,ins:={ sl:=[(0, .t (.s))] },out:=.new (.t (.i .i64)),cuts:=[] }
noncomputable def f205:FI:={ fid:=205,fn:=Tryz.f205,c:=aj Tryz.f205,ins:={ sl:=[(0, .t (.s))] },out:=.new (.t (.i .i64)),cuts:=[] }
noncomputable def f163:FI:={ fid:=163,fn:=Tryz.f163,c:=aj Tryz.f163,ins:={ sl:=[(0, .k (.ptr 0 4 0 0)),(1, .t (.i .i64)),(1000000, .k (.ptr 0 4 0 0))],ob:=[.box [.t (.st .GPensionref5_reader)]] },out:=.gen ({ sl:=[(1000000, .k (.ptr 0 4 0 0)),(2000000, .tp [.t (.i .i64)])],ob:=[.box [.t (.st .GPensionref5_reader)]] }),cuts:=[] }
noncomputable def f250:FI:={ fid:=250,fn:=Tryz.f250,c:=aj Tryz.f250,ins:={ sl:=[(0, .t (.i .i64))] },out:=.new (.t (.i .i64)),cuts:=[] }
noncomputable def f246:FI:={ fid:=246,fn:=Tryz.f246,c:=aj Tryz.f246,ins:={ sl:=[(0, .k (.ptr 0 4 0 0)),(1, .t (.i .i64)),(1000000, .k (.ptr 0 4 0 0))],ob:=[.box [.t (.st .GPensionref5_reader)]] },out:=.gen ({ sl:=[(1000000, .k (.ptr 0 4 0 0)),(2000000, .tp [.t (.st .GExpr)])],ob:=[.box [.t (.st .GPensionref5_reader)]] }),cuts:=[] }
noncomputable def f229:FI:={ fid:=229,fn:=Tryz.f229,c:=aj Tryz.f229,ins:={ sl:=[(0, .k (.ptr 0 4 0 0)),(1000000, .k (.ptr 0 4 0 0))],ob:=[.box [.t (.st .GPensionref5_reader)]] },out:=.gen ({ sl:=[(1000000, .k (.ptr 0 4 0 0)),(2000000, .tp [.t (.st .GExpr)])],ob:=[.box [.t (.st .GPensionref5_reader)]] }),cuts:=[] }
abbrev uz:Tm:={ sl:=[(3, .t (.i .i64)),(12, .t (.b))],ob:=[] }
noncomputable def f247:FI:={ fid:=247,fn:=Tryz.f247,c:=aj Tryz.f247,ins:={ sl:=[(0, .t (.i .i64))] },out:=.new (.t (.i .i64)),cuts:=[(13823,uz)] }
noncomputable def f248:FI:={ fid:=248,fn:=Tryz.f248,c:=aj Tryz.f248,ins:={ sl:=[(0, .t (.i .i64))] },out:=.new (.t (.s)),cuts:=[] }
abbrev Du:Tm:={ sl:=[(0, .dp (.st .GPensionref5_reader)),(1, .t (.i .i64)),(5, .t (.i .i64))],ob:=[] }
noncomputable def f230:FI:={ fid:=230,fn:=Tryz.f230,c:=aj Tryz.f230,ins:={ sl:=[(0, .dp (.st .GPensionref5_reader)),(1, .t (.i .i64))] },out:=.new (.t (.i .i64)),cuts:=[(26,Du)] }
abbrev AG:Tm:={ sl:=[(0, .k (.ptr 0 4 0 0)),(1, .t (.i .i64)),(4, .k (.ptr 1 6 0 0)),(8, .k (.ptr 2 6 0 0)),(1000000, .k (.ptr 0 4 0 0))],ob:=[.box [.t (.st .GPensionref5_reader)], .box [.t (.i .i64), .t (.st .GFraction), .t (.i .i64), .t (.s), .k (.c .nil)], .box [.t (.i .i64), .t (.st .GFraction), .t (.i .i64), .t (.s), .t (.ls (.st .GExpr))]] }
noncomputable def f206:FI:={ fid:=206,fn:=Tryz.f206,c:=aj Tryz.f206,ins:={ sl:=[(0, .k (.ptr 0 4 0 0)),(1, .t (.i .i64)),(1000000, .k (.ptr 0 4 0 0))],ob:=[.box [.t (.st .GPensionref5_reader)]] },out:=.gen ({ sl:=[(1000000, .k (.ptr 0 4 0 0)),(2000000, .tp [.t (.st .GExpr)])],ob:=[.box [.t (.st .GPensionref5_reader)]] }),cuts:=[(124,AG)] }
abbrev Bh:Tm:={ sl:=[(0, .k (.ptr 0 4 0 0)),(1000000, .k (.ptr 0 4 0 0)),(1000001, .k (.ptr 1 8 0 0))],ob:=[.box [.t (.st .GPensionref5_reader)], .box [.t (.i .i64), .t (.st .GRounding), .k (.row 2 2), .k (.row 3 3), .k (.row 4 7), .k (.row 5 13), .k (.row 6 7)], .row 251 (.st .GCredit), .row 253 (.st .GIndex), .row 258 (.st .GLet), .row 261 (.st .GGrant), .row 263 (.st .GReduce)] }
abbrev xx:Tm:={ sl:=[(0, .k (.ptr 0 4 0 0)),(1, .k (.ptr 1 8 0 0)),(4, .k (.ptr 2 2 0 0)),(1000000, .k (.ptr 0 4 0 0)),(1000001, .k (.ptr 1 8 0 0))],ob:=[.box [.t (.st .GPensionref5_reader)], .box [.t (.i .i64), .t (.st .GRounding), .k (.row 3 2), .k (.row 4 3), .k (.row 5 7), .k (.row 6 13), .k (.row 7 7)], .box [.t (.st .GCredit)], .row 251 (.st .GCredit), .row 253 (.st .GIndex), .row 258 (.st .GLet), .row 261 (.st .GGrant), .row 263 (.st .GReduce)] }
abbrev uv:Tm:={ sl:=[(0, .k (.ptr 0 4 0 0)),(1, .k (.ptr 1 8 0 0)),(6, .k (.ptr 2 3 0 0)),(1000000, .k (.ptr 0 4 0 0)),(1000001, .k (.ptr 1 8 0 0))],ob:=[.box [.t (.st .GPensionref5_reader)], .box [.t (.i .i64), .t (.st .GRounding), .k (.row 3 2), .k (.row 4 3), .k (.row 5 7), .k (.row 6 13), .k (.row 7 7)], .box [.t (.st .GIndex)], .row 251 (.st .GCredit), .row 253 (.st .GIndex), .row 258 (.st .GLet), .row 261 (.st .GGrant), .row 263 (.st .GReduce)] }
abbrev vU:Tm:={ sl:=[(0, .k (.ptr 0 4 0 0)),(1, .k (.ptr 1 8 0 0)),(6, .k (.ptr 2 3 0 0)),(1000000, .k (.ptr 0 4 0 0)),(1000001, .k (.ptr 1 8 0 0))],ob:=[.box [.t (.st .GPensionref5_reader)], .box [.t (.i .i64), .t (.st .GRounding), .k (.row 3 2), .k (.row 4 3), .k (.row 5 7), .k (.row 6 13), .k (.row 7 7)], .box [.t (.st .GIndex)], .row 251 (.st .GCredit), .row 253 (.st .GIndex), .row 258 (.st .GLet), .row 261 (.st .GGrant), .row 263 (.st .GReduce)] }
noncomputable def gT:FI:={ fid:=164,fn:=Tryz.f164,c:=aj Tryz.f164,ins:={ sl:=[(0, .k (.ptr 0 4 0 0)),(1, .k (.ptr 1 8 0 0)),(1000000, .k (.ptr 0 4 0 0)),(1000001, .k (.ptr 1 8 0 0))],ob:=[.box [.t (.st .GPensionref5_reader)], .box [.t (.i .i64), .t (.st .GRounding), .k (.row 2 2), .k (.row 3 3), .k (.row 4 7), .k (.row 5 13), .k (.row 6 7)], .row 251 (.st .GCredit), .row 253 (.st .GIndex), .row 258 (.st .GLet), .row 261 (.st .GGrant), .row 263 (.st .GReduce)] },out:=.gen ({ sl:=[(1000000, .k (.ptr 0 4 0 0)),(1000001, .k (.ptr 1 8 0 0)),(2000000, .tp [.tp []])],ob:=[.box [.t (.st .GPensionref5_reader)], .box [.t (.i .i64), .t (.st .GRounding), .k (.row 2 2), .k (.row 3 3), .k (.row 4 7), .k (.row 5 13), .k (.row 6 7)], .row 251 (.st .GCredit), .row 253 (.st .GIndex), .row 258 (.st .GLet), .row 261 (.st .GGrant), .row 263 (.st .GReduce)] }),cuts:=[(3,Bh),(75,xx),(315,uv),(631,vU)] }
abbrev C5:Tm:={ sl:=[(0, .k (.ptr 0 4 0 0)),(2, .k (.ptr 1 8 0 0)),(3, .k (.ptr 2 8 0 0)),(1000000, .k (.ptr 0 4 0 0))],ob:=[.box [.t (.st .GPensionref5_reader)], .box [.t (.i .i64), .t (.st .GRounding), .k (.c .nil), .k (.c .nil), .k (.c .nil), .k (.c .nil), .k (.c .nil)], .box [.t (.i .i64), .t (.st .GRounding), .k (.c .nil), .k (.c .nil), .k (.c .nil), .k (.c .nil), .k (.c .nil)]] }
abbrev yr:Tm:={ sl:=[(0, .k (.ptr 0 4 0 0)),(2, .k (.ptr 1 8 0 0)),(3, .k (.ptr 2 8 0 0)),(1000000, .k (.ptr 0 4 0 0))],ob:=[.box [.t (.st .GPensionref5_reader)], .box [.t (.i .i64), .t (.st .GRounding), .k (.c .nil), .k (.c .nil), .k (.c .nil), .k (.c .nil), .k (.c .nil)], .box [.t (.i .i64), .t (.st .GRounding), .k (.row 3 2), .k (.row 4 3), .k (.row 5 7), .k (.row 6 13), .k (.row 7 7)], .row 251 (.st .GCredit), .row 253 (.st .GIndex), .row 258 (.st .GLet), .row 261 (.st .GGrant), .row 263 (.st .GReduce)] }
noncomputable def f125:FI:={ fid:=125,fn:=Tryz.f125,c:=aj Tryz.f125,ins:={ sl:=[(0, .k (.ptr 0 4 0 0)),(1000000, .k (.ptr 0 4 0 0))],ob:=[.box [.t (.st .GPensionref5_reader)]] },out:=.gen ({ sl:=[(1000000, .k (.ptr 0 4 0 0)),(2000000, .tp [.t (.st .GVersion)])],ob:=[.box [.t (.st .GPensionref5_reader)]] }),cuts:=[(31,C5),(4092,yr)] }
noncomputable def f126:FI:={ fid:=126,fn:=Tryz.f126,c:=aj Tryz.f126,ins:={ sl:=[(0, .dp (.st .GPensionref5_reader))] },out:=.new (.t (.i .i64)),cuts:=[] }
noncomputable def f83:FI:={ fid:=83,fn:=Tryz.f83,c:=aj Tryz.f83,ins:={ sl:=[(0, .t (.i .i64))] },out:=.new (.t (.b)),cuts:=[] }
noncomputable def f207:FI:={ fid:=207,fn:=Tryz.f207,c:=aj Tryz.f207,ins:={ sl:=[(0, .t (.st .GRounding))] },out:=.new (.t (.b)),cuts:=[] }
abbrev Dk:Tm:={ sl:=[(0, .t (.i .i64)),(1, .t (.i .i64)),(5, .k (.row 0 1)),(6, .t (.i .i64))],ob:=[.row 9 (.s)] }
noncomputable def f208:FI:={ fid:=208,fn:=Tryz.f208,c:=aj Tryz.f208,ins:={ sl:=[(0, .t (.i .i64)),(1, .t (.i .i64))] },out:=.new (.t (.s)),cuts:=[(58,Dk)] }
noncomputable def f231:FI:={ fid:=231,fn:=Tryz.f231,c:=aj Tryz.f231,ins:={ sl:=[(0, .t (.st .GFraction))] },out:=.new (.t (.b)),cuts:=[] }
abbrev EJ:Tm:={ sl:=[(0, .t (.i .i64)),(1, .t (.i .i64)),(5, .t (.s))],ob:=[] }
noncomputable def f249:FI:={ fid:=249,fn:=Tryz.f249,c:=aj Tryz.f249,ins:={ sl:=[(0, .t (.i .i64)),(1, .t (.i .i64))] },out:=.new (.t (.s)),cuts:=[(28,EJ)] }
abbrev Ek:Tm:={ sl:=[(1, .k (.ptr 0 2 0 0)),(3, .t (.s))],ob:=[.box [.t (.st .GFraction)]] }
noncomputable def f232:FI:={ fid:=232,fn:=Tryz.f232,c:=aj Tryz.f232,ins:={ sl:=[(0, .t (.st .GFraction))] },out:=.new (.t (.s)),cuts:=[(31,Ek)] }
abbrev xY:Tm:={ sl:=[(1, .t (.i .i64)),(7, .t (.s)),(8, .t (.i .i64)),(9, .t (.i .i64))],ob:=[] }
noncomputable def f209:FI:={ fid:=209,fn:=Tryz.f209,c:=aj Tryz.f209,ins:={ sl:=[(0, .t (.st .GFraction)),(1, .t (.i .i64))] },out:=.new (.tp [.t (.s), .t (.b)]),cuts:=[(2042,xY)] }
abbrev De:Tm:={ sl:=[(1, .k (.ptr 0 6 0 0)),(3, .t (.i .i64)),(4, .t (.i .i64))],ob:=[.box [.t (.i .i64), .t (.st .GFraction), .t (.i .i64), .t (.s), .t (.ls (.st .GExpr))]] }
noncomputable def f233:FI:={ fid:=233,fn:=Tryz.f233,c:=aj Tryz.f233,ins:={ sl:=[(0, .t (.st .GExpr))] },out:=.data (.t (.i .i64)),cuts:=[(58,De)] }
abbrev El:Tm:={ sl:=[(1, .k (.ptr 0 6 0 0)),(3, .t (.i .i64)),(4, .t (.i .i64))],ob:=[.box [.t (.i .i64), .t (.st .GFraction), .t (.i .i64), .t (.s), .t (.ls (.st .GExpr))]] }
noncomputable def f234:FI:={ fid:=234,fn:=Tryz.f234,c:=aj Tryz.f234,ins:={ sl:=[(0, .t (.st .GExpr))] },out:=.data (.t (.i .i64)),cuts:=[(58,El)] }
abbrev A8:Tm:={ sl:=[(1, .k (.ptr 0 6 0 0)),(3, .t (.b)),(6, .t (.i .i64))],ob:=[.box [.t (.i .i64), .t (.st .GFraction), .t (.i .i64), .t (.s), .t (.ls (.st .GExpr))]] }
noncomputable def f235:FI:={ fid:=235,fn:=Tryz.f235,c:=aj Tryz.f235,ins:={ sl:=[(0, .t (.st .GExpr))] },out:=.new (.t (.b)),cuts:=[(250,A8)] }
noncomputable def f210:FI:={ fid:=210,fn:=Tryz.f210,c:=aj Tryz.f210,ins:={ sl:=[(0, .t (.st .GExpr))] },out:=.new (.t (.b)),cuts:=[] }
abbrev Dy:Tm:={ sl:=[(1, .k (.ptr 0 8 0 0)),(3, .t (.i .i64))],ob:=[.box [.t (.i .i64), .t (.st .GRounding), .t (.ls (.st .GCredit)), .t (.ls (.st .GIndex)), .t (.ls (.st .GLet)), .t (.ls (.st .GGrant)), .t (.ls (.st .GReduce))]] }
abbrev Bp:Tm:={ sl:=[(1, .k (.ptr 0 8 0 0)),(4, .t (.i .i64))],ob:=[.box [.t (.i .i64), .t (.st .GRounding), .t (.ls (.st .GCredit)), .t (.ls (.st .GIndex)), .t (.ls (.st .GLet)), .t (.ls (.st .GGrant)), .t (.ls (.st .GReduce))]] }
abbrev Ao:Tm:={ sl:=[(1, .k (.ptr 0 8 0 0)),(7, .t (.i .i64))],ob:=[.box [.t (.i .i64), .t (.st .GRounding), .t (.ls (.st .GCredit)), .t (.ls (.st .GIndex)), .t (.ls (.st .GLet)), .t (.ls (.st .GGrant)), .t (.ls (.st .GReduce))]] }
abbrev AQ:Tm:={ sl:=[(1, .k (.ptr 0 8 0 0)),(8, .t (.i .i64))],ob:=[.box [.t (.i .i64), .t (.st .GRounding), .t (.ls (.st .GCredit)), .t (.ls (.st .GIndex)), .t (.ls (.st .GLet)), .t (.ls (.st .GGrant)), .t (.ls (.st .GReduce))]] }
abbrev xR:Tm:={ sl:=[(1, .k (.ptr 0 8 0 0)),(9, .t (.i .i64))],ob:=[.box [.t (.i .i64), .t (.st .GRounding), .t (.ls (.st .GCredit)), .t (.ls (.st .GIndex)), .t (.ls (.st .GLet)), .t (.ls (.st .GGrant)), .t (.ls (.st .GReduce))]] }
noncomputable def f165:FI:={ fid:=165,fn:=Tryz.f165,c:=aj Tryz.f165,ins:={ sl:=[(0, .t (.st .GVersion))] },out:=.new (.t (.b)),cuts:=[(58,Dy),(122,Bp),(250,Ao),(506,AQ),(1018,xR)] }
abbrev Ev:Tm:={ sl:=[(1, .k (.ptr 0 3 0 0)),(3, .t (.i .i64))],ob:=[.box [.t (.s), .t (.i .i64), .t (.ls (.st .GVersion))]] }
noncomputable def f127:FI:={ fid:=127,fn:=Tryz.f127,c:=aj Tryz.f127,ins:={ sl:=[(0, .t (.st .GStatute))] },out:=.new (.t (.b)),cuts:=[(58,Ev)] }
abbrev As:Tm:={ sl:=[(2, .k (.ptr 0 3 0 0)),(5, .k (.ptr 1 4 0 0)),(8, .k (.ptr 2 3 0 0)),(9, .t (.b))],ob:=[.box [.t (.s), .t (.i .i64), .k (.c .nil)], .box [.t (.st .GPensionref5_reader)], .box [.t (.s), .t (.i .i64), .k (.row 3 8)], .row 178 (.st .GVersion)] }
noncomputable def f81:FI:={ fid:=81,fn:=Tryz.f81,c:=aj Tryz.f81,ins:={ sl:=[(0, .t (.s))] },out:=.data (.tp [.t (.st .GStatute), .t (.i .i64), .t (.i .i64)]),cuts:=[(4090,As)] }
abbrev Hv:Tm:={ sl:=[(0, .t (.ls (.i .i64))),(2, .k (.ptr 0 3 0 0)),(3, .k (.ptr 1 3 0 0)),(4, .t (.i .i64))],ob:=[.box [.k (.c .nil), .k (.c .nil), .k (.c .nil)], .box [.k (.row 2 4), .k (.c .nil), .k (.row 3 4)], .row 126 (.st .GState), .row 118 (.st .GRate)] }
noncomputable def f50:FI:={ fid:=50,fn:=Tryz.f50,c:=aj Tryz.f50,ins:={ sl:=[(0, .t (.ls (.i .i64)))],ob:=[] },out:=.gen ({ sl:=[(2000000, .tp [.ag [.k (.row 0 4), .k (.row 1 5), .k (.row 2 4)]])],ob:=[.row 126 (.st .GState), .row 42 (.st .GRules), .row 118 (.st .GRate)] }),cuts:=[(58,Hv)] }
abbrev EA:Tm:={ sl:=[(1, .t (.i .i64)),(5, .k (.row 0 5)),(6, .t (.i .i64))],ob:=[.row 42 (.st .GRules)] }
noncomputable def f19:FI:={ fid:=19,fn:=Tryz.f19,c:=aj Tryz.f19,ins:={ sl:=[(0, .t (.ls (.i .i64))),(1, .t (.i .i64))] },out:=.own false 42 (.st .GRules),cuts:=[(234,EA)] }
abbrev AN:Tm:={ sl:=[(3, .t (.i .i64)),(6, .t (.b))],ob:=[] }
abbrev xy:Tm:={ sl:=[(3, .t (.i .i64)),(11, .t (.b))],ob:=[] }
abbrev sP:Tm:={ sl:=[(3, .t (.i .i64)),(20, .t (.b))],ob:=[] }
noncomputable def f137:FI:={ fid:=137,fn:=Tryz.f137,c:=aj Tryz.f137,ins:={ sl:=[(0, .t (.i .i64))] },out:=.new (.t (.s)),cuts:=[(215,AN),(3455,xy),(221183,sP)] }
noncomputable def f140:FI:={ fid:=140,fn:=Tryz.f140,c:=aj Tryz.f140,ins:={ sl:=[(0, .t (.i .i64)),(1, .t (.i .i64)),(2, .t (.i .i64))] },out:=.new (.t (.b)),cuts:=[] }
noncomputable def f251:FI:={ fid:=251,fn:=Tryz.f251,c:=aj Tryz.f251,ins:={ sl:=[(0, .t (.s)),(1, .t (.i .u8))] },out:=.data (.t (.i .i64)),cuts:=[] }
noncomputable def f238:FI:={ fid:=238,fn:=Tryz.f238,c:=aj Tryz.f238,ins:={ sl:=[(0, .t (.s)),(1, .t (.i .u8))] },out:=.new (.t (.i .i64)),cuts:=[] }
noncomputable def f219:FI:={ fid:=219,fn:=Tryz.f219,c:=aj Tryz.f219,ins:={ sl:=[(0, .t (.s)),(1, .t (.s))] },out:=.new (.t (.i .i64)),cuts:=[] }
noncomputable def f193:FI:={ fid:=193,fn:=Tryz.f193,c:=aj Tryz.f193,ins:={ sl:=[(0, .t (.s)),(1, .t (.s))] },out:=.new (.t (.i .i64)),cuts:=[] }
noncomputable def f139:FI:={ fid:=139,fn:=Tryz.f139,c:=aj Tryz.f139,ins:={ sl:=[(0, .t (.s)),(1, .t (.s))] },out:=.new (.t (.b)),cuts:=[] }
noncomputable def f138:FI:={ fid:=138,fn:=Tryz.f138,c:=aj Tryz.f138,ins:={ sl:=[(0, .t (.s)),(1, .dp (.s))] },out:=.new (.t (.b)),cuts:=[] }
noncomputable def f141:FI:={ fid:=141,fn:=Tryz.f141,c:=aj Tryz.f141,ins:={ sl:=[(0, .t (.b)),(1, .t (.i .i64)),(2, .t (.i .i64)),(3, .t (.i .i64))] },out:=.new (.t (.b)),cuts:=[] }
noncomputable def f142:FI:={ fid:=142,fn:=Tryz.f142,c:=aj Tryz.f142,ins:={ sl:=[(0, .t (.st .GSpan))] },out:=.new (.t (.b)),cuts:=[] }
abbrev Au:Tm:={ sl:=[(1, .k (.ptr 0 14 0 0)),(89, .t (.i .i64)),(97, .t (.b))],ob:=[.box [.t (.st .GFact)]] }
noncomputable def f90:FI:={ fid:=90,fn:=Tryz.f90,c:=aj Tryz.f90,ins:={ sl:=[(0, .t (.st .GFact))] },out:=.new (.t (.b)),cuts:=[(2007,Au)] }
noncomputable def f61:FI:={ fid:=61,fn:=Tryz.f61,c:=aj Tryz.f61,ins:={ sl:=[(0, .t (.st .GFact))] },out:=.new (.t (.b)),cuts:=[] }
abbrev Hq:Tm:={ sl:=[(1, .fn 61 []),(5, .k (.row 0 14)),(8, .t (.ls (.st .GFact))),(9, .t (.i .i64)),(10, .t (.i .i64))],ob:=[.row 38 (.st .GFact)] }
noncomputable def f60:FI:={ fid:=60,fn:=Tryz.f60,c:=aj Tryz.f60,ins:={ sl:=[(0, .t (.ls (.st .GFact))),(1, .fn 61 [])] },out:=.own true 38 (.st .GFact),cuts:=[(58,Hq)] }
noncomputable def f31:FI:={ fid:=31,fn:=Tryz.f31,c:=aj Tryz.f31,ins:={ sl:=[(0, .t (.ls (.st .GFact)))] },out:=.own true 38 (.st .GFact),cuts:=[] }
abbrev G2:Tm:={ sl:=[(1, .t (.i .i64)),(6, .t (.i .i64)),(7, .t (.b)),(10, .t (.ls (.st .GFact))),(11, .t (.i .i64)),(12, .t (.i .i64))],ob:=[] }
noncomputable def f91:FI:={ fid:=91,fn:=Tryz.f91,c:=aj Tryz.f91,ins:={ sl:=[(0, .t (.ls (.st .GFact))),(1, .t (.i .i64))] },out:=.new (.tp [.t (.i .i64), .t (.b)]),cuts:=[(58,G2)] }
noncomputable def f63:FI:={ fid:=63,fn:=Tryz.f63,c:=aj Tryz.f63,ins:={ sl:=[(0, .t (.ls (.st .GFact)))] },out:=.new (.tp [.t (.i .i64), .t (.b)]),cuts:=[] }
noncomputable def f64:FI:={ fid:=64,fn:=Tryz.f64,c:=aj Tryz.f64,ins:={ sl:=[(0, .t (.ls (.st .GFact)))] },out:=.new (.tp [.t (.i .i64), .t (.b)]),cuts:=[] }
noncomputable def f33:FI:={ fid:=33,fn:=Tryz.f33,c:=aj Tryz.f33,ins:={ sl:=[(0, .t (.ls (.st .GFact)))] },out:=.new (.t (.st .GSpan)),cuts:=[] }
noncomputable def f85:FI:={ fid:=85,fn:=Tryz.f85,c:=aj Tryz.f85,ins:={ sl:=[(0, .t (.st .GSpan))] },out:=.new (.t (.st .GSpan)),cuts:=[] }
abbrev I2:Tm:={ sl:=[(3, .k (.ptr 0 1 0 0)),(10, .t (.ls (.st .GSpan))),(11, .t (.i .i64)),(12, .t (.i .i64))],ob:=[.box [.k (.row 1 2)], .row 30 (.st .GSpan)] }
abbrev Eg:Tm:={ sl:=[(6, .k (.row 0 2)),(32, .k (.row 1 2)),(33, .t (.i .i64)),(34, .t (.i .i64))],ob:=[.row 30 (.st .GSpan), .row 30 (.st .GSpan)] }
noncomputable def f56:FI:={ fid:=56,fn:=Tryz.f56,c:=aj Tryz.f56,ins:={ sl:=[(0, .t (.ls (.st .GSpan)))] },out:=.own true 30 (.st .GSpan),cuts:=[(58,I2),(506,Eg)] }
abbrev DR:Tm:={ sl:=[(0, .k (.row 0 2)),(1, .k (.row 1 2)),(5, .k (.row 2 2)),(6, .t (.i .i64)),(7, .t (.i .i64))],ob:=[.row 30 (.st .GSpan), .row 30 (.st .GSpan), .row 30 (.st .GSpan)] }
abbrev AY:Tm:={ sl:=[(0, .k (.row 0 2)),(1, .k (.row 1 2)),(5, .k (.row 2 2)),(6, .t (.i .i64)),(7, .t (.i .i64))],ob:=[.row 30 (.st .GSpan), .row 30 (.st .GSpan), .row 30 (.st .GSpan)] }
noncomputable def f62:FI:={ fid:=62,fn:=Tryz.f62,c:=aj Tryz.f62,ins:={ sl:=[(0, .t (.ls (.st .GSpan))),(1, .t (.ls (.st .GSpan)))] },out:=.own true 30 (.st .GSpan),cuts:=[(122,DR),(3915,AY)] }
noncomputable def f32:FI:={ fid:=32,fn:=Tryz.f32,c:=aj Tryz.f32,ins:={ sl:=[(0, .t (.ls (.st .GSpan))),(1, .t (.st .GSpan))] },out:=.own true 30 (.st .GSpan),cuts:=[] }
abbrev Ef:Tm:={ sl:=[(0, .t (.ls (.st .GFact))),(7, .k (.row 0 4)),(39, .k (.ptr 1 1 0 0))],ob:=[.row 32 (.st .GPosting), .iter (.fn 2000000000 [.k (.ptr 2 1 0 0)]), .map 66 (.st .GCompetence_route) (.ls (.st .GSpan))] }
abbrev yp:Tm:={ sl:=[(0, .t (.ls (.st .GFact))),(7, .k (.row 0 4)),(8, .k (.ptr 1 2 0 0)),(39, .k (.ptr 2 1 0 0)),(48, .k (.row 3 2)),(49, .t (.i .i64)),(50, .t (.i .i64))],ob:=[.row 32 (.st .GPosting), .box [.t (.st .GCompetence_route)], .iter (.fn 2000000000 [.k (.ptr 4 1 0 0)]), .row 30 (.st .GSpan), .map 66 (.st .GCompetence_route) (.ls (.st .GSpan))] }
noncomputable def f12:FI:={ fid:=12,fn:=Tryz.f12,c:=aj Tryz.f12,ins:={ sl:=[(0, .t (.ls (.st .GFact)))] },out:=.own true 32 (.st .GPosting),cuts:=[(250,Ef),(32054,yp)],hd:=[(29,⟨{ sl:=[(0, .t (.ls (.st .GFact))),(3, .k (.fn 2000000000 [.ptr 0 1 0 0])),(14, .t (.ls (.st .GFact))),(15, .t (.i .i64)),(16, .t (.i .i64))],ob:=[.map 66 (.st .GCompetence_route) (.ls (.st .GSpan))] },{ sl:=[(0, .t (.ls (.st .GFact))),(3, .k (.fn 2000000000 [.ptr 0 1 0 0]))],ob:=[.map 66 (.st .GCompetence_route) (.ls (.st .GSpan))] },fun x=>sF x⟩)] }
noncomputable def f109:FI:={ fid:=109,fn:=Tryz.f109,c:=aj Tryz.f109,ins:={ sl:=[(0, .t (.i .i64))] },out:=.new (.t (.b)),cuts:=[] }
noncomputable def f149:FI:={ fid:=149,fn:=Tryz.f149,c:=aj Tryz.f149,ins:={ sl:=[(0, .t (.i .i64)),(1, .t (.i .i64))] },out:=.new (.t (.b)),cuts:=[] }
abbrev DM:Tm:={ sl:=[(1, .k (.ptr 0 5 0 0)),(28, .t (.ls (.i .i64))),(29, .t (.i .i64)),(30, .t (.i .i64))],ob:=[.box [.t (.st .GRules)]] }
noncomputable def f108:FI:={ fid:=108,fn:=Tryz.f108,c:=aj Tryz.f108,ins:={ sl:=[(0, .t (.st .GRules))] },out:=.new (.t (.b)),cuts:=[(58,DM)] }
abbrev DJ:Tm:={ sl:=[(0, .t (.ls (.st .GRules))),(18, .t (.ls (.st .GRules))),(19, .t (.i .i64)),(20, .t (.i .i64))],ob:=[] }
noncomputable def f73:FI:={ fid:=73,fn:=Tryz.f73,c:=aj Tryz.f73,ins:={ sl:=[(0, .t (.ls (.st .GRules)))] },out:=.new (.t (.i .i64)),cuts:=[(122,DJ)] }
noncomputable def f48:FI:={ fid:=48,fn:=Tryz.f48,c:=aj Tryz.f48,ins:={ sl:=[(0, .t (.ls (.st .GFact))),(1, .t (.ls (.st .GRules)))] },out:=.data (.tp [.t (.st .GCompetence_life), .t (.b)]),cuts:=[] }
noncomputable def f74:FI:={ fid:=74,fn:=Tryz.f74,c:=aj Tryz.f74,ins:={ sl:=[(0, .t (.ls (.st .GRules))),(1, .t (.i .i64))] },out:=.data (.tp [.t (.st .GRules), .t (.b)]),cuts:=[] }
noncomputable def f75:FI:={ fid:=75,fn:=Tryz.f75,c:=aj Tryz.f75,ins:={ sl:=[(0, .t (.st .GSpan)),(1, .t (.i .i64))] },out:=.new (.t (.b)),cuts:=[] }
abbrev G3:Tm:={ sl:=[(1, .t (.i .i64)),(2, .t (.i .i64)),(11, .t (.ls (.st .GPosting))),(12, .t (.i .i64)),(13, .t (.i .i64))],ob:=[] }
noncomputable def f76:FI:={ fid:=76,fn:=Tryz.f76,c:=aj Tryz.f76,ins:={ sl:=[(0, .t (.st .GCompetence_life)),(1, .t (.i .i64)),(2, .t (.i .i64))] },out:=.new (.tp [.t (.i .i64), .t (.b)]),cuts:=[(26,G3)] }
abbrev C6:Tm:={ sl:=[(0, .t (.ls (.i .i64))),(1, .t (.i .i64)),(7, .t (.i .i64)),(8, .t (.i .i64))],ob:=[] }
noncomputable def f153:FI:={ fid:=153,fn:=Tryz.f153,c:=aj Tryz.f153,ins:={ sl:=[(0, .t (.ls (.i .i64))),(1, .t (.i .i64))] },out:=.new (.t (.i .i64)),cuts:=[(26,C6)] }
noncomputable def f116:FI:={ fid:=116,fn:=Tryz.f116,c:=aj Tryz.f116,ins:={ sl:=[(0, .t (.ls (.i .i64))),(1, .t (.i .i64))] },out:=.new (.t (.b)),cuts:=[] }
abbrev D2:Tm:={ sl:=[(1, .t (.i .i64)),(2, .t (.ls (.i .i64))),(7, .k (.row 0 14)),(11, .t (.ls (.st .GFact))),(12, .t (.i .i64)),(13, .t (.i .i64))],ob:=[.row 38 (.st .GFact)] }
noncomputable def f112:FI:={ fid:=112,fn:=Tryz.f112,c:=aj Tryz.f112,ins:={ sl:=[(0, .t (.st .GCompetence_life)),(1, .t (.i .i64)),(2, .t (.ls (.i .i64)))] },out:=.own true 38 (.st .GFact),cuts:=[(58,D2)] }
abbrev Is:Tm:={ sl:=[(6, .k (.ptr 0 14 0 0)),(7, .t (.b)),(14, .k (.row 1 14)),(15, .t (.i .i64)),(16, .t (.i .i64))],ob:=[.box [.t (.st .GFact)], .row 38 (.st .GFact)] }
noncomputable def f77:FI:={ fid:=77,fn:=Tryz.f77,c:=aj Tryz.f77,ins:={ sl:=[(0, .t (.st .GCompetence_life)),(1, .t (.i .i64))] },out:=.new (.tp [.t (.i .i64), .t (.b)]),cuts:=[(58,Is)] }
noncomputable def f155:FI:={ fid:=155,fn:=Tryz.f155,c:=aj Tryz.f155,ins:={ sl:=[(0, .t (.st .GSpan)),(1, .dp (.i .i64))] },out:=.new (.t (.b)),cuts:=[] }
abbrev Ea:Tm:={ sl:=[(0, .t (.ls (.st .GSpan))),(1, .fn 155 [.dp (.i .i64)]),(7, .t (.i .i64)),(8, .t (.i .i64))],ob:=[] }
noncomputable def f196:FI:={ fid:=196,fn:=Tryz.f196,c:=aj Tryz.f196,ins:={ sl:=[(0, .t (.ls (.st .GSpan))),(1, .fn 155 [.dp (.i .i64)])] },out:=.new (.t (.i .i64)),cuts:=[(26,Ea)] }
noncomputable def f154:FI:={ fid:=154,fn:=Tryz.f154,c:=aj Tryz.f154,ins:={ sl:=[(0, .t (.ls (.st .GSpan))),(1, .fn 155 [.dp (.i .i64)])] },out:=.new (.t (.b)),cuts:=[] }
noncomputable def f119:FI:={ fid:=119,fn:=Tryz.f119,c:=aj Tryz.f119,ins:={ sl:=[(0, .t (.ls (.st .GSpan))),(1, .t (.i .i64))] },out:=.new (.t (.b)),cuts:=[] }
abbrev DB:Tm:={ sl:=[(1, .t (.i .i64)),(6, .k (.ptr 0 14 0 0)),(7, .t (.b)),(22, .t (.ls (.st .GFact))),(23, .t (.i .i64)),(24, .t (.i .i64))],ob:=[.box [.t (.st .GFact)]] }
noncomputable def f80:FI:={ fid:=80,fn:=Tryz.f80,c:=aj Tryz.f80,ins:={ sl:=[(0, .t (.ls (.st .GFact))),(1, .t (.i .i64))] },out:=.new (.tp [.t (.i .i64), .t (.b)]),cuts:=[(122,DB)] }
abbrev DP:Tm:={ sl:=[(3, .k (.row 0 1)),(6, .t (.ls (.st .GFact))),(7, .t (.i .i64)),(8, .t (.i .i64))],ob:=[.row 3 (.i .i64)] }
noncomputable def f115:FI:={ fid:=115,fn:=Tryz.f115,c:=aj Tryz.f115,ins:={ sl:=[(0, .t (.ls (.st .GFact)))] },out:=.own true 3 (.i .i64),cuts:=[(58,DP)] }
abbrev Jb:Tm:={ sl:=[(1, .t (.i .i64)),(2, .t (.i .i64)),(3, .k (.ptr 0 5 0 0)),(8, .fn 2000000000 [.k (.ptr 1 1 0 0)]),(9, .t (.i .i64)),(25, .k (.row 2 14)),(26, .t (.i .i64)),(27, .t (.i .i64))],ob:=[.box [.t (.st .GCompetence_life)], .map 153 (.i .i64) (.i .i64), .row 38 (.st .GFact)] }
abbrev xj:Tm:={ sl:=[(8, .fn 2000000000 [.k (.ptr 0 1 0 0)]),(18, .t (.i .i64)),(117, .k (.row 1 1)),(118, .t (.i .i64)),(119, .t (.i .i64))],ob:=[.map 153 (.i .i64) (.i .i64), .row 3 (.i .i64)] }
noncomputable def f78:FI:={ fid:=78,fn:=Tryz.f78,c:=aj Tryz.f78,ins:={ sl:=[(0, .t (.st .GCompetence_life)),(1, .t (.i .i64)),(2, .t (.i .i64))] },out:=.new (.tp [.t (.i .i64), .t (.b)]),cuts:=[(58,Jb),(65530,xj)] }
noncomputable def f67:FI:={ fid:=67,fn:=Tryz.f67,c:=aj Tryz.f67,ins:={ sl:=[(0, .t (.i .i64))] },out:=.new (.t (.b)),cuts:=[] }
noncomputable def f37:FI:={ fid:=37,fn:=Tryz.f37,c:=aj Tryz.f37,ins:={ sl:=[(0, .t (.i .i64)),(1, .t (.i .i64))] },out:=.new (.t (.i .i64)),cuts:=[] }
noncomputable def f118:FI:={ fid:=118,fn:=Tryz.f118,c:=aj Tryz.f118,ins:={ sl:=[(0, .t (.st .GFact)),(1, .t (.st .GFact))] },out:=.new (.t (.i .i64)),cuts:=[] }
abbrev AR:Tm:={ sl:=[(0, .t (.ls (.st .GFact))),(1, .fn 118 []),(4, .k (.ptr 0 14 0 0)),(5, .k (.ptr 1 14 0 0)),(6, .t (.i .i64))],ob:=[.box [.t (.st .GFact)], .box [.t (.st .GFact)]] }
noncomputable def f117:FI:={ fid:=117,fn:=Tryz.f117,c:=aj Tryz.f117,ins:={ sl:=[(0, .t (.ls (.st .GFact))),(1, .fn 118 [])] },out:=.new (.t (.st .GFact)),cuts:=[(122,AR)] }
noncomputable def f79:FI:={ fid:=79,fn:=Tryz.f79,c:=aj Tryz.f79,ins:={ sl:=[(0, .t (.st .GCompetence_life)),(1, .t (.i .i64))] },out:=.new (.tp [.t (.i .i64), .t (.b)]),cuts:=[] }
noncomputable def f49:FI:={ fid:=49,fn:=Tryz.f49,c:=aj Tryz.f49,ins:={ sl:=[(0, .t (.st .GCompetence_life)),(1, .t (.i .i64))] },out:=.new (.tp [.t (.i .i64), .t (.i .i64)]),cuts:=[] }
noncomputable def f18:FI:={ fid:=18,fn:=Tryz.f18,c:=aj Tryz.f18,ins:={ sl:=[(0, .t (.ls (.st .GFact))),(1, .t (.ls (.st .GRules))),(2, .t (.i .i64))] },out:=.new (.tp [.t (.i .i64), .t (.i .i64)]),cuts:=[] }
noncomputable def f14:FI:={ fid:=14,fn:=Tryz.f14,c:=aj Tryz.f14,ins:={ sl:=[] },out:=.new (.t (.b)),cuts:=[] }
abbrev H1:Tm:={ sl:=[(1, .k (.ptr 0 5 0 0)),(3, .k (.row 1 1)),(18, .t (.ls (.st .GFact))),(19, .t (.i .i64)),(20, .t (.i .i64))],ob:=[.box [.t (.st .GCompetence_life)], .row 3 (.i .i64)] }
abbrev Ex:Tm:={ sl:=[(1, .k (.ptr 0 5 0 0)),(3, .k (.row 1 1)),(35, .t (.ls (.st .GRules))),(36, .t (.i .i64)),(37, .t (.i .i64))],ob:=[.box [.t (.st .GCompetence_life)], .row 3 (.i .i64)] }
abbrev yo:Tm:={ sl:=[(1, .k (.ptr 0 5 0 0)),(3, .k (.row 1 1)),(7, .k (.ptr 2 5 0 0)),(35, .t (.ls (.st .GRules))),(36, .t (.i .i64)),(37, .t (.i .i64)),(47, .t (.ls (.st .GPosting))),(48, .t (.i .i64)),(49, .t (.i .i64))],ob:=[.box [.t (.st .GCompetence_life)], .row 3 (.i .i64), .box [.t (.st .GRules)]] }
noncomputable def f58:FI:={ fid:=58,fn:=Tryz.f58,c:=aj Tryz.f58,ins:={ sl:=[(0, .t (.st .GCompetence_life))] },out:=.own true 3 (.i .i64),cuts:=[(58,H1),(122,Ex),(62670,yo)] }
abbrev DN:Tm:={ sl:=[(5, .k (.ptr 0 5 0 0)),(7, .k (.row 1 4)),(8, .k (.row 2 1)),(9, .t (.i .i64))],ob:=[.box [.t (.st .GCompetence_life)], .row 62 (.st .GSegment), .row 3 (.i .i64)] }
noncomputable def f28:FI:={ fid:=28,fn:=Tryz.f28,c:=aj Tryz.f28,ins:={ sl:=[(0, .t (.ls (.st .GFact))),(1, .t (.ls (.st .GRules)))] },out:=.own true 62 (.st .GSegment),cuts:=[(506,DN)] }
abbrev HH:Tm:={ sl:=[(0, .t (.ls (.st .GSegment))),(1, .t (.ls (.st .GSegment))),(5, .t (.i .i64))],ob:=[] }
noncomputable def f27:FI:={ fid:=27,fn:=Tryz.f27,c:=aj Tryz.f27,ins:={ sl:=[(0, .t (.ls (.st .GSegment))),(1, .t (.ls (.st .GSegment)))] },out:=.new (.t (.b)),cuts:=[(58,HH)] }
abbrev Dh:Tm:={ sl:=[(4, .t (.ls (.i .i64))),(11, .k (.row 0 14)),(12, .k (.row 1 5)),(13, .k (.row 2 14)),(14, .t (.i .i64))],ob:=[.row 38 (.st .GFact), .row 42 (.st .GRules), .row 38 (.st .GFact)] }
noncomputable def f10:FI:={ fid:=10,fn:=Tryz.f10,c:=aj Tryz.f10,ins:={ sl:=[(0, .t (.ls (.st .GPensionhand_Fact))),(1, .t (.ls (.i .i64))),(2, .t (.b)),(3, .t (.i .i64)),(4, .t (.ls (.i .i64)))] },out:=.new (.t (.b)),cuts:=[(250,Dh)] }
noncomputable def OL:XT→HP f251.ins.tys→Option (HP f251.out.tys):=fun _ (a:ByteArray × Int)=>some (Go.firstIdx a.1 a.2.toNat.toUInt8)
noncomputable def Rl:XT→HP f74.ins.tys→Option (HP f74.out.tys):=fun _ (a:List GRules × Int)=>mm a.1 a.2
noncomputable def Tb:iW:={ P:=Tryz.prog,fs:=[(15,[f15]),(42,[f42]),(59,[f59]),(30,[f30]),(29,[f29]),(44,[f44]),(106,[f106]),(71,[f71]),(45,[f45]),(46,[f46]),(107,[oA,f107]),(72,[f72]),(47,[f47]),(17,[f17]),(43,[f43]),(16,[f16]),(11,[f11]),(128,[f128]),(166,[f166]),(129,[f129]),(82,[f82]),(220,[f220]),(221,[f221]),(223,[f223]),(222,[f222]),(200,[f200]),(227,[f227]),(254,[f254]),(244,[f244]),(245,[f245]),(228,[f228]),(202,[f202]),(224,[f224]),(197,[f197]),(156,[f156]),(120,[f120]),(161,[f161]),(124,[f124]),(157,[f157]),(121,[f121]),(158,[f158]),(198,[f198]),(199,[f199]),(159,[f159]),(122,[f122]),(226,[f226]),(101,[f101]),(255,[f255]),(253,[f253]),(242,[f242]),(243,[f243]),(225,[f225]),(201,[f201]),(160,[f160]),(123,[f123]),(162,[f162]),(203,[f203]),(204,[f204]),(205,[f205]),(163,[f163]),(250,[f250]),(246,[f246]),(229,[f229]),(247,[f247]),(248,[f248]),(230,[f230]),(206,[f206]),(164,[gT]),(125,[f125]),(126,[f126]),(83,[f83]),(207,[f207]),(208,[f208]),(231,[f231]),(249,[f249]),(232,[f232]),(209,[f209]),(233,[f233]),(234,[f234]),(235,[f235]),(210,[f210]),(165,[f165]),(127,[f127]),(81,[f81]),(50,[f50]),(19,[f19]),(137,[f137]),(140,[f140]),(238,[f238]),(219,[f219]),(193,[f193]),(139,[f139]),(138,[f138]),(141,[f141]),(142,[f142]),(90,[f90]),(61,[f61]),(60,[f60]),(31,[f31]),(91,[f91]),(63,[f63]),(64,[f64]),(33,[f33]),(85,[f85]),(56,[f56]),(62,[f62]),(32,[f32]),(12,[f12]),(109,[f109]),(149,[f149]),(108,[f108]),(73,[f73]),(48,[f48]),(75,[f75]),(76,[f76]),(153,[f153]),(116,[f116]),(112,[f112]),(77,[f77]),(155,[f155]),(196,[f196]),(154,[f154]),(119,[f119]),(80,[f80]),(115,[f115]),(78,[f78]),(67,[f67]),(37,[f37]),(118,[f118]),(117,[f117]),(79,[f79]),(49,[f49]),(18,[f18]),(14,[f14]),(58,[f58]),(28,[f28]),(27,[f27]),(10,[f10])],sp:=(fun f=>(bif Nat.beq f 74 then .hand f74 Rl else (bif Nat.beq f 251 then .hand f251 OL else (bif Nat.beq f 114 then .mut (fun _=>GK 152) else (bif Nat.beq f 113 then .mut (fun _=>yZ 152 3) else (bif Nat.beq f 89 then .mut (fun _=>uh) else (bif Nat.beq f 88 then .mut (fun _=>GL) else (bif Nat.beq f 86 then .mut (fun _=>pU 56 87 30 (.st .GSpan) jl) else (bif Nat.beq f 34 then .mut (fun _=>zi 35 32 (.st .GPosting) dK) else .none))))))))) }
theorem ak:iz Tb:=⟨fun f=>(.cnd (.h _) (.cnd (.h _) (.cnd (.m _) (.cnd (.m _) (.cnd (.m _) (.cnd (.m _) (.cnd (.m _) (.cnd (.m _) trivial))))))))⟩
noncomputable def rE (t0:ByteArray) (t1:Int):Option Int:=OL (Xc Tb) (t0,t1)
noncomputable def sC (t:List GRules) (day:Int):Option (GRules × Bool):=Rl (Xc Tb) (t,day)
noncomputable def gQ (n:Int) (k:Int):Option Int:=Xf Tb f15 1 f15.ins (n,k)
noncomputable def am (n:Int) (m:Int):Option Int:=Xf Tb f42 1 f42.ins (n,m)
noncomputable def az (n:List Int) (i:Int):Option Int:=Xf Tb f59 1 f59.ins (n,i)
noncomputable def pG (n:List Int):Option (List GFact):=Xf Tb f30 1 f30.ins n
noncomputable def kM (n:List Int) (p:Int) (out:List GFact):Option (List GFact):=Xf Tb f30 58 IJ (n,p,out)
noncomputable def uw (l:List GFact) (person:Int):Option (List GFact):=Xf Tb f29 1 f29.ins (l,person)
noncomputable def eY (l:List GFact) (person:Int) (i:Int) (out:List GFact):Option (List GFact):=Xf Tb f29 58 G0 (l,person,i,out)
noncomputable def kK (kind:Int):Option ByteArray:=Xf Tb f44 1 f44.ins kind
noncomputable def uN (kind:Int) (c:Int):Option Bool:=Xf Tb f106 1 f106.ins (kind,c)
noncomputable def eG (c:Int) (s:ByteArray) (i:Int):Option Bool:=Xf Tb f106 58 Eb (c,s,i)
noncomputable def cq (kind:Int) (c:Int) (n:Int) (least:Int) (most:Int):Option Bool:=Xf Tb f71 1 f71.ins (kind,c,n,least,most)
noncomputable def jC (f:GFact):Option Bool:=Xf Tb f45 1 f45.ins f
noncomputable def nA (a:GFact) (b:GFact):Option Int:=Xf Tb f46 1 f46.ins (a,b)
noncomputable def bh (n:Int) (size:Int) (b:List Int):Option (List Int):=Xf Tb oA 1 oA.ins (n,size,b)
noncomputable def i6 (n:Int) (i:Int) (b:List Int):Option (List Int):=Xf Tb oA 26 x8 (n,i,b)
noncomputable def oo (f:GFact):Option (List Int):=Xf Tb f72 1 f72.ins f
noncomputable def jR (gone:Int) (f:GFact):Option (List Int):=Xf Tb f72 31 Hu (gone,f)
noncomputable def iy (s:ByteArray) (i:Int) (f:GFact) (b:List Int):Option (List Int):=Xf Tb f72 1018 Be (s,i,f,b)
noncomputable def ce (s:ByteArray) (i:Int) (f:GFact) (b:List Int):Option (List Int):=Xf Tb f72 8147 AX (s,i,f,b)
noncomputable def mY (a:GFact) (b:GFact):Option Bool:=Xf Tb f47 1 f47.ins (a,b)
noncomputable def jx (a:List GFact) (b:List GFact):Option (List GFact):=Xf Tb f17 1 f17.ins (a,b)
noncomputable def aU (a:List GFact) (b:List GFact) (i:Int) (out:List GFact):Option (List GFact):=Xf Tb f17 58 Iy (a,b,i,out)
noncomputable def iC (a:List GFact) (b:List GFact) (i:Int) (out:List GFact) (f:GFact):Option (List GFact):=Xf Tb f17 3731 Bk (a,b,i,out,f)
noncomputable def gR (a:List GFact) (b:List GFact) (i:Int) (xat:Int) (out:List GFact) (f:GFact):Option (List GFact):=Xf Tb f17 59708 xk (a,b,i,xat,out,f)
noncomputable def td (n:Int):Option Int:=Xf Tb f43 1 f43.ins n
noncomputable def yM (r:GPensionhand_Fact):Option GFact:=Xf Tb f16 1 f16.ins r
noncomputable def fQ (xfrom:Int) (to:Int) (r:GPensionhand_Fact) (t2:GFact) (f:GFact):Option GFact:=Xf Tb f16 127 CZ (xfrom,to,r,t2,f)
noncomputable def jO (xfrom:Int) (to:Int) (u:ByteArray) (i:Int) (r:GPensionhand_Fact) (t2:GFact) (f:GFact):Option GFact:=Xf Tb f16 2042 AB (xfrom,to,u,i,r,t2,f)
noncomputable def bV (xfrom:Int) (to:Int) (u:ByteArray) (i:Int) (r:GPensionhand_Fact) (t2:GFact) (f:GFact):Option GFact:=Xf Tb f16 16339 yA (xfrom,to,u,i,r,t2,f)
noncomputable def qy (l:List GPensionhand_Fact) (n:List Int) (dense:Bool):Option (List GFact):=Xf Tb f11 1 f11.ins (l,n,dense)
noncomputable def ji (l:List GPensionhand_Fact) (n:List Int) (dense:Bool) (i:Int) (out:List GFact):Option (List GFact):=Xf Tb f11 58 IY (l,n,dense,i,out)
noncomputable def eX (l:List GPensionhand_Fact) (n:List Int) (dense:Bool) (i:Int) (out:List GFact) (r:GPensionhand_Fact):Option (List GFact):=Xf Tb f11 7463 AV (l,n,dense,i,out,r)
noncomputable def bE (n:Int):Option ByteArray:=Xf Tb f128 1 f128.ins n
noncomputable def jZ (n:Int) (s:ByteArray):Option ByteArray:=Xf Tb f128 28 DT (n,s)
noncomputable def eR (n:Int):Option ByteArray:=Xf Tb f166 1 f166.ins n
noncomputable def kG (xfrom:ByteArray) (n:List Int) (xat:Int):Option ByteArray:=Xf Tb f129 1 f129.ins (xfrom,n,xat)
noncomputable def eD (n:List Int) (xat:Int) (years:ByteArray) (s:ByteArray):Option ByteArray:=Xf Tb f129 31 D8 (n,xat,years,s)
noncomputable def io (n:List Int) (xat:Int) (years:ByteArray) (s:ByteArray):Option ByteArray:=Xf Tb f129 127 Bo (n,xat,years,s)
noncomputable def iv (n:List Int) (xat:Int) (years:ByteArray) (s:ByteArray):Option ByteArray:=Xf Tb f129 255 A6 (n,xat,years,s)
noncomputable def gX (n:List Int) (xat:Int) (s:ByteArray):Option ByteArray:=Xf Tb f129 8191 yh (n,xat,s)
noncomputable def gw (n:List Int) (xat:Int) (s:ByteArray):Option ByteArray:=Xf Tb f129 65535 uo (n,xat,s)
noncomputable def xf (state:Int) (n:List Int):Option ByteArray:=Xf Tb f82 1 f82.ins (state,n)
noncomputable def lQ (state:Int) (n:List Int) (s:ByteArray):Option ByteArray:=Xf Tb f82 31 Hy (state,n,s)
noncomputable def ES (s:ByteArray) (xat:Int):Option Int:=Xf Tb f220 1 f220.ins (s,xat)
noncomputable def fA (s:ByteArray) (xat:Int) (comment:Bool):Option Int:=Xf Tb f220 28 DH (s,xat,comment)
noncomputable def jB (c:Int):Option Bool:=Xf Tb f221 1 f221.ins c
noncomputable def jc (c:Int):Option Bool:=Xf Tb f223 1 f223.ins c
noncomputable def uJ (s:ByteArray) (xat:Int) (point:Bool):Option Int:=Xf Tb f222 1 f222.ins (s,xat,point)
noncomputable def f9 (s:ByteArray) (xat:Int) (point:Bool) (n:Int):Option Int:=Xf Tb f222 28 DI (s,xat,point,n)
noncomputable def pM (s:ByteArray):Option (ByteArray × ByteArray × Int × Bool):=Xf Tb f200 1 f200.ins s
noncomputable def iR (s:ByteArray) (dim:Int):Option (ByteArray × ByteArray × Int × Bool):=Xf Tb f200 15 EC (s,dim)
noncomputable def ig (s:ByteArray) (dim:Int) (xat:Int) (i:Int):Option (ByteArray × ByteArray × Int × Bool):=Xf Tb f200 250 A3 (s,dim,xat,i)
noncomputable def jN (dim:Int) (a:ByteArray) (b:ByteArray):Option (ByteArray × ByteArray × Int × Bool):=Xf Tb f200 255 A5 (dim,a,b)
noncomputable def jh (dim:Int) (a:ByteArray) (b:ByteArray) (i:Int):Option (ByteArray × ByteArray × Int × Bool):=Xf Tb f200 2042 xP (dim,a,b,i)
noncomputable def mq (s:ByteArray):Option (Int × Bool):=Xf Tb f227 1 f227.ins s
noncomputable def kQ (s:ByteArray) (n:Int) (i:Int):Option (Int × Bool):=Xf Tb f227 58 Ez (s,n,i)
noncomputable def yx (year:Int):Option Bool:=Xf Tb f254 1 f254.ins year
noncomputable def od (year:Int) (month:Int):Option Int:=Xf Tb f244 1 f244.ins (year,month)
noncomputable def ui (month:Int):Option Int:=Xf Tb f245 1 f245.ins month
noncomputable def kZ (month:Int) (n:Int) (m:Int):Option Int:=Xf Tb f245 58 C2 (month,n,m)
noncomputable def AU (year:Int) (month:Int) (dom:Int):Option (Int × Bool):=Xf Tb f228 1 f228.ins (year,month,dom)
noncomputable def lH (s:ByteArray):Option (Int × Bool):=Xf Tb f202 1 f202.ins s
noncomputable def xl (s:ByteArray) (xat:Int):Option Int:=Xf Tb f224 1 f224.ins (s,xat)
noncomputable def mR (s:ByteArray) (xat:Int):Option Int:=Xf Tb f224 7 IU (s,xat)
noncomputable def be (t29:Bool):Option Int:=Xf Tb f224 117 Am t29
noncomputable def yC (s:ByteArray) (xat:Int):Option (GToken × Int × Int):=Xf Tb f197 1 f197.ins (s,xat)
noncomputable def dG (s:ByteArray) (xat:Int) (kind:Int) (n:Int) (ok:Bool) (t4:GToken):Option (GToken × Int × Int):=Xf Tb f197 127 An (s,xat,kind,n,ok,t4)
noncomputable def AH (s:ByteArray):Option (List GToken × Int × Int):=Xf Tb f156 1 f156.ins s
noncomputable def mQ (s:ByteArray) (xat:Int) (out:List GToken):Option (List GToken × Int × Int):=Xf Tb f156 62 DG (s,xat,out)
noncomputable def um (s:ByteArray):Option (Bool × Int × Int × Int × Int × GPensionref5_reader):=Xf Tb f120 1 f120.ins s
noncomputable def eH (r:GPensionref5_reader) (s:ByteArray):Option Bool:=Xf Tb f161 1 f161.ins (r,s)
noncomputable def aL (s:ByteArray) (r:GPensionref5_reader):Option (Bool × GPensionref5_reader):=Xf Tb f124 1 f124.ins (s,r)
noncomputable def aV (r:GPensionref5_reader):Option GPensionref5_reader:=Xf Tb f157 1 f157.ins r
noncomputable def ay (s:ByteArray) (r:GPensionref5_reader):Option GPensionref5_reader:=Xf Tb f121 1 f121.ins (s,r)
noncomputable def cV (r:GPensionref5_reader) (k:Int):Option Bool:=Xf Tb f158 1 f158.ins (r,k)
noncomputable def sR (s:ByteArray):Option Bool:=Xf Tb f198 1 f198.ins s
noncomputable def fh (s:ByteArray) (i:Int):Option Bool:=Xf Tb f198 26 EH (s,i)
noncomputable def qZ (s:ByteArray):Option Bool:=Xf Tb f199 1 f199.ins s
noncomputable def ax (t4:Bool):Option Bool:=Xf Tb f199 53 Ej t4
noncomputable def jy (s:ByteArray):Option Bool:=Xf Tb f159 1 f159.ins s
noncomputable def ga (r:GPensionref5_reader):Option (ByteArray × GPensionref5_reader):=Xf Tb f122 1 f122.ins r
noncomputable def l9 (n:Int):Option Int:=Xf Tb f226 1 f226.ins n
noncomputable def qJ (x:Int):Option Int:=Xf Tb f255 1 f255.ins x
noncomputable def mD (hi:Int) (lo:Int) (y:Int):Option (Int × Int):=Xf Tb f253 1 f253.ins (hi,lo,y)
noncomputable def oT (hi:Int) (lo:Int) (y:Int):Option (Int × Int):=Xf Tb f253 7 HK (hi,lo,y)
noncomputable def ng (hi:Int) (lo:Int) (y:Int):Option (Int × Int):=Xf Tb f253 15 Eu (hi,lo,y)
noncomputable def rC (y:Int) (s:Int) (yn1:Int) (yn0:Int) (un32:Int) (un1:Int) (un0:Int) (q1:Int) (rhat:Int):Option (Int × Int):=Xf Tb f253 131068 zW (y,s,yn1,yn0,un32,un1,un0,q1,rhat)
noncomputable def kO (w:GPensionref1_wide) (d:Int):Option (GPensionref1_wide × Int):=Xf Tb f242 1 f242.ins (w,d)
noncomputable def Ap (a:Int) (b:Int):Option Int:=Xf Tb f243 1 f243.ins (a,b)
noncomputable def mr (a:Int) (b:Int):Option Int:=Xf Tb f243 12 Ee (a,b)
noncomputable def tg (negative:Bool) (n:GPensionref1_wide) (d:Int):Option (GFraction × Int):=Xf Tb f225 1 f225.ins (negative,n,d)
noncomputable def k7 (num:Int) (den:Int):Option (GFraction × Int):=Xf Tb f201 1 f201.ins (num,den)
noncomputable def km (text:ByteArray):Option (GFraction × Int × Bool):=Xf Tb f160 1 f160.ins text
noncomputable def fG (a:ByteArray) (b:ByteArray) (dim:Int) (num:Int) (den:Int) (i:Int) (t2:GFraction):Option (GFraction × Int × Bool):=Xf Tb f160 250 AL (a,b,dim,num,den,i,t2)
noncomputable def dj (least:Int) (most:Int) (r:GPensionref5_reader):Option (Int × GPensionref5_reader):=Xf Tb f123 1 f123.ins (least,most,r)
noncomputable def BN (s:ByteArray):Option Int:=Xf Tb f162 1 f162.ins s
noncomputable def sk (s:ByteArray):Option Int:=Xf Tb f203 1 f203.ins s
noncomputable def j9 (s:ByteArray):Option Int:=Xf Tb f204 1 f204.ins s
noncomputable def kx (s:ByteArray):Option Int:=Xf Tb f205 1 f205.ins s
noncomputable def fP (what:Int) (r:GPensionref5_reader):Option (Int × GPensionref5_reader):=Xf Tb f163 1 f163.ins (what,r)
noncomputable def rT (op:Int):Option Int:=Xf Tb f250 1 f250.ins op
noncomputable def fY (op:Int) (r:GPensionref5_reader):Option (GExpr × GPensionref5_reader):=Xf Tb f246 1 f246.ins (op,r)
noncomputable def kr (r:GPensionref5_reader):Option (GExpr × GPensionref5_reader):=Xf Tb f229 1 f229.ins r
noncomputable def ub (op:Int):Option Int:=Xf Tb f247 1 f247.ins op
noncomputable def cJ (t3:Int) (t12:Bool):Option Int:=Xf Tb f247 13823 uz (t3,t12)
noncomputable def sX (op:Int):Option ByteArray:=Xf Tb f248 1 f248.ins op
noncomputable def ki (r:GPensionref5_reader) (n:Int):Option Int:=Xf Tb f230 1 f230.ins (r,n)
noncomputable def dx (r:GPensionref5_reader) (n:Int) (op:Int):Option Int:=Xf Tb f230 26 Du (r,n,op)
noncomputable def aB (n:Int) (r:GPensionref5_reader):Option (GExpr × GPensionref5_reader):=Xf Tb f206 1 f206.ins (n,r)
noncomputable def fq (n:Int) (r:GPensionref5_reader) (Op:Int) (Value:GFraction) (Dim:Int) (Name:ByteArray) (Op2:Int) (Value2:GFraction) (Dim2:Int) (Name2:ByteArray) (Args:List GExpr):Option (GExpr × GPensionref5_reader):=Xf Tb f206 124 AG (n,r,Op,Value,Dim,Name,Op2,Value2,Dim2,Name2,Args)
noncomputable def ky (r:GPensionref5_reader) (From:Int) (Rounding:GRounding) (Credits:List GCredit) (Series:List GIndex) (Lets:List GLet) (Grants:List GGrant) (Reduces:List GReduce):Option (GPensionref5_reader × Int × GRounding × List GCredit × List GIndex × List GLet × List GGrant × List GReduce):=Xf Tb gT 1 gT.ins (r,From,Rounding,Credits,Series,Lets,Grants,Reduces)
noncomputable def bK (r:GPensionref5_reader) (From:Int) (Rounding:GRounding) (Credits:List GCredit) (Series:List GIndex) (Lets:List GLet) (Grants:List GGrant) (Reduces:List GReduce):Option (GPensionref5_reader × Int × GRounding × List GCredit × List GIndex × List GLet × List GGrant × List GReduce):=Xf Tb gT 3 Bh (r,From,Rounding,Credits,Series,Lets,Grants,Reduces)
noncomputable def eL (r:GPensionref5_reader) (From:Int) (Rounding:GRounding) (c:GCredit) (Credits:List GCredit) (Series:List GIndex) (Lets:List GLet) (Grants:List GGrant) (Reduces:List GReduce):Option (GPensionref5_reader × Int × GRounding × List GCredit × List GIndex × List GLet × List GGrant × List GReduce):=Xf Tb gT 75 xx (r,From,Rounding,c,Credits,Series,Lets,Grants,Reduces)
noncomputable def di (r:GPensionref5_reader) (From:Int) (Rounding:GRounding) (x:GIndex) (Credits:List GCredit) (Series:List GIndex) (Lets:List GLet) (Grants:List GGrant) (Reduces:List GReduce):Option (GPensionref5_reader × Int × GRounding × List GCredit × List GIndex × List GLet × List GGrant × List GReduce):=Xf Tb gT 315 uv (r,From,Rounding,x,Credits,Series,Lets,Grants,Reduces)
noncomputable def ed (r:GPensionref5_reader) (From:Int) (Rounding:GRounding) (x:GIndex) (Credits:List GCredit) (Series:List GIndex) (Lets:List GLet) (Grants:List GGrant) (Reduces:List GReduce):Option (GPensionref5_reader × Int × GRounding × List GCredit × List GIndex × List GLet × List GGrant × List GReduce):=Xf Tb gT 631 vU (r,From,Rounding,x,Credits,Series,Lets,Grants,Reduces)
noncomputable def gu (r:GPensionref5_reader):Option (GVersion × GPensionref5_reader):=Xf Tb f125 1 f125.ins r
noncomputable def eh (r:GPensionref5_reader) (From:Int) (Rounding:GRounding) (From2:Int) (Rounding2:GRounding):Option (GVersion × GPensionref5_reader):=Xf Tb f125 31 C5 (r,From,Rounding,From2,Rounding2)
noncomputable def dH (r:GPensionref5_reader) (From:Int) (Rounding:GRounding) (From2:Int) (Rounding2:GRounding) (Credits:List GCredit) (Series:List GIndex) (Lets:List GLet) (Grants:List GGrant) (Reduces:List GReduce):Option (GVersion × GPensionref5_reader):=Xf Tb f125 4092 yr (r,From,Rounding,From2,Rounding2,Credits,Series,Lets,Grants,Reduces)
noncomputable def iu (r:GPensionref5_reader):Option Int:=Xf Tb f126 1 f126.ins r
noncomputable def wu (day:Int):Option Bool:=Xf Tb f83 1 f83.ins day
noncomputable def oB (r:GRounding):Option Bool:=Xf Tb f207 1 f207.ins r
noncomputable def lA (n:Int) (of:Int):Option ByteArray:=Xf Tb f208 1 f208.ins (n,of)
noncomputable def bQ (n:Int) (of:Int) (i:Int) (l:List ByteArray):Option ByteArray:=Xf Tb f208 58 Dk (n,of,i,l)
noncomputable def gK (f:GFraction):Option Bool:=Xf Tb f231 1 f231.ins f
noncomputable def lF (n:Int) (least:Int):Option ByteArray:=Xf Tb f249 1 f249.ins (n,least)
noncomputable def jQ (n:Int) (least:Int) (s:ByteArray):Option ByteArray:=Xf Tb f249 28 EJ (n,least,s)
noncomputable def jF (a:GFraction):Option ByteArray:=Xf Tb f232 1 f232.ins a
noncomputable def gB (s:ByteArray) (a:GFraction):Option ByteArray:=Xf Tb f232 31 Ek (s,a)
noncomputable def hU (value:GFraction) (dim:Int):Option (ByteArray × Bool):=Xf Tb f209 1 f209.ins (value,dim)
noncomputable def cZ (dim:Int) (s:ByteArray) (rest:Int) (k:Int):Option (ByteArray × Bool):=Xf Tb f209 2042 xY (dim,s,rest,k)
noncomputable def pE (e:GExpr):Option Int:=Xf Tb f233 1 f233.ins e
noncomputable def kY (n:Int) (i:Int) (Op:Int) (Value:GFraction) (Dim:Int) (Name:ByteArray) (Args:List GExpr):Option Int:=Xf Tb f233 58 De (n,i,Op,Value,Dim,Name,Args)
noncomputable def sj (e:GExpr):Option Int:=Xf Tb f234 1 f234.ins e
noncomputable def lR (n:Int) (i:Int) (Op:Int) (Value:GFraction) (Dim:Int) (Name:ByteArray) (Args:List GExpr):Option Int:=Xf Tb f234 58 El (n,i,Op,Value,Dim,Name,Args)
noncomputable def ol (e:GExpr):Option Bool:=Xf Tb f235 1 f235.ins e
noncomputable def i7 (zero:Bool) (i:Int) (Op:Int) (Value:GFraction) (Dim:Int) (Name:ByteArray) (Args:List GExpr):Option Bool:=Xf Tb f235 250 A8 (zero,i,Op,Value,Dim,Name,Args)
noncomputable def fR (e:GExpr):Option Bool:=Xf Tb f210 1 f210.ins e
noncomputable def ld (v:GVersion):Option Bool:=Xf Tb f165 1 f165.ins v
noncomputable def fm (i:Int) (From:Int) (Rounding:GRounding) (Credits:List GCredit) (Series:List GIndex) (Lets:List GLet) (Grants:List GGrant) (Reduces:List GReduce):Option Bool:=Xf Tb f165 58 Dy (i,From,Rounding,Credits,Series,Lets,Grants,Reduces)
noncomputable def eP (i:Int) (From:Int) (Rounding:GRounding) (Credits:List GCredit) (Series:List GIndex) (Lets:List GLet) (Grants:List GGrant) (Reduces:List GReduce):Option Bool:=Xf Tb f165 122 Bp (i,From,Rounding,Credits,Series,Lets,Grants,Reduces)
noncomputable def eM (i:Int) (From:Int) (Rounding:GRounding) (Credits:List GCredit) (Series:List GIndex) (Lets:List GLet) (Grants:List GGrant) (Reduces:List GReduce):Option Bool:=Xf Tb f165 250 Ao (i,From,Rounding,Credits,Series,Lets,Grants,Reduces)
noncomputable def eJ (i:Int) (From:Int) (Rounding:GRounding) (Credits:List GCredit) (Series:List GIndex) (Lets:List GLet) (Grants:List GGrant) (Reduces:List GReduce):Option Bool:=Xf Tb f165 506 AQ (i,From,Rounding,Credits,Series,Lets,Grants,Reduces)
noncomputable def ee (i:Int) (From:Int) (Rounding:GRounding) (Credits:List GCredit) (Series:List GIndex) (Lets:List GLet) (Grants:List GGrant) (Reduces:List GReduce):Option Bool:=Xf Tb f165 1018 xR (i,From,Rounding,Credits,Series,Lets,Grants,Reduces)
noncomputable def mt (x:GStatute):Option Bool:=Xf Tb f127 1 f127.ins x
noncomputable def kJ (i:Int) (Name:ByteArray) (Currency:Int) (Versions:List GVersion):Option Bool:=Xf Tb f127 58 Ev (i,Name,Currency,Versions)
noncomputable def ug (s:ByteArray):Option (GStatute × Int × Int):=Xf Tb f81 1 f81.ins s
noncomputable def eC (first:Bool) (Name:ByteArray) (Currency:Int) (r:GPensionref5_reader) (Name2:ByteArray) (Currency2:Int) (Versions:List GVersion):Option (GStatute × Int × Int):=Xf Tb f81 4090 As (first,Name,Currency,r,Name2,Currency2,Versions)
noncomputable def ya (n:List Int):Option (List GState × List GRules × List GRate):=Xf Tb f50 1 f50.ins n
noncomputable def jr (n:List Int) (s:Int) (States:List GState) (Rates:List GRate):Option (List GState × List GRules × List GRate):=Xf Tb f50 58 Hv (n,s,States,Rates)
noncomputable def sW (n:List Int) (limit:Int):Option (List GRules):=Xf Tb f19 1 f19.ins (n,limit)
noncomputable def jf (limit:Int) (i:Int) (t:List GRules):Option (List GRules):=Xf Tb f19 234 EA (limit,i,t)
noncomputable def xV (kind:Int):Option ByteArray:=Xf Tb f137 1 f137.ins kind
noncomputable def nJ (t3:Int) (t6:Bool):Option ByteArray:=Xf Tb f137 215 AN (t3,t6)
noncomputable def gO (t3:Int) (t11:Bool):Option ByteArray:=Xf Tb f137 3455 xy (t3,t11)
noncomputable def iB (t3:Int) (t20:Bool):Option ByteArray:=Xf Tb f137 221183 sP (t3,t20)
noncomputable def ik (x:Int) (low:Int) (high:Int):Option Bool:=Xf Tb f140 1 f140.ins (x,low,high)
noncomputable def lZ (s:ByteArray) (c:Int):Option Int:=Xf Tb f238 1 f238.ins (s,c)
noncomputable def pz (s:ByteArray) (substr:ByteArray):Option Int:=Xf Tb f219 1 f219.ins (s,substr)
noncomputable def wo (s:ByteArray) (substr:ByteArray):Option Int:=Xf Tb f193 1 f193.ins (s,substr)
noncomputable def qY (s:ByteArray) (substr:ByteArray):Option Bool:=Xf Tb f139 1 f139.ins (s,substr)
noncomputable def bH (letter:ByteArray) (t1:ByteArray):Option Bool:=Xf Tb f138 1 f138.ins (letter,t1)
noncomputable def cx (used:Bool) (x:Int) (low:Int) (high:Int):Option Bool:=Xf Tb f141 1 f141.ins (used,x,low,high)
noncomputable def nB (s:GSpan):Option Bool:=Xf Tb f142 1 f142.ins s
noncomputable def uY (f:GFact):Option Bool:=Xf Tb f90 1 f90.ins f
noncomputable def fX (t89:Int) (t97:Bool) (f:GFact):Option Bool:=Xf Tb f90 2007 Au (t89,t97,f)
noncomputable def iP (f:GFact):Option Bool:=Xf Tb f61 1 f61.ins f
noncomputable def wn (l:List GFact):Option (List GFact):=Xf Tb f60 1 f60.ins l
noncomputable def ck (t8:List GFact) (t9:Int) (t10:Int) (out:List GFact):Option (List GFact):=Xf Tb f60 58 Hq (t8,t9,t10,out)
noncomputable def kI (l:List GFact):Option (List GFact):=Xf Tb f31 1 f31.ins l
noncomputable def m6 (l:List GFact) (kind:Int):Option (Int × Bool):=Xf Tb f91 1 f91.ins (l,kind)
noncomputable def cY (kind:Int) (day:Int) (ok:Bool) (t10:List GFact) (t11:Int) (t12:Int):Option (Int × Bool):=Xf Tb f91 58 G2 (kind,day,ok,t10,t11,t12)
noncomputable def qB (l:List GFact):Option (Int × Bool):=Xf Tb f63 1 f63.ins l
noncomputable def qD (l:List GFact):Option (Int × Bool):=Xf Tb f64 1 f64.ins l
noncomputable def lC (l:List GFact):Option GSpan:=Xf Tb f33 1 f33.ins l
noncomputable def sS (s:GSpan):Option GSpan:=Xf Tb f85 1 f85.ins s
noncomputable def pT (l:List GSpan):Option (List GSpan):=Xf Tb f56 1 f56.ins l
noncomputable def dD (t10:List GSpan) (t11:Int) (t12:Int) (sorted:List GSpan):Option (List GSpan):=Xf Tb f56 58 I2 (t10,t11,t12,sorted)
noncomputable def dn (t33:Int) (t34:Int) (out:List GSpan) (t32:List GSpan):Option (List GSpan):=Xf Tb f56 506 Eg (t33,t34,out,t32)
noncomputable def rP (a:List GSpan) (b:List GSpan):Option (List GSpan):=Xf Tb f62 1 f62.ins (a,b)
noncomputable def bw (i:Int) (j:Int) (a:List GSpan) (b:List GSpan) (out:List GSpan):Option (List GSpan):=Xf Tb f62 122 DR (i,j,a,b,out)
noncomputable def iO (i:Int) (j:Int) (a:List GSpan) (b:List GSpan) (out:List GSpan):Option (List GSpan):=Xf Tb f62 3915 AY (i,j,a,b,out)
noncomputable def wg (l:List GSpan) (s:GSpan):Option (List GSpan):=Xf Tb f32 1 f32.ins (l,s)
noncomputable def en (l:List GFact):Option (List GPosting):=Xf Tb f12 1 f12.ins l
noncomputable def dW (l:List GFact) (out:List GPosting) (w1s:Int) (w1l:List Int) (m2_k:List GCompetence_route) (m2_v:List (List GSpan)):Option (List GPosting):=Xf Tb f12 250 Ef (l,out,w1s,w1l,m2_k,m2_v)
noncomputable def bq (l:List GFact) (t49:Int) (t50:Int) (out:List GPosting) (r:GCompetence_route) (w2s:Int) (w2l:List Int) (t48:List GSpan) (m4_k:List GCompetence_route) (m4_v:List (List GSpan)):Option (List GPosting):=Xf Tb f12 32054 yp (l,t49,t50,out,r,w2s,w2l,t48,m4_k,m4_v)
noncomputable def kT (day:Int):Option Bool:=Xf Tb f109 1 f109.ins day
noncomputable def gF (x:Int) (high:Int):Option Bool:=Xf Tb f149 1 f149.ins (x,high)
noncomputable def qw (r:GRules):Option Bool:=Xf Tb f108 1 f108.ins r
noncomputable def dA (t28:List Int) (t29:Int) (t30:Int) (r:GRules):Option Bool:=Xf Tb f108 58 DM (t28,t29,t30,r)
noncomputable def mH (t:List GRules):Option Int:=Xf Tb f73 1 f73.ins t
noncomputable def cL (t:List GRules) (t18:List GRules) (t19:Int) (t20:Int):Option Int:=Xf Tb f73 122 DJ (t,t18,t19,t20)
noncomputable def gU (l:List GFact) (t:List GRules):Option (GCompetence_life × Bool):=Xf Tb f48 1 f48.ins (l,t)
noncomputable def fE (s:GSpan) (day:Int):Option Bool:=Xf Tb f75 1 f75.ins (s,day)
noncomputable def d9 (x:GCompetence_life) (day:Int) (limit:Int):Option (Int × Bool):=Xf Tb f76 1 f76.ins (x,day,limit)
noncomputable def dq (day:Int) (limit:Int) (t11:List GPosting) (t12:Int) (t13:Int):Option (Int × Bool):=Xf Tb f76 26 G3 (day,limit,t11,t12,t13)
noncomputable def xC (s:List Int) (v:Int):Option Int:=Xf Tb f153 1 f153.ins (s,v)
noncomputable def dz (s:List Int) (v:Int) (t7:Int) (t8:Int):Option Int:=Xf Tb f153 26 C6 (s,v,t7,t8)
noncomputable def jL (s:List Int) (v:Int):Option Bool:=Xf Tb f116 1 f116.ins (s,v)
noncomputable def bT (x:GCompetence_life) (day:Int) (kinds:List Int):Option (List GFact):=Xf Tb f112 1 f112.ins (x,day,kinds)
noncomputable def bg (day:Int) (kinds:List Int) (t11:List GFact) (t12:Int) (t13:Int) (out:List GFact):Option (List GFact):=Xf Tb f112 58 D2 (day,kinds,t11,t12,t13,out)
noncomputable def fj (x:GCompetence_life) (day:Int):Option (Int × Bool):=Xf Tb f77 1 f77.ins (x,day)
noncomputable def aZ (ok:Bool) (t15:Int) (t16:Int) (best:GFact) (t14:List GFact):Option (Int × Bool):=Xf Tb f77 58 Is (ok,t15,t16,best,t14)
noncomputable def qC (s:GSpan) (t1:Int):Option Bool:=Xf Tb f155 1 f155.ins (s,t1)
noncomputable def qI (s:List GSpan) (f0:Int):Option Int:=Xf Tb f196 1 f196.ins (s,f0)
noncomputable def bU (s:List GSpan) (f0:Int) (t7:Int) (t8:Int):Option Int:=Xf Tb f196 26 Ea (s,f0,t7,t8)
noncomputable def nb (s:List GSpan) (f0:Int):Option Bool:=Xf Tb f154 1 f154.ins (s,f0)
noncomputable def nK (l:List GSpan) (day:Int):Option Bool:=Xf Tb f119 1 f119.ins (l,day)
noncomputable def db (l:List GFact) (day:Int):Option (Int × Bool):=Xf Tb f80 1 f80.ins (l,day)
noncomputable def aR (day:Int) (ok:Bool) (t22:List GFact) (t23:Int) (t24:Int) (best:GFact):Option (Int × Bool):=Xf Tb f80 122 DB (day,ok,t22,t23,t24,best)
noncomputable def gk (l:List GFact):Option (List Int):=Xf Tb f115 1 f115.ins l
noncomputable def bz (t6:List GFact) (t7:Int) (t8:Int) (out:List Int):Option (List Int):=Xf Tb f115 58 DP (t6,t7,t8,out)
noncomputable def da (x:GCompetence_life) (day:Int) (substantial:Int):Option (Int × Bool):=Xf Tb f78 1 f78.ins (x,day,substantial)
noncomputable def aK (day:Int) (substantial:Int) (total:Int) (t26:Int) (t27:Int) (x:GCompetence_life) (shares_k:List Int) (shares_v:List Int) (t25:List GFact):Option (Int × Bool):=Xf Tb f78 58 Jb (day,substantial,total,t26,t27,x,shares_k,shares_v,t25)
noncomputable def aA (best:Int) (t118:Int) (t119:Int) (shares_k:List Int) (shares_v:List Int) (t117:List Int):Option (Int × Bool):=Xf Tb f78 65530 xj (best,t118,t119,shares_k,shares_v,t117)
noncomputable def xM (x:Int):Option Bool:=Xf Tb f67 1 f67.ins x
noncomputable def Ad (x:Int) (y:Int):Option Int:=Xf Tb f37 1 f37.ins (x,y)
noncomputable def fK (a:GFact) (b:GFact):Option Int:=Xf Tb f118 1 f118.ins (a,b)
noncomputable def tJ (x:List GFact):Option GFact:=Xf Tb f117 1 f117.ins x
noncomputable def ek (x:List GFact) (i:Int) (t4:GFact) (m:GFact):Option GFact:=Xf Tb f117 122 AR (x,i,t4,m)
noncomputable def gC (x:GCompetence_life) (day:Int):Option (Int × Bool):=Xf Tb f79 1 f79.ins (x,day)
noncomputable def eo (x:GCompetence_life) (day:Int):Option (Int × Int):=Xf Tb f49 1 f49.ins (x,day)
noncomputable def lN (l:List GFact) (t:List GRules) (day:Int):Option (Int × Int):=Xf Tb f18 1 f18.ins (l,t,day)
noncomputable def om:Option Bool:=Xf Tb f14 1 f14.ins ()
noncomputable def fI (x:GCompetence_life):Option (List Int):=Xf Tb f58 1 f58.ins x
noncomputable def bj (t18:List GFact) (t19:Int) (t20:Int) (x:GCompetence_life) (out:List Int):Option (List Int):=Xf Tb f58 58 H1 (t18,t19,t20,x,out)
noncomputable def bc (t35:List GRules) (t36:Int) (t37:Int) (x:GCompetence_life) (out:List Int):Option (List Int):=Xf Tb f58 122 Ex (t35,t36,t37,x,out)
noncomputable def bi (t35:List GRules) (t36:Int) (t37:Int) (t47:List GPosting) (t48:Int) (t49:Int) (x:GCompetence_life) (out:List Int) (r:GRules):Option (List Int):=Xf Tb f58 62670 yo (t35,t36,t37,t47,t48,t49,x,out,r)
noncomputable def dC (l:List GFact) (t:List GRules):Option (List GSegment):=Xf Tb f28 1 f28.ins (l,t)
noncomputable def cM (i:Int) (x:GCompetence_life) (out:List GSegment) (days:List Int):Option (List GSegment):=Xf Tb f28 506 DN (i,x,out,days)
noncomputable def gP (a:List GSegment) (b:List GSegment):Option Bool:=Xf Tb f27 1 f27.ins (a,b)
noncomputable def bW (a:List GSegment) (b:List GSegment) (i:Int):Option Bool:=Xf Tb f27 58 HH (a,b,i)
noncomputable def qU (l:List GPensionhand_Fact) (n:List Int) (dense:Bool) (limit:Int) (order:List Int):Option Bool:=Xf Tb f10 1 f10.ins (l,n,dense,limit,order)
noncomputable def fx (order:List Int) (i:Int) (a:List GFact) (t:List GRules) (b:List GFact):Option Bool:=Xf Tb f10 250 Dh (order,i,a,t,b)
end Go.Ax
