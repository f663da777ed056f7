/- Texts of this claim's proof: WTy, WDt, WSl, WTr1, WTr2, WTr3, WEv, WMsg, WCyc. No condition. -/
import Derived.Test.YtjblppbkhgihoaaGreatDoorM3
import Derived.Test.YtjblppbkhgihoaaGreatDoorProg
import Derived.Test.YtjblppbkhgihoaaGreatDoorM4
section
namespace Go.AL
open Go Go.RowKit
@[go_sem] theorem ti1:tinfo Proofs.Tryz.prog 1=some ⟨.func,1,8,.v .nilFunc⟩:=by kernel_rfl
@[go_sem] theorem ti2:tinfo Proofs.Tryz.prog 2=some ⟨.int .i64,1,8,.v (.int .i64 0)⟩:=by kernel_rfl
@[go_sem] theorem ti3:tinfo Proofs.Tryz.prog 3=some ⟨.int .i64,1,8,.v (.int .i64 0)⟩:=by kernel_rfl
@[go_sem] theorem ti4:tinfo Proofs.Tryz.prog 4=some ⟨.bool,1,1,.v (.bool false)⟩:=by kernel_rfl
@[go_sem] theorem ti5:tinfo Proofs.Tryz.prog 5=some ⟨.int .u8,1,1,.v (.int .u8 0)⟩:=by kernel_rfl
@[go_sem] theorem ti6:tinfo Proofs.Tryz.prog 6=some ⟨.int .u8,1,1,.v (.int .u8 0)⟩:=by kernel_rfl
@[go_sem] theorem ti7:tinfo Proofs.Tryz.prog 7=some ⟨.struct [(0,2),(1,3),(2,4),(3,6)],4,24,.agg [.v (.int .i64 0),.v (.int .i64 0),.v (.bool false),.v (.int .u8 0)]⟩:=by kernel_rfl
@[go_sem] theorem ti8:tinfo Proofs.Tryz.prog 8=some ⟨.struct [(0,2),(1,3),(2,4),(3,6)],4,24,.agg [.v (.int .i64 0),.v (.int .i64 0),.v (.bool false),.v (.int .u8 0)]⟩:=by kernel_rfl
@[go_sem] theorem ti9:tinfo Proofs.Tryz.prog 9=some ⟨.str,1,16,.v (.string ⟨#[]⟩)⟩:=by kernel_rfl
@[go_sem] theorem ti10:tinfo Proofs.Tryz.prog 10=some ⟨.str,1,16,.v (.string ⟨#[]⟩)⟩:=by kernel_rfl
@[go_sem] theorem ti11:tinfo Proofs.Tryz.prog 11=some ⟨.str,1,16,.v (.string ⟨#[]⟩)⟩:=by kernel_rfl
@[go_sem] theorem ti12:tinfo Proofs.Tryz.prog 12=some ⟨.int .u64,1,8,.v (.int .u64 0)⟩:=by kernel_rfl
@[go_sem] theorem ti13:tinfo Proofs.Tryz.prog 13=some ⟨.struct [(0,9),(1,12)],2,24,.agg [.v (.string ⟨#[]⟩),.v (.int .u64 0)]⟩:=by kernel_rfl
@[go_sem] theorem ti14:tinfo Proofs.Tryz.prog 14=some ⟨.struct [(0,9),(1,12)],2,24,.agg [.v (.string ⟨#[]⟩),.v (.int .u64 0)]⟩:=by kernel_rfl
@[go_sem] theorem ti15:tinfo Proofs.Tryz.prog 15=some ⟨.ptr 216,1,8,.v (.pointer none)⟩:=by kernel_rfl
@[go_sem] theorem ti16:tinfo Proofs.Tryz.prog 16=some ⟨.ptr 219,1,8,.v (.pointer none)⟩:=by kernel_rfl
@[go_sem] theorem ti17:tinfo Proofs.Tryz.prog 17=some ⟨.ptr 228,1,8,.v (.pointer none)⟩:=by kernel_rfl
@[go_sem] theorem ti18:tinfo Proofs.Tryz.prog 18=some ⟨.struct [(0,17)],1,8,.agg [.v (.pointer none)]⟩:=by kernel_rfl
@[go_sem] theorem ti19:tinfo Proofs.Tryz.prog 19=some ⟨.struct [(0,17)],1,8,.agg [.v (.pointer none)]⟩:=by kernel_rfl
@[go_sem] theorem ti21:tinfo Proofs.Tryz.prog 21=some ⟨.int .i32,1,4,.v (.int .i32 0)⟩:=by kernel_rfl
@[go_sem] theorem ti22:tinfo Proofs.Tryz.prog 22=some ⟨.slice 43,1,24,.v (.slice none 0 0)⟩:=by kernel_rfl
@[go_sem] theorem ti23:tinfo Proofs.Tryz.prog 23=some ⟨.struct [(0,22)],1,24,.agg [.v (.slice none 0 0)]⟩:=by kernel_rfl
@[go_sem] theorem ti24:tinfo Proofs.Tryz.prog 24=some ⟨.struct [(0,22)],1,24,.agg [.v (.slice none 0 0)]⟩:=by kernel_rfl
@[go_sem] theorem ti25:tinfo Proofs.Tryz.prog 25=some ⟨.func,1,8,.v .nilFunc⟩:=by kernel_rfl
@[go_sem] theorem ti26:tinfo Proofs.Tryz.prog 26=some ⟨.func,1,8,.v .nilFunc⟩:=by kernel_rfl
@[go_sem] theorem ti27:tinfo Proofs.Tryz.prog 27=some ⟨.func,1,8,.v .nilFunc⟩:=by kernel_rfl
@[go_sem] theorem ti28:tinfo Proofs.Tryz.prog 28=some ⟨.int .i64,1,8,.v (.int .i64 0)⟩:=by kernel_rfl
@[go_sem] theorem ti30:tinfo Proofs.Tryz.prog 30=some ⟨.func,1,8,.v .nilFunc⟩:=by kernel_rfl
@[go_sem] theorem ti31:tinfo Proofs.Tryz.prog 31=some ⟨.slice 75,1,24,.v (.slice none 0 0)⟩:=by kernel_rfl
@[go_sem] theorem ti32:tinfo Proofs.Tryz.prog 32=some ⟨.struct [(0,31)],1,24,.agg [.v (.slice none 0 0)]⟩:=by kernel_rfl
@[go_sem] theorem ti33:tinfo Proofs.Tryz.prog 33=some ⟨.struct [(0,31)],1,24,.agg [.v (.slice none 0 0)]⟩:=by kernel_rfl
@[go_sem] theorem ti35:tinfo Proofs.Tryz.prog 35=some ⟨.func,1,8,.v .nilFunc⟩:=by kernel_rfl
@[go_sem] theorem ti36:tinfo Proofs.Tryz.prog 36=some ⟨.func,1,8,.v .nilFunc⟩:=by kernel_rfl
@[go_sem] theorem ti37:tinfo Proofs.Tryz.prog 37=some ⟨.slice 119,1,24,.v (.slice none 0 0)⟩:=by kernel_rfl
@[go_sem] theorem ti38:tinfo Proofs.Tryz.prog 38=some ⟨.struct [(0,3),(1,3),(2,3),(3,3),(4,37)],5,56,.agg [.v (.int .i64 0),.v (.int .i64 0),.v (.int .i64 0),.v (.int .i64 0),.v (.slice none 0 0)]⟩:=by kernel_rfl
@[go_sem] theorem ti39:tinfo Proofs.Tryz.prog 39=some ⟨.struct [(0,3),(1,3),(2,3),(3,3),(4,37)],5,56,.agg [.v (.int .i64 0),.v (.int .i64 0),.v (.int .i64 0),.v (.int .i64 0),.v (.slice none 0 0)]⟩:=by kernel_rfl
@[go_sem] theorem ti40:tinfo Proofs.Tryz.prog 40=some ⟨.slice 39,1,24,.v (.slice none 0 0)⟩:=by kernel_rfl
@[go_sem] theorem ti41:tinfo Proofs.Tryz.prog 41=some ⟨.slice 116,1,24,.v (.slice none 0 0)⟩:=by kernel_rfl
@[go_sem] theorem ti42:tinfo Proofs.Tryz.prog 42=some ⟨.struct [(0,9),(1,41),(2,40)],3,64,.agg [.v (.string ⟨#[]⟩),.v (.slice none 0 0),.v (.slice none 0 0)]⟩:=by kernel_rfl
@[go_sem] theorem ti43:tinfo Proofs.Tryz.prog 43=some ⟨.struct [(0,9),(1,41),(2,40)],3,64,.agg [.v (.string ⟨#[]⟩),.v (.slice none 0 0),.v (.slice none 0 0)]⟩:=by kernel_rfl
@[go_sem] theorem ti44:tinfo Proofs.Tryz.prog 44=some ⟨.slice 47,1,24,.v (.slice none 0 0)⟩:=by kernel_rfl
@[go_sem] theorem ti46:tinfo Proofs.Tryz.prog 46=some ⟨.func,1,8,.v .nilFunc⟩:=by kernel_rfl
@[go_sem] theorem ti47:tinfo Proofs.Tryz.prog 47=some ⟨.slice 3,1,24,.v (.slice none 0 0)⟩:=by kernel_rfl
@[go_sem] theorem ti49:tinfo Proofs.Tryz.prog 49=some ⟨.func,1,8,.v .nilFunc⟩:=by kernel_rfl
@[go_sem] theorem ti50:tinfo Proofs.Tryz.prog 50=some ⟨.func,1,8,.v .nilFunc⟩:=by kernel_rfl
@[go_sem] theorem ti51:tinfo Proofs.Tryz.prog 51=some ⟨.func,1,8,.v .nilFunc⟩:=by kernel_rfl
@[go_sem] theorem ti52:tinfo Proofs.Tryz.prog 52=some ⟨.func,1,8,.v .nilFunc⟩:=by kernel_rfl
@[go_sem] theorem ti53:tinfo Proofs.Tryz.prog 53=some ⟨.struct [(0,3),(1,3)],2,16,.agg [.v (.int .i64 0),.v (.int .i64 0)]⟩:=by kernel_rfl
@[go_sem] theorem ti54:tinfo Proofs.Tryz.prog 54=some ⟨.struct [(0,3),(1,3)],2,16,.agg [.v (.int .i64 0),.v (.int .i64 0)]⟩:=by kernel_rfl
@[go_sem] theorem ti56:tinfo Proofs.Tryz.prog 56=some ⟨.func,1,8,.v .nilFunc⟩:=by kernel_rfl
@[go_sem] theorem ti57:tinfo Proofs.Tryz.prog 57=some ⟨.func,1,8,.v .nilFunc⟩:=by kernel_rfl
@[go_sem] theorem ti58:tinfo Proofs.Tryz.prog 58=some ⟨.ptr 97,1,8,.v (.pointer none)⟩:=by kernel_rfl
@[go_sem] theorem ti59:tinfo Proofs.Tryz.prog 59=some ⟨.func,1,8,.v .nilFunc⟩:=by kernel_rfl
@[go_sem] theorem ti60:tinfo Proofs.Tryz.prog 60=some ⟨.func,1,8,.v .nilFunc⟩:=by kernel_rfl
@[go_sem] theorem ti61:tinfo Proofs.Tryz.prog 61=some ⟨.func,1,8,.v .nilFunc⟩:=by kernel_rfl
@[go_sem] theorem ti62:tinfo Proofs.Tryz.prog 62=some ⟨.map 9 3,1,8,.v (.map none)⟩:=by kernel_rfl
@[go_sem] theorem ti63:tinfo Proofs.Tryz.prog 63=some ⟨.func,1,8,.v .nilFunc⟩:=by kernel_rfl
@[go_sem] theorem ti64:tinfo Proofs.Tryz.prog 64=some ⟨.func,1,8,.v .nilFunc⟩:=by kernel_rfl
@[go_sem] theorem ti65:tinfo Proofs.Tryz.prog 65=some ⟨.func,1,8,.v .nilFunc⟩:=by kernel_rfl
@[go_sem] theorem ti66:tinfo Proofs.Tryz.prog 66=some ⟨.map 3 54,1,8,.v (.map none)⟩:=by kernel_rfl
@[go_sem] theorem ti67:tinfo Proofs.Tryz.prog 67=some ⟨.struct [(0,24),(1,66),(2,66)],3,40,.agg [.v (.slice none 0 0),.v (.map none),.v (.map none)]⟩:=by kernel_rfl
@[go_sem] theorem ti68:tinfo Proofs.Tryz.prog 68=some ⟨.struct [(0,24),(1,66),(2,66)],3,40,.agg [.v (.slice none 0 0),.v (.map none),.v (.map none)]⟩:=by kernel_rfl
@[go_sem] theorem ti69:tinfo Proofs.Tryz.prog 69=some ⟨.func,1,8,.v .nilFunc⟩:=by kernel_rfl
@[go_sem] theorem ti70:tinfo Proofs.Tryz.prog 70=some ⟨.slice 54,1,24,.v (.slice none 0 0)⟩:=by kernel_rfl
@[go_sem] theorem ti71:tinfo Proofs.Tryz.prog 71=some ⟨.func,1,8,.v .nilFunc⟩:=by kernel_rfl
@[go_sem] theorem ti72:tinfo Proofs.Tryz.prog 72=some ⟨.func,1,8,.v .nilFunc⟩:=by kernel_rfl
@[go_sem] theorem ti73:tinfo Proofs.Tryz.prog 73=some ⟨.slice 106,1,24,.v (.slice none 0 0)⟩:=by kernel_rfl
@[go_sem] theorem ti74:tinfo Proofs.Tryz.prog 74=some ⟨.struct [(0,3),(1,73)],2,32,.agg [.v (.int .i64 0),.v (.slice none 0 0)]⟩:=by kernel_rfl
@[go_sem] theorem ti75:tinfo Proofs.Tryz.prog 75=some ⟨.struct [(0,3),(1,73)],2,32,.agg [.v (.int .i64 0),.v (.slice none 0 0)]⟩:=by kernel_rfl
@[go_sem] theorem ti77:tinfo Proofs.Tryz.prog 77=some ⟨.func,1,8,.v .nilFunc⟩:=by kernel_rfl
@[go_sem] theorem ti79:tinfo Proofs.Tryz.prog 79=some ⟨.func,1,8,.v .nilFunc⟩:=by kernel_rfl
@[go_sem] theorem ti80:tinfo Proofs.Tryz.prog 80=some ⟨.map 9 4,1,8,.v (.map none)⟩:=by kernel_rfl
@[go_sem] theorem ti82:tinfo Proofs.Tryz.prog 82=some ⟨.func,1,8,.v .nilFunc⟩:=by kernel_rfl
@[go_sem] theorem ti83:tinfo Proofs.Tryz.prog 83=some ⟨.func,1,8,.v .nilFunc⟩:=by kernel_rfl
@[go_sem] theorem ti84:tinfo Proofs.Tryz.prog 84=some ⟨.func,1,8,.v .nilFunc⟩:=by kernel_rfl
@[go_sem] theorem ti85:tinfo Proofs.Tryz.prog 85=some ⟨.func,1,8,.v .nilFunc⟩:=by kernel_rfl
@[go_sem] theorem ti86:tinfo Proofs.Tryz.prog 86=some ⟨.func,1,8,.v .nilFunc⟩:=by kernel_rfl
@[go_sem] theorem ti87:tinfo Proofs.Tryz.prog 87=some ⟨.func,1,8,.v .nilFunc⟩:=by kernel_rfl
@[go_sem] theorem ti88:tinfo Proofs.Tryz.prog 88=some ⟨.func,1,8,.v .nilFunc⟩:=by kernel_rfl
@[go_sem] theorem ti89:tinfo Proofs.Tryz.prog 89=some ⟨.func,1,8,.v .nilFunc⟩:=by kernel_rfl
@[go_sem] theorem ti90:tinfo Proofs.Tryz.prog 90=some ⟨.slice 4,1,24,.v (.slice none 0 0)⟩:=by kernel_rfl
@[go_sem] theorem ti91:tinfo Proofs.Tryz.prog 91=some ⟨.slice 90,1,24,.v (.slice none 0 0)⟩:=by kernel_rfl
@[go_sem] theorem ti92:tinfo Proofs.Tryz.prog 92=some ⟨.func,1,8,.v .nilFunc⟩:=by kernel_rfl
@[go_sem] theorem ti94:tinfo Proofs.Tryz.prog 94=some ⟨.func,1,8,.v .nilFunc⟩:=by kernel_rfl
@[go_sem] theorem ti95:tinfo Proofs.Tryz.prog 95=some ⟨.slice 70,1,24,.v (.slice none 0 0)⟩:=by kernel_rfl
@[go_sem] theorem ti96:tinfo Proofs.Tryz.prog 96=some ⟨.struct [(0,24),(1,95)],2,48,.agg [.v (.slice none 0 0),.v (.slice none 0 0)]⟩:=by kernel_rfl
@[go_sem] theorem ti97:tinfo Proofs.Tryz.prog 97=some ⟨.struct [(0,24),(1,95)],2,48,.agg [.v (.slice none 0 0),.v (.slice none 0 0)]⟩:=by kernel_rfl
@[go_sem] theorem ti99:tinfo Proofs.Tryz.prog 99=some ⟨.func,1,8,.v .nilFunc⟩:=by kernel_rfl
@[go_sem] theorem ti100:tinfo Proofs.Tryz.prog 100=some ⟨.slice 5,1,24,.v (.slice none 0 0)⟩:=by kernel_rfl
@[go_sem] theorem ti101:tinfo Proofs.Tryz.prog 101=some ⟨.func,1,8,.v .nilFunc⟩:=by kernel_rfl
@[go_sem] theorem ti102:tinfo Proofs.Tryz.prog 102=some ⟨.func,1,8,.v .nilFunc⟩:=by kernel_rfl
@[go_sem] theorem ti103:tinfo Proofs.Tryz.prog 103=some ⟨.func,1,8,.v .nilFunc⟩:=by kernel_rfl
@[go_sem] theorem ti104:tinfo Proofs.Tryz.prog 104=some ⟨.func,1,8,.v .nilFunc⟩:=by kernel_rfl
@[go_sem] theorem ti105:tinfo Proofs.Tryz.prog 105=some ⟨.func,1,8,.v .nilFunc⟩:=by kernel_rfl
@[go_sem] theorem ti106:tinfo Proofs.Tryz.prog 106=some ⟨.int .u64,1,8,.v (.int .u64 0)⟩:=by kernel_rfl
@[go_sem] theorem ti108:tinfo Proofs.Tryz.prog 108=some ⟨.func,1,8,.v .nilFunc⟩:=by kernel_rfl
@[go_sem] theorem ti109:tinfo Proofs.Tryz.prog 109=some ⟨.ptr 142,1,8,.v (.pointer none)⟩:=by kernel_rfl
@[go_sem] theorem ti110:tinfo Proofs.Tryz.prog 110=some ⟨.func,1,8,.v .nilFunc⟩:=by kernel_rfl
@[go_sem] theorem ti111:tinfo Proofs.Tryz.prog 111=some ⟨.func,1,8,.v .nilFunc⟩:=by kernel_rfl
@[go_sem] theorem ti112:tinfo Proofs.Tryz.prog 112=some ⟨.func,1,8,.v .nilFunc⟩:=by kernel_rfl
@[go_sem] theorem ti113:tinfo Proofs.Tryz.prog 113=some ⟨.func,1,8,.v .nilFunc⟩:=by kernel_rfl
@[go_sem] theorem ti114:tinfo Proofs.Tryz.prog 114=some ⟨.func,1,8,.v .nilFunc⟩:=by kernel_rfl
@[go_sem] theorem ti115:tinfo Proofs.Tryz.prog 115=some ⟨.struct [(0,9),(1,3)],2,24,.agg [.v (.string ⟨#[]⟩),.v (.int .i64 0)]⟩:=by kernel_rfl
@[go_sem] theorem ti116:tinfo Proofs.Tryz.prog 116=some ⟨.struct [(0,9),(1,3)],2,24,.agg [.v (.string ⟨#[]⟩),.v (.int .i64 0)]⟩:=by kernel_rfl
@[go_sem] theorem ti117:tinfo Proofs.Tryz.prog 117=some ⟨.func,1,8,.v .nilFunc⟩:=by kernel_rfl
@[go_sem] theorem ti118:tinfo Proofs.Tryz.prog 118=some ⟨.struct [(0,3),(1,3)],2,16,.agg [.v (.int .i64 0),.v (.int .i64 0)]⟩:=by kernel_rfl
@[go_sem] theorem ti119:tinfo Proofs.Tryz.prog 119=some ⟨.struct [(0,3),(1,3)],2,16,.agg [.v (.int .i64 0),.v (.int .i64 0)]⟩:=by kernel_rfl
@[go_sem] theorem ti120:tinfo Proofs.Tryz.prog 120=some ⟨.func,1,8,.v .nilFunc⟩:=by kernel_rfl
@[go_sem] theorem ti121:tinfo Proofs.Tryz.prog 121=some ⟨.func,1,8,.v .nilFunc⟩:=by kernel_rfl
@[go_sem] theorem ti122:tinfo Proofs.Tryz.prog 122=some ⟨.func,1,8,.v .nilFunc⟩:=by kernel_rfl
@[go_sem] theorem ti123:tinfo Proofs.Tryz.prog 123=some ⟨.func,1,8,.v .nilFunc⟩:=by kernel_rfl
@[go_sem] theorem ti124:tinfo Proofs.Tryz.prog 124=some ⟨.func,1,8,.v .nilFunc⟩:=by kernel_rfl
@[go_sem] theorem ti125:tinfo Proofs.Tryz.prog 125=some ⟨.func,1,8,.v .nilFunc⟩:=by kernel_rfl
@[go_sem] theorem ti126:tinfo Proofs.Tryz.prog 126=some ⟨.func,1,8,.v .nilFunc⟩:=by kernel_rfl
@[go_sem] theorem ti127:tinfo Proofs.Tryz.prog 127=some ⟨.func,1,8,.v .nilFunc⟩:=by kernel_rfl
@[go_sem] theorem ti128:tinfo Proofs.Tryz.prog 128=some ⟨.func,1,8,.v .nilFunc⟩:=by kernel_rfl
@[go_sem] theorem ti129:tinfo Proofs.Tryz.prog 129=some ⟨.ptr 159,1,8,.v (.pointer none)⟩:=by kernel_rfl
@[go_sem] theorem ti131:tinfo Proofs.Tryz.prog 131=some ⟨.func,1,8,.v .nilFunc⟩:=by kernel_rfl
@[go_sem] theorem ti132:tinfo Proofs.Tryz.prog 132=some ⟨.func,1,8,.v .nilFunc⟩:=by kernel_rfl
@[go_sem] theorem ti133:tinfo Proofs.Tryz.prog 133=some ⟨.slice 44,1,24,.v (.slice none 0 0)⟩:=by kernel_rfl
@[go_sem] theorem ti135:tinfo Proofs.Tryz.prog 135=some ⟨.func,1,8,.v .nilFunc⟩:=by kernel_rfl
@[go_sem] theorem ti136:tinfo Proofs.Tryz.prog 136=some ⟨.func,1,8,.v .nilFunc⟩:=by kernel_rfl
@[go_sem] theorem ti137:tinfo Proofs.Tryz.prog 137=some ⟨.func,1,8,.v .nilFunc⟩:=by kernel_rfl
@[go_sem] theorem ti138:tinfo Proofs.Tryz.prog 138=some ⟨.func,1,8,.v .nilFunc⟩:=by kernel_rfl
@[go_sem] theorem ti139:tinfo Proofs.Tryz.prog 139=some ⟨.slice 9,1,24,.v (.slice none 0 0)⟩:=by kernel_rfl
@[go_sem] theorem ti140:tinfo Proofs.Tryz.prog 140=some ⟨.slice 139,1,24,.v (.slice none 0 0)⟩:=by kernel_rfl
@[go_sem] theorem ti141:tinfo Proofs.Tryz.prog 141=some ⟨.struct [(0,3),(1,44),(2,90)],3,56,.agg [.v (.int .i64 0),.v (.slice none 0 0),.v (.slice none 0 0)]⟩:=by kernel_rfl
@[go_sem] theorem ti142:tinfo Proofs.Tryz.prog 142=some ⟨.struct [(0,3),(1,44),(2,90)],3,56,.agg [.v (.int .i64 0),.v (.slice none 0 0),.v (.slice none 0 0)]⟩:=by kernel_rfl
@[go_sem] theorem ti143:tinfo Proofs.Tryz.prog 143=some ⟨.func,1,8,.v .nilFunc⟩:=by kernel_rfl
@[go_sem] theorem ti145:tinfo Proofs.Tryz.prog 145=some ⟨.func,1,8,.v .nilFunc⟩:=by kernel_rfl
@[go_sem] theorem ti146:tinfo Proofs.Tryz.prog 146=some ⟨.func,1,8,.v .nilFunc⟩:=by kernel_rfl
@[go_sem] theorem ti147:tinfo Proofs.Tryz.prog 147=some ⟨.func,1,8,.v .nilFunc⟩:=by kernel_rfl
@[go_sem] theorem ti148:tinfo Proofs.Tryz.prog 148=some ⟨.func,1,8,.v .nilFunc⟩:=by kernel_rfl
@[go_sem] theorem ti149:tinfo Proofs.Tryz.prog 149=some ⟨.func,1,8,.v .nilFunc⟩:=by kernel_rfl
@[go_sem] theorem ti150:tinfo Proofs.Tryz.prog 150=some ⟨.func,1,8,.v .nilFunc⟩:=by kernel_rfl
@[go_sem] theorem ti151:tinfo Proofs.Tryz.prog 151=some ⟨.func,1,8,.v .nilFunc⟩:=by kernel_rfl
@[go_sem] theorem ti152:tinfo Proofs.Tryz.prog 152=some ⟨.func,1,8,.v .nilFunc⟩:=by kernel_rfl
@[go_sem] theorem ti153:tinfo Proofs.Tryz.prog 153=some ⟨.func,1,8,.v .nilFunc⟩:=by kernel_rfl
@[go_sem] theorem ti154:tinfo Proofs.Tryz.prog 154=some ⟨.func,1,8,.v .nilFunc⟩:=by kernel_rfl
@[go_sem] theorem ti155:tinfo Proofs.Tryz.prog 155=some ⟨.func,1,8,.v .nilFunc⟩:=by kernel_rfl
@[go_sem] theorem ti156:tinfo Proofs.Tryz.prog 156=some ⟨.func,1,8,.v .nilFunc⟩:=by kernel_rfl
@[go_sem] theorem ti157:tinfo Proofs.Tryz.prog 157=some ⟨.struct [(0,54),(2,54)],4,32,.agg [.v (.int .i64 0),.v (.int .i64 0),.v (.int .i64 0),.v (.int .i64 0)]⟩:=by kernel_rfl
@[go_sem] theorem ti158:tinfo Proofs.Tryz.prog 158=some ⟨.arr 200 157,800,6400,.agg (zrow 800 (.v (.int .i64 0)))⟩:=by kernel_rfl
@[go_sem] theorem ti159:tinfo Proofs.Tryz.prog 159=some ⟨.arr 200 157,800,6400,.agg (zrow 800 (.v (.int .i64 0)))⟩:=by kernel_rfl
@[go_sem] theorem ti160:tinfo Proofs.Tryz.prog 160=some ⟨.func,1,8,.v .nilFunc⟩:=by kernel_rfl
@[go_sem] theorem ti161:tinfo Proofs.Tryz.prog 161=some ⟨.map 54 4,1,8,.v (.map none)⟩:=by kernel_rfl
@[go_sem] theorem ti162:tinfo Proofs.Tryz.prog 162=some ⟨.func,1,8,.v .nilFunc⟩:=by kernel_rfl
@[go_sem] theorem ti163:tinfo Proofs.Tryz.prog 163=some ⟨.struct [(0,47),(1,95)],2,48,.agg [.v (.slice none 0 0),.v (.slice none 0 0)]⟩:=by kernel_rfl
@[go_sem] theorem ti164:tinfo Proofs.Tryz.prog 164=some ⟨.struct [(0,47),(1,95)],2,48,.agg [.v (.slice none 0 0),.v (.slice none 0 0)]⟩:=by kernel_rfl
@[go_sem] theorem ti165:tinfo Proofs.Tryz.prog 165=some ⟨.func,1,8,.v .nilFunc⟩:=by kernel_rfl
@[go_sem] theorem ti166:tinfo Proofs.Tryz.prog 166=some ⟨.func,1,8,.v .nilFunc⟩:=by kernel_rfl
@[go_sem] theorem ti167:tinfo Proofs.Tryz.prog 167=some ⟨.func,1,8,.v .nilFunc⟩:=by kernel_rfl
@[go_sem] theorem ti168:tinfo Proofs.Tryz.prog 168=some ⟨.func,1,8,.v .nilFunc⟩:=by kernel_rfl
@[go_sem] theorem ti169:tinfo Proofs.Tryz.prog 169=some ⟨.func,1,8,.v .nilFunc⟩:=by kernel_rfl
@[go_sem] theorem ti170:tinfo Proofs.Tryz.prog 170=some ⟨.func,1,8,.v .nilFunc⟩:=by kernel_rfl
@[go_sem] theorem ti171:tinfo Proofs.Tryz.prog 171=some ⟨.func,1,8,.v .nilFunc⟩:=by kernel_rfl
@[go_sem] theorem ti172:tinfo Proofs.Tryz.prog 172=some ⟨.func,1,8,.v .nilFunc⟩:=by kernel_rfl
@[go_sem] theorem ti173:tinfo Proofs.Tryz.prog 173=some ⟨.func,1,8,.v .nilFunc⟩:=by kernel_rfl
@[go_sem] theorem ti174:tinfo Proofs.Tryz.prog 174=some ⟨.func,1,8,.v .nilFunc⟩:=by kernel_rfl
@[go_sem] theorem ti175:tinfo Proofs.Tryz.prog 175=some ⟨.func,1,8,.v .nilFunc⟩:=by kernel_rfl
@[go_sem] theorem ti176:tinfo Proofs.Tryz.prog 176=some ⟨.func,1,8,.v .nilFunc⟩:=by kernel_rfl
@[go_sem] theorem ti177:tinfo Proofs.Tryz.prog 177=some ⟨.func,1,8,.v .nilFunc⟩:=by kernel_rfl
@[go_sem] theorem ti178:tinfo Proofs.Tryz.prog 178=some ⟨.func,1,8,.v .nilFunc⟩:=by kernel_rfl
@[go_sem] theorem ti179:tinfo Proofs.Tryz.prog 179=some ⟨.func,1,8,.v .nilFunc⟩:=by kernel_rfl
@[go_sem] theorem ti180:tinfo Proofs.Tryz.prog 180=some ⟨.func,1,8,.v .nilFunc⟩:=by kernel_rfl
@[go_sem] theorem ti181:tinfo Proofs.Tryz.prog 181=some ⟨.func,1,8,.v .nilFunc⟩:=by kernel_rfl
@[go_sem] theorem ti182:tinfo Proofs.Tryz.prog 182=some ⟨.func,1,8,.v .nilFunc⟩:=by kernel_rfl
@[go_sem] theorem ti183:tinfo Proofs.Tryz.prog 183=some ⟨.arr 64 5,64,64,.agg (zrow 64 (.v (.int .u8 0)))⟩:=by kernel_rfl
@[go_sem] theorem ti184:tinfo Proofs.Tryz.prog 184=some ⟨.int .u64,1,8,.v (.int .u64 0)⟩:=by kernel_rfl
@[go_sem] theorem ti186:tinfo Proofs.Tryz.prog 186=some ⟨.func,1,8,.v .nilFunc⟩:=by kernel_rfl
@[go_sem] theorem ti187:tinfo Proofs.Tryz.prog 187=some ⟨.func,1,8,.v .nilFunc⟩:=by kernel_rfl
@[go_sem] theorem ti188:tinfo Proofs.Tryz.prog 188=some ⟨.func,1,8,.v .nilFunc⟩:=by kernel_rfl
@[go_sem] theorem ti189:tinfo Proofs.Tryz.prog 189=some ⟨.func,1,8,.v .nilFunc⟩:=by kernel_rfl
@[go_sem] theorem ti190:tinfo Proofs.Tryz.prog 190=some ⟨.func,1,8,.v .nilFunc⟩:=by kernel_rfl
@[go_sem] theorem ti191:tinfo Proofs.Tryz.prog 191=some ⟨.func,1,8,.v .nilFunc⟩:=by kernel_rfl
@[go_sem] theorem ti192:tinfo Proofs.Tryz.prog 192=some ⟨.func,1,8,.v .nilFunc⟩:=by kernel_rfl
@[go_sem] theorem ti193:tinfo Proofs.Tryz.prog 193=some ⟨.func,1,8,.v .nilFunc⟩:=by kernel_rfl
@[go_sem] theorem ti194:tinfo Proofs.Tryz.prog 194=some ⟨.func,1,8,.v .nilFunc⟩:=by kernel_rfl
@[go_sem] theorem ti195:tinfo Proofs.Tryz.prog 195=some ⟨.func,1,8,.v .nilFunc⟩:=by kernel_rfl
@[go_sem] theorem ti196:tinfo Proofs.Tryz.prog 196=some ⟨.int .i64,1,8,.v (.int .i64 0)⟩:=by kernel_rfl
@[go_sem] theorem ti198:tinfo Proofs.Tryz.prog 198=some ⟨.func,1,8,.v .nilFunc⟩:=by kernel_rfl
@[go_sem] theorem ti199:tinfo Proofs.Tryz.prog 199=some ⟨.func,1,8,.v .nilFunc⟩:=by kernel_rfl
@[go_sem] theorem ti200:tinfo Proofs.Tryz.prog 200=some ⟨.func,1,8,.v .nilFunc⟩:=by kernel_rfl
@[go_sem] theorem ti202:tinfo Proofs.Tryz.prog 202=some ⟨.func,1,8,.v .nilFunc⟩:=by kernel_rfl
@[go_sem] theorem ti203:tinfo Proofs.Tryz.prog 203=some ⟨.func,1,8,.v .nilFunc⟩:=by kernel_rfl
@[go_sem] theorem ti204:tinfo Proofs.Tryz.prog 204=some ⟨.int .u32,1,4,.v (.int .u32 0)⟩:=by kernel_rfl
@[go_sem] theorem ti205:tinfo Proofs.Tryz.prog 205=some ⟨.func,1,8,.v .nilFunc⟩:=by kernel_rfl
@[go_sem] theorem ti206:tinfo Proofs.Tryz.prog 206=some ⟨.int .u64,1,8,.v (.int .u64 0)⟩:=by kernel_rfl
@[go_sem] theorem ti207:tinfo Proofs.Tryz.prog 207=some ⟨.func,1,8,.v .nilFunc⟩:=by kernel_rfl
@[go_sem] theorem ti208:tinfo Proofs.Tryz.prog 208=some ⟨.func,1,8,.v .nilFunc⟩:=by kernel_rfl
@[go_sem] theorem ti209:tinfo Proofs.Tryz.prog 209=some ⟨.func,1,8,.v .nilFunc⟩:=by kernel_rfl
@[go_sem] theorem ti210:tinfo Proofs.Tryz.prog 210=some ⟨.ptr 3,1,8,.v (.pointer none)⟩:=by kernel_rfl
@[go_sem] theorem ti211:tinfo Proofs.Tryz.prog 211=some ⟨.func,1,8,.v .nilFunc⟩:=by kernel_rfl
@[go_sem] theorem ti212:tinfo Proofs.Tryz.prog 212=some ⟨.ptr 206,1,8,.v (.pointer none)⟩:=by kernel_rfl
@[go_sem] theorem ti214:tinfo Proofs.Tryz.prog 214=some ⟨.func,1,8,.v .nilFunc⟩:=by kernel_rfl
@[go_sem] theorem ti215:tinfo Proofs.Tryz.prog 215=some ⟨.struct [(0,17),(1,17),(2,17),(3,9)],4,40,.agg [.v (.pointer none),.v (.pointer none),.v (.pointer none),.v (.string ⟨#[]⟩)]⟩:=by kernel_rfl
@[go_sem] theorem ti216:tinfo Proofs.Tryz.prog 216=some ⟨.struct [(0,17),(1,17),(2,17),(3,9)],4,40,.agg [.v (.pointer none),.v (.pointer none),.v (.pointer none),.v (.string ⟨#[]⟩)]⟩:=by kernel_rfl
@[go_sem] theorem ti217:tinfo Proofs.Tryz.prog 217=some ⟨.arr 0 16,0,0,.agg []⟩:=by kernel_rfl
@[go_sem] theorem ti218:tinfo Proofs.Tryz.prog 218=some ⟨.struct [(0,217)],0,0,.agg []⟩:=by kernel_rfl
@[go_sem] theorem ti219:tinfo Proofs.Tryz.prog 219=some ⟨.struct [(0,217)],0,0,.agg []⟩:=by kernel_rfl
@[go_sem] theorem ti220:tinfo Proofs.Tryz.prog 220=some ⟨.func,1,8,.v .nilFunc⟩:=by kernel_rfl
@[go_sem] theorem ti221:tinfo Proofs.Tryz.prog 221=some ⟨.int .u8,1,1,.v (.int .u8 0)⟩:=by kernel_rfl
@[go_sem] theorem ti222:tinfo Proofs.Tryz.prog 222=some ⟨.int .u8,1,1,.v (.int .u8 0)⟩:=by kernel_rfl
@[go_sem] theorem ti223:tinfo Proofs.Tryz.prog 223=some ⟨.func,1,8,.v .nilFunc⟩:=by kernel_rfl
@[go_sem] theorem ti224:tinfo Proofs.Tryz.prog 224=some ⟨.ptr 5,1,8,.v (.pointer none)⟩:=by kernel_rfl
@[go_sem] theorem ti225:tinfo Proofs.Tryz.prog 225=some ⟨.int .i32,1,4,.v (.int .i32 0)⟩:=by kernel_rfl
@[go_sem] theorem ti226:tinfo Proofs.Tryz.prog 226=some ⟨.int .i32,1,4,.v (.int .i32 0)⟩:=by kernel_rfl
@[go_sem] theorem plain53:plainSt Proofs.Tryz.prog 53=some [.int,.int]:=by kernel_rfl
@[go_sem] theorem plain54:plainSt Proofs.Tryz.prog 54=some [.int,.int]:=by kernel_rfl
@[go_sem] theorem plain115:plainSt Proofs.Tryz.prog 115=some [.str,.int]:=by kernel_rfl
@[go_sem] theorem plain116:plainSt Proofs.Tryz.prog 116=some [.str,.int]:=by kernel_rfl
@[go_sem] theorem plain118:plainSt Proofs.Tryz.prog 118=some [.int,.int]:=by kernel_rfl
@[go_sem] theorem plain119:plainSt Proofs.Tryz.prog 119=some [.int,.int]:=by kernel_rfl
@[go_sem] theorem plain157:plainSt Proofs.Tryz.prog 157=some [.int,.int,.int,.int]:=by kernel_rfl
@[go_sem] theorem kk3:kkOf Proofs.Tryz.prog 3=some (.sc .int):=by kernel_rfl
@[go_sem] theorem kk9:kkOf Proofs.Tryz.prog 9=some (.sc .str):=by kernel_rfl
@[go_sem] theorem kk54:kkOf Proofs.Tryz.prog 54=some (.st [.int,.int]):=by kernel_rfl
end Go.AL
end
section
namespace Go.AL
open Go Go.RowKit
set_option maxRecDepth 4000
theorem mixed:Proofs.Tryz.prog.follows .mixedOrders=true:=by kernel_rfl
attribute [go_sem] aqv aq
def aInts (l:List Int):AV:=.sl 1 (l.map ai)
def aRows (l:List (List Int)):AV:=.sl 1 (l.map aInts)
def aRows3 (l:List (List (List Int))):AV:=.sl 1 (l.map aRows)
abbrev astr (s:ByteArray):AV:=.v (.string s)
structure Ev where
 kind:Int
 peer:Int
 msg:Int
 time:Int
 asg:List (Int × Int)
 deriving DecidableEq
structure Pr where
 name:ByteArray
 vars:List (ByteArray × Int)
 evs:List Ev
 deriving DecidableEq
def aAsg (a:Int × Int):AV:=.agg [ai a.1,ai a.2]
def aVar (a:ByteArray × Int):AV:=.agg [astr a.1,ai a.2]
def aAsgs (l:List (Int × Int)):AV:=.sl 2 (l.map aAsg)
def aVars (l:List (ByteArray × Int)):AV:=.sl 2 (l.map aVar)
def aEv (e:Ev):AV:=.agg [ai e.kind,ai e.peer,ai e.msg,ai e.time,aAsgs e.asg]
def aEvs (l:List Ev):AV:=.sl 5 (l.map aEv)
def aPr (p:Pr):AV:=.agg [astr p.name,aVars p.vars,aEvs p.evs]
def aPrs (l:List Pr):AV:=.sl 3 (l.map aPr)
def aTr (l:List Pr):AV:=.agg [aPrs l]
abbrev Eid:=Int × Int
def aEid (x:Eid):AV:=.agg [ai x.1,ai x.2]
def aEids (l:List Eid):AV:=.sl 2 (l.map aEid)
attribute [go_sem] aInts aRows aRows3 aAsg aVar aAsgs aVars aEv aEvs aPr aPrs aTr aEid aEids
theorem findIdx_any {α:Type} (l:List α) (p:α→Bool):decide ((0:Int)≤(match l.findIdx? p with|some i=>(i:Int)|none => -1))=l.any p:=by
 cases h:l.findIdx? p with
 | none =>
  rw[List.findIdx?_eq_none_iff] at h
  have:l.any p=false:=by rw[List.any_eq_false];intro x hx;simp [h x hx]
  rw[this];decide
 | some i =>
  rw[List.findIdx?_eq_some_iff_getElem] at h
  obtain⟨hi,hp,_⟩:=h
  have:l.any p=true:=List.any_eq_true.2 ⟨l[i],List.getElem_mem hi,hp⟩
  rw[this];simp
theorem take_le {α:Type} {l:List α} {n N:Nat} (h:l.length≤N):(l.take n).length≤N:=Nat.le_trans (List.length_take_le' _ _) h
def fstF (f:Nat→Int) (n:Nat):Int:=match (List.range n).find? (fun i=>f i != 0) with|some i=>f i|none=>0
theorem fstF_hit {f:Nat→Int} {n k:Nat} (hk:k<n) (h0:∀i,i<k→f i=0) (h:f k ≠ 0):fstF f n=f k:=by
 have:(List.range n).find? (fun i=>f i != 0)=some k:=by
  rw[List.find?_range_eq_some]
  exact⟨by simpa using h,by simpa using hk,fun j hj=>by simpa using h0 j hj⟩
 unfold fstF;rw[this]
theorem fstF_none {f:Nat→Int} {n:Nat} (h:∀i,i<n→f i=0):fstF f n=0:=by
 have:(List.range n).find? (fun i=>f i != 0)=none:=by
  rw[List.find?_eq_none];intro i hi;simpa using h i (List.mem_range.1 hi)
 unfold fstF;rw[this]
structure Smh (ps:List Pr):Prop where
 procs:ps.length≤1000000
 vars:∀p ∈ ps,p.vars.length≤1000000
structure Sm (ps:List Pr):Prop where
 procs:ps.length≤1000000
 evs:∀p ∈ ps,p.evs.length≤1000000
 vars:∀p ∈ ps,p.vars.length≤1000000
 asg:∀p ∈ ps,∀e ∈ p.evs,e.asg.length≤1000000
theorem Sm.h {ps:List Pr} (hs:Sm ps):Smh ps:=⟨hs.procs,hs.vars⟩
theorem ints_cloneO (l:List Int) (hl:l.length≤1000000):MCalls Proofs.Tryz.prog 43 [aInts l] [] fun r L=>AppSt 3 1 (l.map ai) r L:=by
 refine MCalls.enter' 8 [.tmp 2] [] Proofs.Tryz.func43 rfl rfl rfl rfl rfl (by simp) (AWp.of ?_);simp only[go_sem]
 refine Wk ?_
 intro b hb
 refine Wk ?_
 refine⟨fun ht => ?_,fun hf => ?_⟩
 ·have:l=[]:=by
   by_cases h:l=[]
   ·exact h
   ·rw[hb (by simpa using h)] at ht;cases ht
  subst this
  refine Wk ?_
  refine ret_own ?_
  simp only[go_sem]
  exact .nil
 ·refine Wk ?_
  intros
  refine Sd ?_
  intros
  refine Wk ?_
  refine ret_own ?_
  simp only[go_sem]
  have e:l.length=(l.map ai).length:=by simp
  rw[e];exact .row _ _ _
theorem ints_indexFunc (l:List Int) (hl:l.length≤1000000) (g:AV) (hgf:fo g=(True,g)) (p:Int→Bool) (hg:∀x ∈ l,PV Proofs.Tryz.prog g [ai x] (ab (p x))) :
  PC Proofs.Tryz.prog 130 [aInts l,g] (ai (match l.findIdx? p with|some i=>(i:Int)|none => -1)):=by
 refine PC.enter 19 [.tmp 4] [] Proofs.Tryz.func130 rfl rfl rfl rfl rfl (by simp) (AWp.of ?_);simp only[go_sem]
 refine Sd ?_
 refine AWp.of ?_;simp only[go_sem,aInts]
 refine AWp.range' l.length [] [0,1,7] (fun k vs L=>L=[]∧∀i (h:i<l.length),i<k→p l[i]=false) (by omega) rfl rfl rfl ⟨rfl,by omega⟩ ?_ ?_
 ·rintro k vs L' hk hvs ⟨rfl,hI⟩
  simp only[go_sem]
  refine Sd ?_
  refine AWp.of ?_;simp only[go_sem]
  have hgk:=hg l[k] (List.getElem_mem hk)
  try simp only[go_sem,ai] at hgk
  refine Sd ?_
  refine AWp.of ?_;simp only[go_sem,getD_map hk,hgf,ai]
  refine⟨⟨by omega,by omega⟩,hk,hgk.use (AWp.of ?_)⟩;simp only[go_sem]
  refine⟨fun ht => ?_,fun hf => ?_⟩
  ·refine Sd ?_
   refine AWp.of ?_;simp only[go_sem]
   refine ret_eq ?_;simp only[go_sem]
   have:l.findIdx? p=some k:=by rw[List.findIdx?_eq_some_iff_getElem];exact⟨hk,ht,fun j hj=>by simpa using hI j (by omega) hj⟩
   rw[this]
  ·refine⟨[],List.Sublist.refl _,rfl,fun i h hi => ?_⟩
   by_cases e:i=k
   ·subst e;exact hf
   ·exact hI i h (by omega)
 ·rintro vs L' hvs ⟨rfl,hI⟩
  simp only[go_sem]
  refine Sd ?_
  refine AWp.of ?_;simp only[go_sem]
  refine Sd ?_
  refine AWp.of ?_;simp only[go_sem]
  refine ret_eq ?_;simp only[go_sem]
  have:l.findIdx? p=none:=by rw[List.findIdx?_eq_none_iff];intro x hx;obtain⟨i,hi,rfl⟩:=List.getElem_of_mem hx;exact hI i hi hi
  rw[this]
theorem ints_containsFunc (l:List Int) (hl:l.length≤1000000) (g:AV) (hgf:fo g=(True,g)) (p:Int→Bool) (hg:∀x ∈ l,PV Proofs.Tryz.prog g [ai x] (ab (p x))) :
  PC Proofs.Tryz.prog 118 [aInts l,g] (ab (l.any p)):=by
 refine PC.enter 9 [.tmp 4] [] Proofs.Tryz.func118 rfl rfl rfl rfl rfl (by simp) (AWp.of ?_);simp only[go_sem]
 refine Sd ?_
 refine AWp.of ?_;simp only[go_sem,hgf,aInts]
 refine(ints_indexFunc l hl g hgf p hg).val.use ?_
 simp only[go_sem]
 refine Sd ?_
 refine AWp.of ?_;simp only[go_sem]
 refine ret_eq ?_;simp only[go_sem]
 congr 2;exact findIdx_any l p
theorem rows_indexFunc (l:List (List Int)) (hl:l.length≤1000000) (g:AV) (hgf:fo g=(True,g)) (p:(List Int)→Bool) (hg:∀x ∈ l,PV Proofs.Tryz.prog g [aInts x] (ab (p x))) :
  PC Proofs.Tryz.prog 74 [aRows l,g] (ai (match l.findIdx? p with|some i=>(i:Int)|none => -1)):=by
 refine PC.enter 19 [.tmp 4] [] Proofs.Tryz.func74 rfl rfl rfl rfl rfl (by simp) (AWp.of ?_);simp only[go_sem]
 refine Sd ?_
 refine AWp.of ?_;simp only[go_sem,aRows]
 refine AWp.range' l.length [] [0,1,7] (fun k vs L=>L=[]∧∀i (h:i<l.length),i<k→p l[i]=false) (by omega) rfl rfl rfl ⟨rfl,by omega⟩ ?_ ?_
 ·rintro k vs L' hk hvs ⟨rfl,hI⟩
  simp only[go_sem]
  refine Sd ?_
  refine AWp.of ?_;simp only[go_sem]
  have hgk:=hg l[k] (List.getElem_mem hk)
  try simp only[go_sem,aInts] at hgk
  refine Sd ?_
  refine AWp.of ?_;simp only[go_sem,getD_map hk,hgf,aInts]
  refine⟨⟨by omega,by omega⟩,hk,hgk.use (AWp.of ?_)⟩;simp only[go_sem]
  refine⟨fun ht => ?_,fun hf => ?_⟩
  ·refine Sd ?_
   refine AWp.of ?_;simp only[go_sem]
   refine ret_eq ?_;simp only[go_sem]
   have:l.findIdx? p=some k:=by rw[List.findIdx?_eq_some_iff_getElem];exact⟨hk,ht,fun j hj=>by simpa using hI j (by omega) hj⟩
   rw[this]
  ·refine⟨[],List.Sublist.refl _,rfl,fun i h hi => ?_⟩
   by_cases e:i=k
   ·subst e;exact hf
   ·exact hI i h (by omega)
 ·rintro vs L' hvs ⟨rfl,hI⟩
  simp only[go_sem]
  refine Sd ?_
  refine AWp.of ?_;simp only[go_sem]
  refine Sd ?_
  refine AWp.of ?_;simp only[go_sem]
  refine ret_eq ?_;simp only[go_sem]
  have:l.findIdx? p=none:=by rw[List.findIdx?_eq_none_iff];intro x hx;obtain⟨i,hi,rfl⟩:=List.getElem_of_mem hx;exact hI i hi hi
  rw[this]
theorem rows_containsFunc (l:List (List Int)) (hl:l.length≤1000000) (g:AV) (hgf:fo g=(True,g)) (p:(List Int)→Bool) (hg:∀x ∈ l,PV Proofs.Tryz.prog g [aInts x] (ab (p x))) :
  PC Proofs.Tryz.prog 51 [aRows l,g] (ab (l.any p)):=by
 refine PC.enter 9 [.tmp 4] [] Proofs.Tryz.func51 rfl rfl rfl rfl rfl (by simp) (AWp.of ?_);simp only[go_sem]
 refine Sd ?_
 refine AWp.of ?_;simp only[go_sem,hgf,aRows]
 refine(rows_indexFunc l hl g hgf p hg).val.use ?_
 simp only[go_sem]
 refine Sd ?_
 refine AWp.of ?_;simp only[go_sem]
 refine ret_eq ?_;simp only[go_sem]
 congr 2;exact findIdx_any l p
theorem procs_indexFunc (l:List Pr) (hl:l.length≤1000000) (g:AV) (hgf:fo g=(True,g)) (p:Pr→Bool) (hg:∀x ∈ l,PV Proofs.Tryz.prog g [aPr x] (ab (p x))) :
  PC Proofs.Tryz.prog 103 [aPrs l,g] (ai (match l.findIdx? p with|some i=>(i:Int)|none => -1)):=by
 refine PC.enter 19 [.tmp 4] [] Proofs.Tryz.func103 rfl rfl rfl rfl rfl (by simp) (AWp.of ?_);simp only[go_sem]
 refine Sd ?_
 refine AWp.of ?_;simp only[go_sem,aPrs]
 refine AWp.range' l.length [] [0,1,7] (fun k vs L=>L=[]∧∀i (h:i<l.length),i<k→p l[i]=false) (by omega) rfl rfl rfl ⟨rfl,by omega⟩ ?_ ?_
 ·rintro k vs L' hk hvs ⟨rfl,hI⟩
  simp only[go_sem]
  refine Sd ?_
  refine AWp.of ?_;simp only[go_sem]
  have hgk:=hg l[k] (List.getElem_mem hk)
  try simp only[go_sem,aPr] at hgk
  refine Sd ?_
  refine AWp.of ?_;simp only[go_sem,getD_map hk,hgf,aPr]
  refine⟨⟨by omega,by omega⟩,hk,hgk.use (AWp.of ?_)⟩;simp only[go_sem]
  refine⟨fun ht => ?_,fun hf => ?_⟩
  ·refine Sd ?_
   refine AWp.of ?_;simp only[go_sem]
   refine ret_eq ?_;simp only[go_sem]
   have:l.findIdx? p=some k:=by rw[List.findIdx?_eq_some_iff_getElem];exact⟨hk,ht,fun j hj=>by simpa using hI j (by omega) hj⟩
   rw[this]
  ·refine⟨[],List.Sublist.refl _,rfl,fun i h hi => ?_⟩
   by_cases e:i=k
   ·subst e;exact hf
   ·exact hI i h (by omega)
 ·rintro vs L' hvs ⟨rfl,hI⟩
  simp only[go_sem]
  refine Sd ?_
  refine AWp.of ?_;simp only[go_sem]
  refine Sd ?_
  refine AWp.of ?_;simp only[go_sem]
  refine ret_eq ?_;simp only[go_sem]
  have:l.findIdx? p=none:=by rw[List.findIdx?_eq_none_iff];intro x hx;obtain⟨i,hi,rfl⟩:=List.getElem_of_mem hx;exact hI i hi hi
  rw[this]
theorem procs_containsFunc (l:List Pr) (hl:l.length≤1000000) (g:AV) (hgf:fo g=(True,g)) (p:Pr→Bool) (hg:∀x ∈ l,PV Proofs.Tryz.prog g [aPr x] (ab (p x))) :
  PC Proofs.Tryz.prog 79 [aPrs l,g] (ab (l.any p)):=by
 refine PC.enter 9 [.tmp 4] [] Proofs.Tryz.func79 rfl rfl rfl rfl rfl (by simp) (AWp.of ?_);simp only[go_sem]
 refine Sd ?_
 refine AWp.of ?_;simp only[go_sem,hgf,aPrs]
 refine(procs_indexFunc l hl g hgf p hg).val.use ?_
 simp only[go_sem]
 refine Sd ?_
 refine AWp.of ?_;simp only[go_sem]
 refine ret_eq ?_;simp only[go_sem]
 congr 2;exact findIdx_any l p
theorem events_indexFunc (l:List Ev) (hl:l.length≤1000000) (g:AV) (hgf:fo g=(True,g)) (p:Ev→Bool) (hg:∀x ∈ l,PV Proofs.Tryz.prog g [aEv x] (ab (p x))) :
  PC Proofs.Tryz.prog 34 [aEvs l,g] (ai (match l.findIdx? p with|some i=>(i:Int)|none => -1)):=by
 refine PC.enter 19 [.tmp 4] [] Proofs.Tryz.func34 rfl rfl rfl rfl rfl (by simp) (AWp.of ?_);simp only[go_sem]
 refine Sd ?_
 refine AWp.of ?_;simp only[go_sem,aEvs]
 refine AWp.range' l.length [] [0,1,7] (fun k vs L=>L=[]∧∀i (h:i<l.length),i<k→p l[i]=false) (by omega) rfl rfl rfl ⟨rfl,by omega⟩ ?_ ?_
 ·rintro k vs L' hk hvs ⟨rfl,hI⟩
  simp only[go_sem]
  refine Sd ?_
  refine AWp.of ?_;simp only[go_sem]
  have hgk:=hg l[k] (List.getElem_mem hk)
  try simp only[go_sem,aEv] at hgk
  refine Sd ?_
  refine AWp.of ?_;simp only[go_sem,getD_map hk,hgf,aEv]
  refine⟨⟨by omega,by omega⟩,hk,hgk.use (AWp.of ?_)⟩;simp only[go_sem]
  refine⟨fun ht => ?_,fun hf => ?_⟩
  ·refine Sd ?_
   refine AWp.of ?_;simp only[go_sem]
   refine ret_eq ?_;simp only[go_sem]
   have:l.findIdx? p=some k:=by rw[List.findIdx?_eq_some_iff_getElem];exact⟨hk,ht,fun j hj=>by simpa using hI j (by omega) hj⟩
   rw[this]
  ·refine⟨[],List.Sublist.refl _,rfl,fun i h hi => ?_⟩
   by_cases e:i=k
   ·subst e;exact hf
   ·exact hI i h (by omega)
 ·rintro vs L' hvs ⟨rfl,hI⟩
  simp only[go_sem]
  refine Sd ?_
  refine AWp.of ?_;simp only[go_sem]
  refine Sd ?_
  refine AWp.of ?_;simp only[go_sem]
  refine ret_eq ?_;simp only[go_sem]
  have:l.findIdx? p=none:=by rw[List.findIdx?_eq_none_iff];intro x hx;obtain⟨i,hi,rfl⟩:=List.getElem_of_mem hx;exact hI i hi hi
  rw[this]
theorem events_containsFunc (l:List Ev) (hl:l.length≤1000000) (g:AV) (hgf:fo g=(True,g)) (p:Ev→Bool) (hg:∀x ∈ l,PV Proofs.Tryz.prog g [aEv x] (ab (p x))) :
  PC Proofs.Tryz.prog 13 [aEvs l,g] (ab (l.any p)):=by
 refine PC.enter 9 [.tmp 4] [] Proofs.Tryz.func13 rfl rfl rfl rfl rfl (by simp) (AWp.of ?_);simp only[go_sem]
 refine Sd ?_
 refine AWp.of ?_;simp only[go_sem,hgf,aEvs]
 refine(events_indexFunc l hl g hgf p hg).val.use ?_
 simp only[go_sem]
 refine Sd ?_
 refine AWp.of ?_;simp only[go_sem]
 refine ret_eq ?_;simp only[go_sem]
 congr 2;exact findIdx_any l p
theorem vars_indexFunc (l:List (ByteArray × Int)) (hl:l.length≤1000000) (g:AV) (hgf:fo g=(True,g)) (p:(ByteArray × Int)→Bool) (hg:∀x ∈ l,PV Proofs.Tryz.prog g [aVar x] (ab (p x))) :
  PC Proofs.Tryz.prog 104 [aVars l,g] (ai (match l.findIdx? p with|some i=>(i:Int)|none => -1)):=by
 refine PC.enter 19 [.tmp 4] [] Proofs.Tryz.func104 rfl rfl rfl rfl rfl (by simp) (AWp.of ?_);simp only[go_sem]
 refine Sd ?_
 refine AWp.of ?_;simp only[go_sem,aVars]
 refine AWp.range' l.length [] [0,1,7] (fun k vs L=>L=[]∧∀i (h:i<l.length),i<k→p l[i]=false) (by omega) rfl rfl rfl ⟨rfl,by omega⟩ ?_ ?_
 ·rintro k vs L' hk hvs ⟨rfl,hI⟩
  simp only[go_sem]
  refine Sd ?_
  refine AWp.of ?_;simp only[go_sem]
  have hgk:=hg l[k] (List.getElem_mem hk)
  try simp only[go_sem,aVar] at hgk
  refine Sd ?_
  refine AWp.of ?_;simp only[go_sem,getD_map hk,hgf,aVar]
  refine⟨⟨by omega,by omega⟩,hk,hgk.use (AWp.of ?_)⟩;simp only[go_sem]
  refine⟨fun ht => ?_,fun hf => ?_⟩
  ·refine Sd ?_
   refine AWp.of ?_;simp only[go_sem]
   refine ret_eq ?_;simp only[go_sem]
   have:l.findIdx? p=some k:=by rw[List.findIdx?_eq_some_iff_getElem];exact⟨hk,ht,fun j hj=>by simpa using hI j (by omega) hj⟩
   rw[this]
  ·refine⟨[],List.Sublist.refl _,rfl,fun i h hi => ?_⟩
   by_cases e:i=k
   ·subst e;exact hf
   ·exact hI i h (by omega)
 ·rintro vs L' hvs ⟨rfl,hI⟩
  simp only[go_sem]
  refine Sd ?_
  refine AWp.of ?_;simp only[go_sem]
  refine Sd ?_
  refine AWp.of ?_;simp only[go_sem]
  refine ret_eq ?_;simp only[go_sem]
  have:l.findIdx? p=none:=by rw[List.findIdx?_eq_none_iff];intro x hx;obtain⟨i,hi,rfl⟩:=List.getElem_of_mem hx;exact hI i hi hi
  rw[this]
theorem vars_containsFunc (l:List (ByteArray × Int)) (hl:l.length≤1000000) (g:AV) (hgf:fo g=(True,g)) (p:(ByteArray × Int)→Bool) (hg:∀x ∈ l,PV Proofs.Tryz.prog g [aVar x] (ab (p x))) :
  PC Proofs.Tryz.prog 81 [aVars l,g] (ab (l.any p)):=by
 refine PC.enter 9 [.tmp 4] [] Proofs.Tryz.func81 rfl rfl rfl rfl rfl (by simp) (AWp.of ?_);simp only[go_sem]
 refine Sd ?_
 refine AWp.of ?_;simp only[go_sem,hgf,aVars]
 refine(vars_indexFunc l hl g hgf p hg).val.use ?_
 simp only[go_sem]
 refine Sd ?_
 refine AWp.of ?_;simp only[go_sem]
 refine ret_eq ?_;simp only[go_sem]
 congr 2;exact findIdx_any l p
theorem asgs_indexFunc (l:List (Int × Int)) (hl:l.length≤1000000) (g:AV) (hgf:fo g=(True,g)) (p:(Int × Int)→Bool) (hg:∀x ∈ l,PV Proofs.Tryz.prog g [aAsg x] (ab (p x))) :
  PC Proofs.Tryz.prog 105 [aAsgs l,g] (ai (match l.findIdx? p with|some i=>(i:Int)|none => -1)):=by
 refine PC.enter 19 [.tmp 4] [] Proofs.Tryz.func105 rfl rfl rfl rfl rfl (by simp) (AWp.of ?_);simp only[go_sem]
 refine Sd ?_
 refine AWp.of ?_;simp only[go_sem,aAsgs]
 refine AWp.range' l.length [] [0,1,7] (fun k vs L=>L=[]∧∀i (h:i<l.length),i<k→p l[i]=false) (by omega) rfl rfl rfl ⟨rfl,by omega⟩ ?_ ?_
 ·rintro k vs L' hk hvs ⟨rfl,hI⟩
  simp only[go_sem]
  refine Sd ?_
  refine AWp.of ?_;simp only[go_sem]
  have hgk:=hg l[k] (List.getElem_mem hk)
  try simp only[go_sem,aAsg] at hgk
  refine Sd ?_
  refine AWp.of ?_;simp only[go_sem,getD_map hk,hgf,aAsg]
  refine⟨⟨by omega,by omega⟩,hk,hgk.use (AWp.of ?_)⟩;simp only[go_sem]
  refine⟨fun ht => ?_,fun hf => ?_⟩
  ·refine Sd ?_
   refine AWp.of ?_;simp only[go_sem]
   refine ret_eq ?_;simp only[go_sem]
   have:l.findIdx? p=some k:=by rw[List.findIdx?_eq_some_iff_getElem];exact⟨hk,ht,fun j hj=>by simpa using hI j (by omega) hj⟩
   rw[this]
  ·refine⟨[],List.Sublist.refl _,rfl,fun i h hi => ?_⟩
   by_cases e:i=k
   ·subst e;exact hf
   ·exact hI i h (by omega)
 ·rintro vs L' hvs ⟨rfl,hI⟩
  simp only[go_sem]
  refine Sd ?_
  refine AWp.of ?_;simp only[go_sem]
  refine Sd ?_
  refine AWp.of ?_;simp only[go_sem]
  refine ret_eq ?_;simp only[go_sem]
  have:l.findIdx? p=none:=by rw[List.findIdx?_eq_none_iff];intro x hx;obtain⟨i,hi,rfl⟩:=List.getElem_of_mem hx;exact hI i hi hi
  rw[this]
theorem asgs_containsFunc (l:List (Int × Int)) (hl:l.length≤1000000) (g:AV) (hgf:fo g=(True,g)) (p:(Int × Int)→Bool) (hg:∀x ∈ l,PV Proofs.Tryz.prog g [aAsg x] (ab (p x))) :
  PC Proofs.Tryz.prog 85 [aAsgs l,g] (ab (l.any p)):=by
 refine PC.enter 9 [.tmp 4] [] Proofs.Tryz.func85 rfl rfl rfl rfl rfl (by simp) (AWp.of ?_);simp only[go_sem]
 refine Sd ?_
 refine AWp.of ?_;simp only[go_sem,hgf,aAsgs]
 refine(asgs_indexFunc l hl g hgf p hg).val.use ?_
 simp only[go_sem]
 refine Sd ?_
 refine AWp.of ?_;simp only[go_sem]
 refine ret_eq ?_;simp only[go_sem]
 congr 2;exact findIdx_any l p
abbrev au8 (n:Int):AV:=.v (.int .u8 n)
def letterI (n:Int):Bool:=(decide (97≤n) && decide (n≤122)) || (decide (65≤n) && decide (n≤90))
def digitI (n:Int):Bool:=decide (48≤n) && decide (n≤57)
def inI (x a b:Int):Bool:=decide (a≤x) && decide (x≤b)
def sb (s:ByteArray) (i:Nat):Int:=((s.get! i).toNat:Int)
def nameOk (s:ByteArray):Bool:=decide (s.size ≠ 0) && decide (s.size≤16) && letterI (sb s 0) && (List.range s.size).all fun i=>letterI (sb s i) || digitI (sb s i) || decide (sb s i=95)
theorem size_empty (s:ByteArray):(s=⟨#[]⟩)=(s.size=0):=by
 apply propext
 constructor
 ·rintro rfl;rfl
 ·intro h
  obtain⟨⟨l⟩⟩:=s
  have:l.length=0:=h
  rw[List.eq_nil_of_length_eq_zero this]
theorem trace_letter (n:Int):PC Proofs.Tryz.prog 101 [au8 n] (ab (letterI n)):=by
 refine PC.enter 17 [.tmp 2] [] Proofs.Tryz.func101 rfl rfl rfl rfl rfl (by simp) (AWp.of ?_);simp only[go_sem]
 refine Sd ?_
 refine AWp.of ?_;simp only[go_sem]
 refine Sd ?_
 refine AWp.of ?_;simp only[go_sem]
 refine ret_eq ?_;simp only[go_sem]
 rfl
theorem trace_digit (n:Int):PC Proofs.Tryz.prog 102 [au8 n] (ab (digitI n)):=by
 refine PC.enter 9 [.tmp 2] [] Proofs.Tryz.func102 rfl rfl rfl rfl rfl (by simp) (AWp.of ?_);simp only[go_sem]
 refine Sd ?_
 refine AWp.of ?_;simp only[go_sem]
 refine Sd ?_
 refine AWp.of ?_;simp only[go_sem]
 refine ret_eq ?_;simp only[go_sem]
 rfl
theorem trace_in (x a b:Int):PC Proofs.Tryz.prog 60 [ai x,ai a,ai b] (ab (inI x a b)):=by
 refine PC.enter 15 [.tmp 6] [] Proofs.Tryz.func60 rfl rfl rfl rfl rfl (by simp) (AWp.of ?_);simp only[go_sem]
 refine Sd ?_
 refine AWp.of ?_;simp only[go_sem]
 refine Sd ?_
 refine AWp.of ?_;simp only[go_sem]
 refine ret_eq ?_;simp only[go_sem]
 rfl
theorem trace_isName (s:ByteArray):PC Proofs.Tryz.prog 78 [astr s] (ab (nameOk s)):=by
 refine PC.enter 41 [.tmp 2] [] Proofs.Tryz.func78 rfl rfl rfl rfl rfl (by simp) (AWp.of ?_);simp only[go_sem]
 refine Sd ?_
 refine AWp.of ?_;simp only[go_sem,size_empty]
 refine Sd ?_
 refine GCall.use (ab (letterI (sb s 0))) (fun _=>⟨At,(trace_letter _).val.use ⟨rfl,rfl⟩⟩) ?_;simp only[go_sem]
 refine Sd ?_
 refine AWp.of ?_;simp only[go_sem]
 refine⟨fun ht => ?_,fun h1 h2 h3 => ?_⟩
 ·refine Sd ?_
  refine AWp.of ?_;simp only[go_sem]
  refine ret_eq ?_;simp only[go_sem]
  congr 2;symm;unfold nameOk
  rcases ht with (h|h)|h
  ·simp [h]
  ·simp [show ¬s.size≤16 by omega]
  ·simp [h]
 ·refine Sd ?_
  refine AWp.of ?_;simp only[go_sem]
  refine AWp.range' s.size [] [0,18] (fun k vs L=>L=[]∧∀i,i<k→(letterI (sb s i) || digitI (sb s i) || decide (sb s i=95))=true) (by omega) rfl rfl rfl ⟨rfl,by omega⟩ ?_ ?_
  ·rintro k vs L' hk hvs ⟨rfl,hI⟩
   simp only[go_sem]
   refine Sd ?_
   refine AWp.of ?_;simp only[go_sem]
   refine Sd ?_
   refine AWp.of ?_;simp only[go_sem]
   refine⟨⟨by omega,by omega⟩,(trace_letter _).val.use ?_⟩
   simp only[go_sem]
   refine Sd ?_
   refine GCall.use (ab (digitI (sb s k))) (fun _=>⟨At,(trace_digit _).val.use ⟨rfl,rfl⟩⟩) ?_;simp only[go_sem]
   refine Sd ?_
   refine AWp.of ?_;simp only[go_sem]
   refine⟨fun h4 h5 h6 => ?_,fun h4 => ?_⟩
   ·refine Sd ?_
    refine AWp.of ?_;simp only[go_sem]
    refine ret_eq ?_;simp only[go_sem]
    congr 2;symm;unfold nameOk
    have:((List.range s.size).all fun i=>letterI (sb s i) || digitI (sb s i) || decide (sb s i=95))=false:=by
     rw[List.all_eq_false]
     exact⟨k,List.mem_range.2 hk,by simp [show letterI (sb s k)=false from h4,h5];exact h6⟩
    rw[this];simp
   ·refine⟨[],List.Sublist.refl _,rfl,fun i hi => ?_⟩
    by_cases e:i=k
    ·subst e
     cases h5:letterI (sb s i)
     ·cases h6:digitI (sb s i)
      ·exact .inr (h4 h5 h6)
      ·exact .inl (.inr rfl)
     ·exact .inl (.inl rfl)
    ·simpa using hI i (by omega)
  ·rintro vs L' hvs ⟨rfl,hI⟩
   simp only[go_sem]
   refine Sd ?_
   refine AWp.of ?_;simp only[go_sem]
   refine Sd ?_
   refine AWp.of ?_;simp only[go_sem]
   refine ret_eq ?_;simp only[go_sem]
   congr 2;symm;unfold nameOk
   have:((List.range s.size).all fun i=>letterI (sb s i) || digitI (sb s i) || decide (sb s i=95))=true:=by
    rw[List.all_eq_true]
    exact fun i hi=>by simpa using hI i (List.mem_range.1 hi)
   rw[this];simp [h1,h3];omega
def varF (vs:List (ByteArray × Int)) (i:Nat):Int :=
 match vs[i]? with
 | some v=>if !nameOk v.1 || (vs.take i).any (fun w=>decide (w.1=v.1)) then 13 else if !inI v.2 (-1073741824) 1073741824 then 2 else 0
 | none=>0
def procF (ps:List Pr) (p:Nat):Int :=
 match ps[p]? with
 | some x=>if !nameOk x.name || (ps.take p).any (fun y=>decide (y.name=x.name)) then 13 else if 8<x.vars.length then 5 else
   if fstF (varF x.vars) x.vars.length ≠ 0 then fstF (varF x.vars) x.vars.length else if 64<x.evs.length then 5 else 0
 | none=>0
theorem trace_processFault1 (y x:Pr):PC Proofs.Tryz.prog 80 [aPr y,.rp 3 [aPr x] 0 0] (ab (decide (y.name=x.name))):=by
 refine PC.enter 9 [.tmp 3] [2] Proofs.Tryz.func80 rfl rfl rfl rfl rfl (by simp) (AWp.of ?_);simp only[go_sem]
 refine Sd ?_
 refine AWp.of ?_;simp only[go_sem]
 refine Sd ?_
 refine AWp.of ?_;simp only[go_sem]
 refine ret_eq ?_;simp only[go_sem]
theorem trace_processFault2 (y x:ByteArray × Int):PC Proofs.Tryz.prog 82 [aVar y,.rp 2 [aVar x] 0 0] (ab (decide (y.1=x.1))):=by
 refine PC.enter 9 [.tmp 3] [2] Proofs.Tryz.func82 rfl rfl rfl rfl rfl (by simp) (AWp.of ?_);simp only[go_sem]
 refine Sd ?_
 refine AWp.of ?_;simp only[go_sem]
 refine Sd ?_
 refine AWp.of ?_;simp only[go_sem]
 refine ret_eq ?_;simp only[go_sem]
theorem trace_processFaultH (ps:List Pr) (hs:Smh ps) (p:Nat) (hp:p<ps.length):PC Proofs.Tryz.prog 61 [aTr ps,ai p] (ai (procF ps p)):=by
 have hm:=List.getElem_mem hp
 refine PC.enter 62 [.tmp 4] [2,5,7] Proofs.Tryz.func61 rfl rfl rfl rfl rfl (by simp) (AWp.of ?_);simp only[go_sem]
 refine Sd ?_
 refine AWp.of ?_;simp only[go_sem,getD_map hp]
 refine Sd ?_
 intros
 refine AWp.of ?_;simp only[go_sem]
 refine(trace_isName _).val.use ?_
 simp only[go_sem]
 refine Sd ?_
 refine GCall.use (ab ((ps.take p).any fun y=>decide (y.name=ps[p].name))) (fun _=>⟨At,(procs_containsFunc (ps.take p) (take_le hs.procs) (.clo 80 [.rp 3 [aPr ps[p]] 0 0]) rfl (fun y=>decide (y.name=ps[p].name)) fun y _=>(trace_processFault1 y ps[p]).clo).val.use ⟨rfl,rfl⟩⟩) ?_;simp only[go_sem]
 refine Sd ?_
 refine AWp.of ?_;simp only[go_sem]
 refine⟨fun ht => ?_,fun h1 h2 => ?_⟩
 ·refine Sd ?_
  refine AWp.of ?_;simp only[go_sem]
  refine ret_eq ?_;simp only[go_sem]
  simp only[procF,List.getElem?_eq_getElem hp];rw[if_pos (by simpa using ht)]
 ·refine Sd ?_
  refine AWp.of ?_;simp only[go_sem]
  refine⟨fun ht => ?_,fun h3 => ?_⟩
  ·refine Sd ?_
   refine AWp.of ?_;simp only[go_sem]
   refine ret_eq ?_;simp only[go_sem]
   simp only[procF,List.getElem?_eq_getElem hp];rw[if_neg (by simp [h1,h2]),if_pos (by omega)]
  ·have hl:=hs.vars _ hm
   refine Sd ?_
   refine AWp.of ?_;simp only[go_sem]
   refine AWp.range' ps[p].vars.length [] [5,32,33] (fun k vs L=>L=[]∧∀i,i<k→varF ps[p].vars i=0) (by omega) rfl rfl rfl ⟨rfl,by omega⟩ ?_ ?_
   ·rintro k vs L' hk hvs ⟨rfl,hI⟩
    simp only[go_sem]
    have e:ps[p].vars[k]?=some ps[p].vars[k]:=List.getElem?_eq_getElem hk
    refine Sd ?_
    refine AWp.of ?_;simp only[go_sem,getD_map hk]
    refine Sd ?_
    intros
    refine AWp.of ?_;simp only[go_sem]
    refine(trace_isName _).val.use ?_
    simp only[go_sem]
    refine Sd ?_
    refine GCall.use (ab ((ps[p].vars.take k).any fun w=>decide (w.1=ps[p].vars[k].1))) (fun _=>⟨At,(vars_containsFunc (ps[p].vars.take k) (take_le hl) (.clo 82 [.rp 2 [aVar ps[p].vars[k]] 0 0]) rfl (fun w=>decide (w.1=ps[p].vars[k].1)) fun y _=>(trace_processFault2 y ps[p].vars[k]).clo).val.use ⟨rfl,rfl⟩⟩) ?_;simp only[go_sem]
    refine Sd ?_
    refine AWp.of ?_;simp only[go_sem]
    refine⟨fun ht => ?_,fun h4 h5 => ?_⟩
    ·refine Sd ?_
     refine AWp.of ?_;simp only[go_sem]
     refine ret_eq ?_;simp only[go_sem]
     have hv:varF ps[p].vars k=13:=by simp only[varF,e];rw[if_pos (by simpa using ht)]
     simp only[procF,List.getElem?_eq_getElem hp];rw[if_neg (by simp [h1,h2]),if_neg (by omega),fstF_hit hk hI (by rw[hv];decide),hv];simp
    ·refine(trace_in _ _ _).val.use ?_
     simp only[go_sem]
     refine Sd ?_
     refine AWp.of ?_;simp only[go_sem]
     refine⟨fun ht => ?_,fun h6 => ?_⟩
     ·refine Sd ?_
      refine AWp.of ?_;simp only[go_sem]
      refine ret_eq ?_;simp only[go_sem]
      have hv:varF ps[p].vars k=2:=by simp only[varF,e];rw[if_neg (by simp [h4,h5]),if_pos (by simp [ht])]
      simp only[procF,List.getElem?_eq_getElem hp];rw[if_neg (by simp [h1,h2]),if_neg (by omega),fstF_hit hk hI (by rw[hv];decide),hv];simp
     ·refine⟨[],List.Sublist.refl _,rfl,fun i hi => ?_⟩
      by_cases e2:i=k
      ·subst e2;simp only[varF,e];rw[if_neg (by simp [h4,h5]),if_neg (by simp [h6])]
      ·exact hI i (by omega)
   ·rintro vs L' hvs ⟨rfl,hI⟩
    simp only[go_sem]
    refine Sd ?_
    refine AWp.of ?_;simp only[go_sem]
    refine Sd ?_
    refine AWp.of ?_;simp only[go_sem]
    refine⟨fun ht => ?_,fun h6 => ?_⟩
    ·refine Sd ?_
     refine AWp.of ?_;simp only[go_sem]
     refine ret_eq ?_;simp only[go_sem]
     simp only[procF,List.getElem?_eq_getElem hp];rw[if_neg (by simp [h1,h2]),if_neg (by omega),if_neg (by rw[fstF_none hI];simp),if_pos (by omega)]
    ·refine Sd ?_
     refine AWp.of ?_;simp only[go_sem]
     refine Sd ?_
     refine AWp.of ?_;simp only[go_sem]
     refine ret_eq ?_;simp only[go_sem]
     simp only[procF,List.getElem?_eq_getElem hp];rw[if_neg (by simp [h1,h2]),if_neg (by omega),if_neg (by rw[fstF_none hI];simp),if_neg (by omega)]
theorem trace_processFault (ps:List Pr) (hs:Sm ps) (p:Nat) (hp:p<ps.length):PC Proofs.Tryz.prog 61 [aTr ps,ai p] (ai (procF ps p)):=trace_processFaultH ps hs.h p hp
def formedI (n:Nat) (p:Int) (e:Ev):Bool :=
 if e.kind=1 then decide (e.peer=0) && decide (e.msg=0)
 else if e.kind=2∨e.kind=3 then inI e.peer 0 ((n:Int) - 1) && !decide (e.peer=p) && inI e.msg 0 199 else false
def asgF (nv:Nat) (l:List (Int × Int)) (k:Nat):Int :=
 match l[k]? with
 | some a=>if !inI a.1 0 ((nv:Int) - 1) || !inI a.2 (-1073741824) 1073741824 then 2 else if (l.take k).any (fun b=>decide (b.1=a.1)) then 8 else 0
 | none=>0
def lastT (l:List Ev) (i:Nat):Int:=if i=0 then 0 else match l[i - 1]? with|some e=>e.time|none=>0
def evF (ps:List Pr) (p i:Nat):Int :=
 match ps[p]? with
 | some x=>match x.evs[i]? with
  | some e=>if !formedI ps.length p e then 3 else if !inI e.time 0 1099511627776 || decide (e.time<lastT x.evs i) then 11 else if 8<e.asg.length then 5 else fstF (asgF x.vars.length e.asg) e.asg.length
  | none=>0
 | none=>0
theorem trace_formed (ps:List Pr) (hs:Sm ps) (p:Int) (e:Ev):PC Proofs.Tryz.prog 84 [aTr ps,ai p,aEv e] (ab (formedI ps.length p e)):=by
 have hl:=hs.procs
 refine PC.enter 40 [.tmp 6] [3,5] Proofs.Tryz.func84 rfl rfl rfl rfl rfl (by simp) (AWp.of ?_);simp only[go_sem]
 refine Wk ?_
 refine⟨fun h1 => ?_,fun h1 => ?_⟩
 ·refine Wk ?_
  refine ret_eq ?_;simp only[go_sem]
  unfold formedI;rw[if_pos h1]
 ·refine Wk ?_
  refine⟨fun h2 => ?_,fun h2 => ?_⟩
  ·refine W1 h2 ?_
   refine Sd ?_
   refine(trace_in _ _ _).val.use ?_;simp only[go_sem]
   refine Sd ?_
   refine GCall.use (ab (inI e.msg 0 199)) (fun _=>⟨At,(trace_in _ _ _).val.use ⟨rfl,rfl⟩⟩) ?_;simp only[go_sem]
   refine Wk ?_
   refine ret_eq ?_;simp only[go_sem]
   unfold formedI;rw[if_neg h1,if_pos (by omega)]
  ·refine W1 h2 ?_
   refine⟨fun h3 => ?_,fun h3 => ?_⟩
   ·refine W2 h2 h3 ?_
    refine Sd ?_
    refine(trace_in _ _ _).val.use ?_;simp only[go_sem]
    refine Sd ?_
    refine GCall.use (ab (inI e.msg 0 199)) (fun _=>⟨At,(trace_in _ _ _).val.use ⟨rfl,rfl⟩⟩) ?_;simp only[go_sem]
    refine Wk ?_
    refine ret_eq ?_;simp only[go_sem]
    unfold formedI;rw[if_neg h1,if_pos (by omega)]
   ·refine W2 h2 h3 ?_
    refine ret_eq ?_;simp only[go_sem]
    unfold formedI;rw[if_neg h1,if_neg (by omega)]
theorem trace_eventFault1 (y x:Int × Int):PC Proofs.Tryz.prog 86 [aAsg y,.rp 2 [aAsg x] 0 0] (ab (decide (y.1=x.1))):=by
 refine PC.enter 9 [.tmp 3] [2] Proofs.Tryz.func86 rfl rfl rfl rfl rfl (by simp) (AWp.of ?_);simp only[go_sem]
 refine Sd ?_
 refine AWp.of ?_;simp only[go_sem]
 refine Sd ?_
 refine AWp.of ?_;simp only[go_sem]
 refine ret_eq ?_;simp only[go_sem]
theorem trace_sends1 (e:Ev) (m to:Int):PC Proofs.Tryz.prog 106 [aEv e,.rp 1 [ai m] 0 0,.rp 1 [ai to] 0 0] (ab (decide (e.kind=2) && decide (e.msg=m) && decide (e.peer=to))):=by
 refine PC.enter 20 [.tmp 4] [3] Proofs.Tryz.func106 rfl rfl rfl rfl rfl (by simp) (AWp.of ?_);simp only[go_sem]
 refine Sd ?_
 refine AWp.of ?_;simp only[go_sem]
 refine Sd ?_
 refine AWp.of ?_;simp only[go_sem]
 refine ret_eq ?_;simp only[go_sem]
theorem trace_sends (ps:List Pr) (hs:Sm ps) (p:Nat) (hp:p<ps.length) (m to:Int):PC Proofs.Tryz.prog 87 [aTr ps,ai p,ai m,ai to] (ab (ps[p].evs.any fun e=>decide (e.kind=2) && decide (e.msg=m) && decide (e.peer=to))):=by
 have hm:=List.getElem_mem hp
 refine PC.enter 17 [.tmp 8] [4,6,7] Proofs.Tryz.func87 rfl rfl rfl rfl rfl (by simp) (AWp.of ?_);simp only[go_sem]
 refine Sd ?_
 refine AWp.of ?_;simp only[go_sem,getD_map hp]
 refine Sd ?_
 refine(events_containsFunc ps[p].evs (hs.evs _ hm) (.clo 106 [.rp 1 [ai m] 0 0,.rp 1 [ai to] 0 0]) rfl (fun e=>decide (e.kind=2) && decide (e.msg=m) && decide (e.peer=to)) fun e _=>(trace_sends1 e m to).clo).val.use ?_;simp only[go_sem]
 refine Sd ?_
 refine AWp.of ?_;simp only[go_sem]
 refine ret_eq ?_;simp only[go_sem]
theorem trace_eventFault (ps:List Pr) (hs:Sm ps) (p:Nat) (hp:p<ps.length) (i:Nat) (hi:i<ps[p].evs.length) :
  PC Proofs.Tryz.prog 63 [aTr ps,aEid (p,(i:Int)+1),aEv ps[p].evs[i]] (ai (evF ps p i)):=by
 have hm:=List.getElem_mem hp
 have hl:=hs.procs
 have hel:=hs.evs _ hm
 have hvl:=hs.vars _ hm
 have hal:=hs.asg _ hm _ (List.getElem_mem hi)
 have e1:ps[p]?=some ps[p]:=List.getElem?_eq_getElem hp
 have e2:ps[p].evs[i]?=some ps[p].evs[i]:=List.getElem?_eq_getElem hi
 generalize hx:ps[p]=x at *
 generalize hev:x.evs[i]=e at *
 refine PC.enter 82 [.tmp 6] [3,4,5,7,10] Proofs.Tryz.func63 rfl rfl rfl rfl rfl (by simp) (AWp.of ?_);simp only[go_sem]
 refine Sd ?_
 refine AWp.of ?_;simp only[go_sem,getD_map hp,hx]
 refine Sd ?_
 intros
 refine AWp.of ?_;simp only[go_sem,getD_map hp,hx]
 refine AWp.cut [3,4,5,7,8] (fun vs L=>L=[]∧vs=[.rp 1 [aTr ps] 0 0,.rp 2 [aEid (p,(i:Int)+1)] 0 0,.rp 5 [aEv e] 0 0,.rp 3 [aPr x] 0 0,ai (lastT x.evs i)]) ?_ ?_
 ·repeat(first|((with_reducible refine AWp.ofC ?_ ?_);exact rfl;simp only[go_sem,getD_map hp])|((with_reducible refine an ?_ ?_);exact Au))
  refine⟨fun h => ?_,fun h => ?_⟩
  ·have e3:((i:Int)+1 - 2).toNat=i - 1:=by omega
   have h4:i - 1<x.evs.length:=by omega
   simp only[go_sem,e3,getD_map h4]
   refine Sd ?_
   refine⟨[],List.Sublist.refl _,rfl,?_⟩
   simp only[lastT,List.getElem?_eq_getElem h4];rw[if_neg (by omega)]
  ·refine⟨[],List.Sublist.refl _,rfl,?_⟩
   simp only[lastT];rw[if_pos (by omega)]
 ·rintro vs L' - ⟨rfl,rfl⟩
  simp only[go_sem]
  have ex:evF ps p i=if !formedI ps.length p e then 3 else if !inI e.time 0 1099511627776 || decide (e.time<lastT x.evs i) then 11 else if 8<e.asg.length then 5 else fstF (asgF x.vars.length e.asg) e.asg.length:=by
   simp only[evF,e1,e2]
  refine Wk ?_
  refine Sd ?_
  refine(trace_formed ps hs p e).val.use ?_;simp only[go_sem]
  refine Wk ?_
  refine⟨fun h1 => ?_,fun h1 => ?_⟩
  ·refine Wk ?_
   refine ret_eq ?_;simp only[go_sem]
   rw[ex,if_pos (by simp [h1])]
  ·refine Wk ?_
   refine Sd ?_
   refine(trace_in _ _ _).val.use ?_;simp only[go_sem]
   refine Wk ?_
   refine⟨fun h2 => ?_,fun h2 h3 => ?_⟩
   ·refine Wk ?_
    refine ret_eq ?_;simp only[go_sem]
    rw[ex,if_neg (by rw[h1];decide),if_pos (by rcases h2 with h2|h2;(rw[h2];rfl);(rw[decide_eq_true h2,Bool.or_true]))]
   ·have c1:¬((!formedI ps.length p e)=true):=by rw[h1];decide
    have c2:¬((!inI e.time 0 1099511627776 || decide (e.time<lastT x.evs i))=true):=by rw[h2,decide_eq_false h3];decide
    refine Wk ?_
    refine⟨fun h4 => ?_,fun h4 => ?_⟩
    ·refine Wk ?_
     refine ret_eq ?_;simp only[go_sem]
     rw[ex,if_neg c1,if_neg c2,if_pos (by omega)]
    ·refine Wk ?_
     have ex:evF ps p i=fstF (asgF x.vars.length e.asg) e.asg.length:=by rw[ex,if_neg c1,if_neg c2,if_neg (by omega)]
     refine AWp.range' e.asg.length [] [5,7,52,53] (fun k vs L=>L=[]∧∀i,i<k→asgF x.vars.length e.asg i=0) (by omega) rfl rfl rfl ⟨rfl,by omega⟩ ?_ ?_
     ·rintro k vs L' hk hvs ⟨rfl,hI⟩
      simp only[go_sem]
      have e3:e.asg[k]?=some e.asg[k]:=List.getElem?_eq_getElem hk
      refine Sd ?_
      refine AWp.of ?_;simp only[go_sem,getD_map hk]
      refine Sd ?_
      intros
      refine AWp.of ?_;simp only[go_sem]
      refine Sd ?_
      refine(trace_in _ _ _).val.use ?_;simp only[go_sem]
      refine Sd ?_
      refine GCall.use (ab (inI e.asg[k].2 (-1073741824) 1073741824)) (fun _=>⟨At,(trace_in _ _ _).val.use ⟨rfl,rfl⟩⟩) ?_;simp only[go_sem]
      refine Wk ?_
      refine⟨fun h5 => ?_,fun h5 h6 => ?_⟩
      ·refine Wk ?_
       refine ret_eq ?_;simp only[go_sem]
       have hv:asgF x.vars.length e.asg k=2:=by simp only[asgF,e3];rw[if_pos (by simpa using h5)]
       rw[ex,fstF_hit hk hI (by rw[hv];decide),hv]
      ·refine Wk ?_
       refine Sd ?_
       refine(asgs_containsFunc (e.asg.take k) (take_le hal) (.clo 86 [.rp 2 [aAsg e.asg[k]] 0 0]) rfl (fun b=>decide (b.1=e.asg[k].1)) fun y _=>(trace_eventFault1 y e.asg[k]).clo).val.use ?_;simp only[go_sem]
       refine Wk ?_
       refine⟨fun h7 => ?_,fun h7 => ?_⟩
       ·refine Wk ?_
        refine ret_eq ?_;simp only[go_sem]
        have hv:asgF x.vars.length e.asg k=8:=by simp only[asgF,e3];rw[if_neg (by simp [h5,h6]),if_pos h7]
        rw[ex,fstF_hit hk hI (by rw[hv];decide),hv]
       ·refine⟨[],List.Sublist.refl _,rfl,fun i hi => ?_⟩
        by_cases e4:i=k
        ·subst e4;simp only[asgF,e3];rw[if_neg (by simp [h5,h6]),if_neg (by simp [h7])]
        ·exact hI i (by omega)
     ·rintro vs L' hvs ⟨rfl,hI⟩
      simp only[go_sem]
      refine Wk ?_
      refine ret_eq ?_;simp only[go_sem]
      rw[ex,fstF_none hI]
def evRow (p i:Nat):List Ev→List (Eid × Ev)
 | []=>[]
 | e :: r=>(((p:Int),(i:Int)+1),e) :: evRow p (i+1) r
def evFrom (p:Nat):List Pr→List (Eid × Ev)
 | []=>[]
 | x :: r=>evRow p 0 x.evs ++ evFrom (p+1) r
def evIds (ps:List Pr):List (Eid × Ev):=evFrom 0 ps
def off (ps:List Pr) (p:Nat):Nat:=((ps.take p).map fun x=>x.evs.length).sum
theorem evRow_length (p i:Nat) (l:List Ev):(evRow p i l).length=l.length:=by
 induction l generalizing i with
 | nil=>rfl
 | cons e r ih=>simp [evRow,ih]
theorem evRow_get (p i:Nat) (l:List Ev) (k:Nat):(evRow p i l)[k]?=(l[k]?).map fun e=>(((p:Int),(i:Int)+k+1),e):=by
 induction l generalizing i k with
 | nil=>simp [evRow]
 | cons e r ih =>
  cases k with
  | zero=>simp [evRow]
  | succ k =>
   simp only[evRow,List.getElem?_cons_succ,ih]
   cases r[k]? with
   | none=>rfl
   | some e=>simp;omega
theorem off_succ {ps:List Pr} {p:Nat} (hp:p<ps.length):off ps (p+1)=off ps p+ps[p].evs.length:=by
 unfold off
 rw[List.take_succ_eq_append_getElem hp,List.map_append,List.sum_append];rfl
theorem evFrom_get (q:Nat) (ps:List Pr) (p:Nat) (hp:p<ps.length) (i:Nat) (hi:i<ps[p].evs.length):(evFrom q ps)[off ps p+i]?=some ((((q+p:Nat):Int),(i:Int)+1),ps[p].evs[i]):=by
 induction ps generalizing q p with
 | nil=>simp at hp
 | cons x r ih =>
  cases p with
  | zero =>
   simp only[evFrom,off,List.take_zero,List.map_nil,List.sum_nil,Nat.zero_add]
   simp only[List.getElem_cons_zero] at hi
   rw[List.getElem?_append_left (by rw[evRow_length];exact hi),evRow_get,List.getElem?_eq_getElem hi]
   simp
  | succ p =>
   simp only[List.getElem_cons_succ] at hi ⊢
   simp only[List.length_cons,Nat.add_lt_add_iff_right] at hp
   have h:=ih (q+1) p hp hi
   simp only[evFrom]
   rw[List.getElem?_append_right (by rw[evRow_length];simp [off];omega),evRow_length]
   have e:off (x :: r) (p+1)+i - x.evs.length=off r p+i:=by simp [off];omega
   rw[e,h]
   congr 4;omega
theorem evIds_get {ps:List Pr} {p:Nat} (hp:p<ps.length) {i:Nat} (hi:i<ps[p].evs.length):(evIds ps)[off ps p+i]?=some (((p:Int),(i:Int)+1),ps[p].evs[i]):=by
 have:=evFrom_get 0 ps p hp i hi
 simpa [evIds] using this
theorem evIds_length (ps:List Pr):(evIds ps).length=off ps ps.length:=by
 have:∀q,(evFrom q ps).length=off ps ps.length:=by
  induction ps with
  | nil=>intro q;rfl
  | cons x r ih=>intro q;simp [evFrom,evRow_length,ih,off]
 exact this 0
theorem off_le {ps:List Pr} {p:Nat} (hp:p<ps.length):off ps p+ps[p].evs.length≤off ps ps.length:=by
 rw[← off_succ hp]
 unfold off
 rw[List.take_length]
 have h:ps=ps.take (p+1) ++ ps.drop (p+1):=(List.take_append_drop _ _).symm
 conv=>rhs;rw[h]
 rw[List.map_append,List.sum_append];omega
theorem evIds_inv {ps:List Pr} {k:Nat} {x:Eid × Ev} (h:(evIds ps)[k]?=some x):∃(p:Nat) (hp:p<ps.length) (i:Nat) (hi:i<ps[p].evs.length),k=off ps p+i∧x=(((p:Int),(i:Int)+1),ps[p].evs[i]):=by
 have hk:k<off ps ps.length:=by rw[← evIds_length];exact(List.getElem?_eq_some_iff.1 h).1
 have key:∀n,n≤ps.length→k<off ps n→∃(p:Nat) (hp:p<ps.length) (i:Nat) (hi:i<ps[p].evs.length),k=off ps p+i:=by
  intro n
  induction n with
  | zero=>intro _ h;simp [off] at h
  | succ n ih =>
   intro hn hlt
   by_cases hc:k<off ps n
   ·exact ih (by omega) hc
   ·rw[off_succ (by omega)] at hlt
    exact⟨n,by omega,k - off ps n,by omega,by omega⟩
 obtain⟨p,hp,i,hi,rfl⟩:=key _ (Nat.le_refl _) hk
 rw[evIds_get hp hi] at h
 exact⟨p,hp,i,hi,rfl,(Option.some.inj h).symm⟩
def evArgs (ps:List Pr):List (List AV):=(evIds ps).map fun x=>[aEid x.1,aEv x.2]
theorem evArgs_inv {ps:List Pr} {k:Nat} {x:List AV} (h:(evArgs ps)[k]?=some x) :
  ∃(p:Nat) (hp:p<ps.length) (i:Nat) (hi:i<ps[p].evs.length),k=off ps p+i∧(evIds ps)[k]?=some (((p:Int),(i:Int)+1),ps[p].evs[i])∧x=[aEid (p,(i:Int)+1),aEv ps[p].evs[i]]:=by
 unfold evArgs at h
 rw[List.getElem?_map,Option.map_eq_some_iff] at h
 obtain⟨a,ha,rfl⟩:=h
 obtain⟨p,hp,i,hi,e1,rfl⟩:=evIds_inv ha
 exact⟨p,hp,i,hi,e1,ha,rfl⟩
theorem trace_events (ps:List Pr):PC Proofs.Tryz.prog 62 [aTr ps] (.clo 83 [.rp 1 [aTr ps] 0 0]):=by
 refine PC.enter 4 [.tmp 2] [1] Proofs.Tryz.func62 rfl rfl rfl rfl rfl (by simp) (AWp.of ?_);simp only[go_sem]
 refine Wk ?_
 refine ret_eq ?_;simp only[go_sem]
theorem trace_events1 (ps:List Pr) (hs:Sm ps):IterC Proofs.Tryz.prog (.clo 83 [.rp 1 [aTr ps] 0 0]) (evArgs ps):=by
 intro y L I S hy h0 step
 refine MCalls.clo ?_
 simp only[List.cons_append,List.nil_append]
 have hl:=hs.procs
 have step':∀(p:Nat) (hp:p<ps.length) (i:Nat) (hi:i<ps[p].evs.length) L',I (off ps p+i) L'→MVal Proofs.Tryz.prog y [aEid (p,(i:Int)+1),aEv ps[p].evs[i]] L' fun r L''=>(r=ab true∧I (off ps p+i+1) L'')∨(r=ab false∧S L''):=fun p hp i hi L' hI=>by
  refine step (off ps p+i) _ L' ?_ hI
  unfold evArgs;rw[List.getElem?_map,evIds_get hp hi];rfl
 have hlen:(evArgs ps).length=off ps ps.length:=by unfold evArgs;rw[List.length_map,evIds_length]
 rw[hlen]
 refine MCalls.enter' 33 [] [4,6] Proofs.Tryz.func83 rfl rfl rfl rfl rfl (by simp) (AWp.of ?_);simp only[go_sem]
 refine AWp.range' ps.length [] [0,8,9] (fun k vs L=>I (off ps k) L) (by omega) rfl rfl rfl (by simpa [off] using h0) ?_ ?_
 ·rintro p vs L' hp - hI
  have hm:=List.getElem_mem hp
  have hel:=hs.evs _ hm
  simp only[go_sem]
  refine Sd ?_
  refine AWp.of ?_;simp only[go_sem,getD_map hp]
  refine Sd ?_
  intros
  refine AWp.of ?_;simp only[go_sem]
  refine AWp.range' ps[p].evs.length [] [0,3,8,9,10,16,17] (fun k vs L=>I (off ps p+k) L) (by omega) rfl rfl rfl hI ?_ ?_
  ·rintro i vs L' hi - hI
   simp only[go_sem]
   refine Sd ?_
   refine AWp.of ?_;simp only[go_sem,getD_map hi]
   refine Sd ?_
   intros
   refine AWp.of ?_;simp only[go_sem,hy]
   refine Sd ?_
   refine(step' p hp i hi L' hI).mono ?_
   rintro r L'' (⟨rfl,hI'⟩|⟨rfl,hS⟩)
   ·simp only[go_sem]
    refine Wk ?_
    exact⟨_,List.Sublist.refl _,hI'⟩
   ·simp only[go_sem]
    refine Wk ?_
    refine ret_own ?_
    simp only[go_sem]
    exact .inr hS
  ·rintro vs L' - hI
   simp only[go_sem]
   exact⟨_,List.Sublist.refl _,by rw[off_succ hp];exact hI⟩
 ·rintro vs L' - hI
  simp only[go_sem]
  refine Wk ?_
  refine ret_own ?_
  simp only[go_sem]
  exact .inl hI
def findIn (l:List (Eid × Ev)) (kind m:Int):Eid:=match l.find? (fun x=>decide (x.2.kind=kind) && decide (x.2.msg=m)) with|some x=>x.1|none=>(0,0)
def sendsB (ps:List Pr) (p m to:Int):Bool:=match ps[p.toNat]? with|some x=>x.evs.any fun e=>decide (e.kind=2) && decide (e.msg=m) && decide (e.peer=to)|none=>false
def pairF (ps:List Pr) (k:Nat):Int :=
 match (evIds ps)[k]? with
 | some (id,e) =>
  if e.kind=2 then if (findIn ((evIds ps).take k) 2 e.msg).2 > 0 then 8 else 0
  else if e.kind=3 then if (findIn ((evIds ps).take k) 3 e.msg).2 > 0 then 8 else if !sendsB ps e.peer e.msg id.1 then 7 else 0
  else 0
 | none=>0
def msgF (ps:List Pr):Option (Eid × Int) :=
 match (List.range (evIds ps).length).find? (fun k=>pairF ps k != 0) with
 | some k=>some ((((evIds ps)[k]?).map (·.1)).getD (0,0),pairF ps k)
 | none=>none
def Formed (ps:List Pr):Prop:=∀(p:Nat) (hp:p<ps.length),∀e ∈ ps[p].evs,formedI ps.length p e=true
def cellOf (l:List (Eid × Ev)) (j:Nat):AV :=
 ai (if j % 4=0 then (findIn l 2 (j / 4:Nat)).1 else if j % 4=1 then (findIn l 2 (j / 4:Nat)).2 else if j % 4=2 then (findIn l 3 (j / 4:Nat)).1 else (findIn l 3 (j / 4:Nat)).2)
def letCells (l:List (Eid × Ev)):List AV:=(List.range 800).map (cellOf l)
theorem letCells_nil:zrow 800 (ai 0)=letCells []:=by
 refine(List.eq_replicate_iff.2 ⟨by simp [letCells],fun x hx => ?_⟩).symm
 simp only[letCells,List.mem_map] at hx
 obtain⟨j,_,rfl⟩:=hx
 simp [cellOf,findIn]
theorem letCells_get (l:List (Eid × Ev)) {j:Nat} (h:j<800):(letCells l).getD j .any=cellOf l j:=by
 simp [letCells,List.getD_eq_getElem?_getD,h]
theorem letCells_from (l:List (Eid × Ev)) (m:Int) (h1:0≤m) (h2:m≤199):(letCells l).getD (m.toNat * 4+1) .any=ai (findIn l 2 m).2:=by
 rw[letCells_get l (by omega)];unfold cellOf
 rw[if_neg (by omega),if_pos (by omega),show ((m.toNat * 4+1) / 4:Nat)=m.toNat by omega,Int.toNat_of_nonneg h1]
theorem letCells_to (l:List (Eid × Ev)) (m:Int) (h1:0≤m) (h2:m≤199):(letCells l).getD (m.toNat * 4+2+1) .any=ai (findIn l 3 m).2:=by
 rw[letCells_get l (by omega)];unfold cellOf
 rw[if_neg (by omega),if_neg (by omega),if_neg (by omega),show ((m.toNat * 4+2+1) / 4:Nat)=m.toNat by omega,Int.toNat_of_nonneg h1]
theorem letCells_length (l:List (Eid × Ev)):(letCells l).length=800:=by simp [letCells]
theorem letCells_one (l:List (Eid × Ev)):(letCells l).all one=true:=by
 simp only[letCells,List.all_map,List.all_eq_true]
 intro x _;simp [cellOf,one,Value.oneCell']
theorem letCells_pair (l:List (Eid × Ev)) (m c:Nat) (hm:m<200) (hc:c=0∨c=2):((letCells l).drop (m * 4+c)).take 2=if c=0 then [ai (findIn l 2 m).1,ai (findIn l 2 m).2] else [ai (findIn l 3 m).1,ai (findIn l 3 m).2]:=by
 have h1:(letCells l).drop (m * 4+c)=cellOf l (m * 4+c) :: cellOf l (m * 4+c+1) :: (letCells l).drop (m * 4+c+2):=by
  rw[List.drop_eq_getElem_cons (by rw[letCells_length];omega),List.drop_eq_getElem_cons (by rw[letCells_length];omega)]
  simp [letCells]
 rw[h1]
 rcases hc with rfl|rfl
 ·simp [cellOf,show (m * 4+1) % 4=1 by omega,show (m * 4+1) / 4=m by omega]
 ·simp [cellOf,show (m * 4+2) % 4=2 by omega,show (m * 4+2) / 4=m by omega,show (m * 4+3) % 4=3 by omega,show (m * 4+3) / 4=m by omega]
theorem findIn_append (l:List (Eid × Ev)) (id:Eid) (e:Ev) (kind m:Int) (h:(findIn l kind m).2≤0) (hl:∀x ∈ l,0<x.1.2) :
  findIn (l ++ [(id,e)]) kind m=if e.kind=kind∧e.msg=m then id else findIn l kind m:=by
 unfold findIn at *
 rw[List.find?_append]
 cases hf:l.find? (fun x=>decide (x.2.kind=kind) && decide (x.2.msg=m)) with
 | some x=>rw[hf] at h;have:=hl x (List.mem_of_find?_eq_some hf);simp at h;omega
 | none =>
  by_cases hc:e.kind=kind∧e.msg=m
  ·simp [hc]
  ·rw[if_neg hc]
   have:(List.find? (fun x:Eid × Ev=>decide (x.2.kind=kind) && decide (x.2.msg=m)) [(id,e)])=none:=by
    rw[List.find?_eq_none];intro x hx;simp at hx;subst hx;simpa using hc
   rw[this];rfl
theorem findIn_append_ne (l:List (Eid × Ev)) (id:Eid) (e:Ev) (kind m:Int) (hne:¬(e.kind=kind∧e.msg=m)):findIn (l ++ [(id,e)]) kind m=findIn l kind m:=by
 unfold findIn
 rw[List.find?_append]
 have:(List.find? (fun x:Eid × Ev=>decide (x.2.kind=kind) && decide (x.2.msg=m)) [(id,e)])=none:=by
  rw[List.find?_eq_none];intro x hx;simp at hx;subst hx;simpa using hne
 rw[this];simp
theorem letCells_set (l:List (Eid × Ev)) (id:Eid) (e:Ev) (m c:Nat) (hm:m<200) (he:e.msg=m) (hc:c=0∧e.kind=2∨c=2∧e.kind=3) (h:(findIn l e.kind m).2≤0) (hl:∀x ∈ l,0<x.1.2) :
  splice (letCells l) (m * 4+c) [ai id.1,ai id.2]=letCells (l ++ [(id,e)]):=by
 apply List.ext_getElem?
 intro j
 rw[splice_get _ _ _ (by rw[letCells_length];simp;omega)]
 by_cases hj:j<800
 ·have g:∀l',(letCells l')[j]?=some (cellOf l' j):=fun l'=>by simp [letCells,hj]
  rw[g,g]
  by_cases hin:m * 4+c≤j∧j<m * 4+c+2
  ·rw[if_pos (by simpa using hin)]
   have hd:j / 4=m:=by omega
   rcases hc with ⟨rfl,hk⟩|⟨rfl,hk⟩
   ·rw[hk] at h
    have hf:=findIn_append l id e 2 m h hl
    rw[if_pos ⟨hk,he⟩] at hf
    rcases (show j=m * 4∨j=m * 4+1 by omega) with rfl|rfl
    ·simp [cellOf,hf]
    ·simp [cellOf,show (m * 4+1) % 4=1 by omega,show (m * 4+1) / 4=m by omega,hf]
   ·rw[hk] at h
    have hf:=findIn_append l id e 3 m h hl
    rw[if_pos ⟨hk,he⟩] at hf
    rcases (show j=m * 4+2∨j=m * 4+3 by omega) with rfl|rfl
    ·simp [cellOf,show (m * 4+2) % 4=2 by omega,show (m * 4+2) / 4=m by omega,hf]
    ·simp [cellOf,show (m * 4+3) % 4=3 by omega,show (m * 4+3) / 4=m by omega,hf,show m * 4+3 - (m * 4+2)=1 by omega]
  ·rw[if_neg (by simpa using hin)]
   congr 1
   have e2:j % 4<2→findIn (l ++ [(id,e)]) 2 (j / 4:Nat)=findIn l 2 (j / 4:Nat):=fun hj4=>findIn_append_ne _ _ _ _ _ (by rintro⟨h1,h2⟩;rw[he] at h2;rcases hc with ⟨rfl,hk⟩|⟨rfl,hk⟩ <;> omega)
   have e3:¬j % 4<2→findIn (l ++ [(id,e)]) 3 (j / 4:Nat)=findIn l 3 (j / 4:Nat):=fun hj4=>findIn_append_ne _ _ _ _ _ (by rintro⟨h1,h2⟩;rw[he] at h2;rcases hc with ⟨rfl,hk⟩|⟨rfl,hk⟩ <;> omega)
   unfold cellOf
   by_cases h4:j % 4<2
   ·rw[e2 h4]
    rcases (show j % 4=0∨j % 4=1 by omega) with h|h <;> simp [h]
   ·rw[e3 h4]
    rcases (show j % 4=2∨j % 4=3 by omega) with h|h <;> simp [h]
 ·have g:∀l',(letCells l')[j]?=none:=fun l'=>by simp [letCells];omega
  rw[g,g,if_neg (by simp;omega)]
theorem letCells_setA (l:List (Eid × Ev)) (a b:Int) (e:Ev) (h1:0≤e.msg) (h2:e.msg≤199) (hk:e.kind=2) (h:(findIn l 2 e.msg).2≤0) (hl:∀x ∈ l,0<x.1.2) :
  (letCells l).take (e.msg.toNat * 4) ++ [ai a,ai b] ++ (letCells l).drop (e.msg.toNat * 4+2)=letCells (l ++ [((a,b),e)]):=by
 have:=letCells_set l (a,b) e e.msg.toNat 0 (by omega) (by omega) (.inl ⟨rfl,hk⟩) (by rw[hk,Int.toNat_of_nonneg h1];exact h) hl
 rw[← this];rfl
theorem letCells_setB (l:List (Eid × Ev)) (a b:Int) (e:Ev) (h1:0≤e.msg) (h2:e.msg≤199) (hk:e.kind=3) (h:(findIn l 3 e.msg).2≤0) (hl:∀x ∈ l,0<x.1.2) :
  (letCells l).take (e.msg.toNat * 4+2) ++ [ai a,ai b] ++ (letCells l).drop (e.msg.toNat * 4+2+2)=letCells (l ++ [((a,b),e)]):=by
 have:=letCells_set l (a,b) e e.msg.toNat 2 (by omega) (by omega) (.inr ⟨rfl,hk⟩) (by rw[hk,Int.toNat_of_nonneg h1];exact h) hl
 rw[← this];rfl
theorem letCells_same (l:List (Eid × Ev)) (id:Eid) (e:Ev) (h2:e.kind ≠ 2) (h3:e.kind ≠ 3):letCells (l ++ [(id,e)])=letCells l:=by
 unfold letCells
 congr 1;funext j
 unfold cellOf
 rw[findIn_append_ne _ _ _ _ _ (by rintro⟨h,_⟩;exact h2 h),findIn_append_ne _ _ _ _ _ (by rintro⟨h,_⟩;exact h3 h)]
theorem evIds_pos (ps:List Pr):∀x ∈ evIds ps,0<x.1.2:=fun x hx=>by
 obtain⟨k,hk⟩:=List.getElem?_of_mem hx
 obtain⟨p,hp,i,hi,_,rfl⟩:=evIds_inv hk
 show (0:Int)<(i:Int)+1
 omega
theorem msgF_hit {ps:List Pr} {k:Nat} {x:Eid × Ev} (hx:(evIds ps)[k]?=some x) (h0:∀j,j<k→pairF ps j=0) (h:pairF ps k ≠ 0):msgF ps=some (x.1,pairF ps k):=by
 have:(List.range (evIds ps).length).find? (fun k=>pairF ps k != 0)=some k:=by
  rw[List.find?_range_eq_some]
  exact⟨by simpa using h,by simpa using (List.getElem?_eq_some_iff.1 hx).1,fun j hj=>by simpa using h0 j hj⟩
 unfold msgF;rw[this];simp only[hx];rfl
theorem msgF_none {ps:List Pr} (h:∀k,k<(evIds ps).length→pairF ps k=0):msgF ps=none:=by
 have:(List.range (evIds ps).length).find? (fun k=>pairF ps k != 0)=none:=by
  rw[List.find?_eq_none];intro i hi;simpa using h i (List.mem_range.1 hi)
 unfold msgF;rw[this]
def aLet (ps:List Pr):AV:=.rp 800 [.agg (letCells (evIds ps))] 0 0
def aMsg (ps:List Pr):AV:=match msgF ps with
 | some (id,e) => .tup [.v (.pointer none),aEid id,ai e]
 | none => .tup [aLet ps,aEid (0,0),ai 0]
attribute [irreducible] letCells
theorem formed_msg {n:Nat} {p:Int} {e:Ev} (h:formedI n p e=true) (hk:e.kind=2∨e.kind=3):0≤e.msg∧e.msg≤199∧0≤e.peer∧e.peer<n:=by
 unfold formedI at h
 rw[if_neg (by omega),if_pos hk] at h
 simp only[inI,Bool.and_eq_true,decide_eq_true_eq] at h
 omega
theorem trace_messageFault (ps:List Pr) (hs:Sm ps) (hf:Formed ps):PC Proofs.Tryz.prog 64 [aTr ps] (aMsg ps):=by
 refine PC.enter 64 [.cell 2 129,.cell 3 54,.cell 4 28] [1,5,6,7] Proofs.Tryz.func64 rfl rfl rfl rfl rfl (by simp) (AWp.of ?_);simp only[go_sem]
 intro b2
 intro b3 h3
 intro b4 h4 h4'
 have z:zrow 800 (ai 0)=letCells []:=letCells_nil
 refine Sd ?_
 refine AWp.of ?_;simp only[go_sem,z,letCells_length,letCells_one]
 intro b5 _ _ _ b6 _ _ _ _
 have n25:¬b2=b5:=by omega
 have n24:¬b2=b4:=by omega
 have n23:¬b2=b3:=by omega
 have n35:¬b3=b5:=by omega
 have n34:¬b3=b4:=by omega
 have n45:¬b4=b5:=by omega
 refine Sd ?_
 refine AWp.of ?_;simp only[go_sem]
 refine Sd ?_
 refine(trace_events ps).val.use ?_;simp only[go_sem]
 refine AWp.block (AWp.rangeFunc rfl [1,2,3,4,5] (evArgs ps) (fun k L=>L=[(b5,.row 159 800 [.agg (letCells ((evIds ps).take k))] 1),(b4,.row 28 1 [ai 0] 1),(b3,.row 54 2 [aEid (0,0)] 1),(b2,.row 129 1 [.v (.pointer none)] 1)]∧∀j,j<k→pairF ps j=0)
  (fun e L=>e = .ret∧∃id n,msgF ps=some (id,n)∧L=[(b4,.row 28 1 [ai n] 1),(b3,.row 54 2 [aEid id] 1),(b2,.row 129 1 [.v (.pointer none)] 1)])
  rfl (trace_events1 ps hs) (fun x hx=>by obtain⟨k,hk⟩:=List.getElem?_of_mem hx;obtain⟨_,_,_,_,_,_,rfl⟩:=evArgs_inv hk;rfl) ⟨by simp [aEid],by omega⟩ ?_ ?_ ?_)
 ·rintro k x L' l hx ⟨rfl,hI⟩
  obtain⟨p,hp,i,hi,hk,hev,rfl⟩:=evArgs_inv hx
  have hfe:=hf p hp _ (List.getElem_mem hi)
  have hm:=List.getElem_mem hp
  have htk:(evIds ps).take (k+1)=(evIds ps).take k ++ [(((p:Int),(i:Int)+1),ps[p].evs[i])]:=by
   rw[List.take_succ_eq_append_getElem (List.getElem?_eq_some_iff.1 hev).1];congr 2;exact(List.getElem?_eq_some_iff.1 hev).2
  have hl:∀x ∈ (evIds ps).take k,0<x.1.2:=fun x hx=>evIds_pos ps x (List.mem_of_mem_take hx)
  generalize ps[p].evs[i]=e at *
  generalize ht:(evIds ps).take k=tk at *
  have hpf:pairF ps k=if e.kind=2 then if (findIn tk 2 e.msg).2 > 0 then 8 else 0 else if e.kind=3 then if (findIn tk 3 e.msg).2 > 0 then 8 else if !sendsB ps e.peer e.msg p then 7 else 0 else 0:=by
   simp only[pairF,hev,ht]
  simp only[go_sem]
  refine Sd ?_
  refine AWp.of ?_;simp only[go_sem]
  refine Sd ?_
  intros
  refine AWp.of ?_;simp only[go_sem]
  refine Sd ?_
  intros
  refine AWp.of ?_;simp only[go_sem]
  refine Wk ?_
  refine⟨fun h1 => ?_,fun h1 => ?_⟩
  ·obtain⟨hm1,hm2,_,_⟩:=formed_msg hfe (.inl h1)
   have c1:=letCells_from tk e.msg hm1 hm2
   simp only[go_sem,c1]
   rw[if_pos h1] at hpf
   refine Wk ?_
   refine⟨fun h2 => ?_,fun h2 => ?_⟩
   ·refine AWp.drawnT mixed (.step 0 (.step 1 (.step 2 (.step 3 .done .done) .done) .done) (.step 1 (.step 0 (.step 2 (.step 3 .done .done) .done) .done) .done)) (by kernel_rfl) ?_;simp only[go_sem,n25,n24,n23,n35,n34,n45]
    refine Wk ?_
    rw[if_pos h2] at hpf
    exact⟨_,List.sublist_cons_self _ _,_,8,by rw[msgF_hit hev hI (by rw[hpf];decide),hpf],rfl⟩
   ·refine AWp.drawn mixed 6 (by kernel_rfl) ?_;simp only[go_sem]
    refine Sd ?_
    rw[if_neg h2] at hpf
    refine⟨_,List.Sublist.refl _,?_,?_⟩
    ·rw[letCells_setA tk p (i+1) e hm1 hm2 h1 (by omega) hl,htk]
    ·intro j hj
     by_cases hjk:j=k
     ·rw[hjk];exact hpf
     ·exact hI j (by omega)
  ·rw[if_neg h1] at hpf
   refine Wk ?_
   refine⟨fun h2 => ?_,fun h2 => ?_⟩
   ·obtain⟨hm1,hm2,hm3,hm4⟩:=formed_msg hfe (.inr h2)
    have c1:=letCells_to tk e.msg hm1 hm2
    rw[if_pos h2] at hpf
    simp only[go_sem,c1]
    refine Wk ?_
    refine⟨fun h3 => ?_,fun h3 => ?_⟩
    ·refine AWp.drawnT mixed (.step 0 (.step 1 (.step 2 (.step 3 .done .done) .done) .done) (.step 1 (.step 0 (.step 2 (.step 3 .done .done) .done) .done) .done)) (by kernel_rfl) ?_;simp only[go_sem,n25,n24,n23,n35,n34,n45]
     refine Wk ?_
     rw[if_pos h3] at hpf
     exact⟨_,List.sublist_cons_self _ _,_,8,by rw[msgF_hit hev hI (by rw[hpf];decide),hpf],rfl⟩
    ·rw[if_neg h3] at hpf
     refine Wk ?_
     have hpn:e.peer.toNat<ps.length:=by omega
     have hpe:((e.peer.toNat:Nat):Int)=e.peer:=Int.toNat_of_nonneg hm3
     have hsd:=trace_sends ps hs e.peer.toNat hpn e.msg p
     rw[hpe] at hsd
     have hsb:sendsB ps e.peer e.msg p=(ps[e.peer.toNat].evs.any fun x=>decide (x.kind=2) && decide (x.msg=e.msg) && decide (x.peer=p)):=by
      simp only[sendsB,List.getElem?_eq_getElem hpn]
     rw[← hsb] at hsd
     refine Sd ?_
     refine(hsd).val.use ?_;simp only[go_sem]
     refine Wk ?_
     refine⟨fun h4 => ?_,fun h4 => ?_⟩
     ·refine AWp.drawnT mixed (.step 0 (.step 1 (.step 2 (.step 3 .done .done) .done) .done) (.step 1 (.step 0 (.step 2 (.step 3 .done .done) .done) .done) .done)) (by kernel_rfl) ?_;simp only[go_sem,n25,n24,n23,n35,n34,n45]
      refine Wk ?_
      rw[if_pos (by simp [h4])] at hpf
      exact⟨_,List.sublist_cons_self _ _,_,7,by rw[msgF_hit hev hI (by rw[hpf];decide),hpf],rfl⟩
     ·refine AWp.drawn mixed 6 (by kernel_rfl) ?_;simp only[go_sem]
      refine Sd ?_
      rw[if_neg (by simp [h4])] at hpf
      refine⟨_,List.Sublist.refl _,?_,?_⟩
      ·rw[letCells_setB tk p (i+1) e hm1 hm2 h2 (by omega) hl,htk]
      ·intro j hj
       by_cases hjk:j=k
       ·rw[hjk];exact hpf
       ·exact hI j (by omega)
   ·rw[if_neg h2] at hpf
    refine⟨_,List.Sublist.refl _,?_,?_⟩
    ·rw[htk,letCells_same _ _ _ h1 h2]
    ·intro j hj
     by_cases hjk:j=k
     ·rw[hjk];exact hpf
     ·exact hI j (by omega)
 ·rintro L' ⟨rfl,hI⟩
  simp only[go_sem]
  refine W6 n25 n24 n23 n35 n34 n45 ?_
  have hlen:(evArgs ps).length=(evIds ps).length:=by unfold evArgs;rw[List.length_map]
  have hm:aMsg ps = .tup [aLet ps,aEid (0,0),ai 0]:=by
   unfold aMsg;rw[msgF_none (fun k hk=>hI k (by omega))]
  rw[hm]
  refine ret_view [true] ?_
  simp only[go_sem,n25,n24,n23,n35,n34,n45]
  refine Vw.mkTup (Vws.cons ?_ (Vws.refl _))
  unfold aLet
  rw[hlen,List.take_length]
  exact Vw.ofLp (if_pos rfl)
 ·rintro e L' ⟨he,id,n,hm,rfl⟩
  subst he
  show retK _ _ _ _ _
  have hm:aMsg ps = .tup [.v (.pointer none),aEid id,ai n]:=by unfold aMsg;rw[hm]
  rw[hm]
  refine ret_eq ?_
  simp only[go_sem,n25,n24,n23,n35,n34,n45]
attribute [go_sem] aLet
def afterL (ps:List Pr) (x:Eid):List Eid :=
 match ps[x.1.toNat]? with
 | some q=>match q.evs[(x.2 - 1).toNat]? with
  | some e=>(if x.2<q.evs.length then [(x.1,x.2+1)] else []) ++ (if e.kind=2∧0<(findIn (evIds ps) 3 e.msg).2 then [findIn (evIds ps) 3 e.msg] else [])
  | none=>[]
 | none=>[]
theorem formed_num {n:Nat} {p:Int} {e:Ev} (h:formedI n p e=true):0≤e.msg∧e.msg≤199:=by
 unfold formedI at h
 split at h
 ·simp only[Bool.and_eq_true,decide_eq_true_eq] at h;omega
 ·split at h
  ·simp only[inI,Bool.and_eq_true,decide_eq_true_eq] at h;omega
  ·cases h
theorem letCells_toP (l:List (Eid × Ev)) (m:Int) (h1:0≤m) (h2:m≤199):((letCells l).drop (m.toNat * 4+2)).take 2=[ai (findIn l 3 m).1,ai (findIn l 3 m).2]:=by
 have:=letCells_pair l m.toNat 2 (by omega) (.inr rfl)
 rw[if_neg (by decide),Int.toNat_of_nonneg h1] at this
 exact this
theorem trace_after (ps:List Pr) (hs:Sm ps) (hf:Formed ps) (p:Nat) (hp:p<ps.length) (i:Nat) (hi:i<ps[p].evs.length) :
  PC Proofs.Tryz.prog 88 [aTr ps,aLet ps,aEid (p,(i:Int)+1)] (aEids (afterL ps (p,(i:Int)+1))):=by
 have hfe:=hf p hp _ (List.getElem_mem hi)
 have hel:=hs.evs _ (List.getElem_mem hp)
 have ha:afterL ps (p,(i:Int)+1)=(if i+1<ps[p].evs.length then [((p:Int),(i:Int)+1+1)] else []) ++ (if ps[p].evs[i].kind=2∧0<(findIn (evIds ps) 3 ps[p].evs[i].msg).2 then [findIn (evIds ps) 3 ps[p].evs[i].msg] else []):=by
  simp only[afterL,Int.toNat_natCast,List.getElem?_eq_getElem hp,show ((i:Int)+1 - 1).toNat=i by omega,List.getElem?_eq_getElem hi]
  congr 1
  by_cases h:i+1<ps[p].evs.length
  ·rw[if_pos h,if_pos (by omega)]
  ·rw[if_neg h,if_neg (by omega)]
 generalize hx:ps[p]=q at *
 generalize he:q.evs[i]=e at *
 have e3:((i:Int)+1 - 1).toNat=i:=by omega
 unfold aLet
 refine PC.enter 62 [.tmp 6] [3,5,9,29,59] Proofs.Tryz.func88 rfl rfl rfl rfl rfl (by simp) (AWp.of ?_);simp only[go_sem]
 refine Sd ?_
 refine AWp.of ?_;simp only[go_sem]
 refine Sd ?_
 refine AWp.of ?_;simp only[go_sem,getD_map hp,hx]
 refine Sd ?_
 refine AWp.cut [1,5,7,8] (fun vs L=>∃v,vs=[.rp 800 [.agg (letCells (evIds ps))] 0 0,.rp 2 [aEid (p,(i:Int)+1)] 0 0,v,aEvs q.evs]∧AppSt 54 2 ((if i+1<q.evs.length then [((p:Int),(i:Int)+1+1)] else []).map aEid) v L) ?_ ?_
 ·refine Sd ?_
  refine AWp.of ?_;simp only[go_sem]
  refine Sd ?_
  refine AWp.of ?_;simp only[go_sem]
  refine⟨fun h => ?_,fun h => ?_⟩
  ·refine Sd ?_
   intro b cap _
   refine⟨_,List.Sublist.refl _,_,rfl,?_⟩
   rw[if_pos (by omega)]
   exact .row b _ cap
  ·refine⟨_,List.Sublist.refl _,_,rfl,?_⟩
   rw[if_neg (by omega)]
   exact .nil
 ·rintro vs L' - ⟨v,rfl,ha1⟩
  generalize hy1:(if i+1<q.evs.length then [((p:Int),(i:Int)+1+1)] else [])=y1 at *
  simp only[go_sem]
  obtain⟨hm1,hm2⟩:=formed_num hfe
  have c1:=letCells_to (evIds ps) e.msg hm1 hm2
  have c2:=letCells_toP (evIds ps) e.msg hm1 hm2
  refine Sd ?_
  refine AWp.of ?_;simp only[go_sem,e3,getD_map hi,he]
  refine Sd ?_
  intros
  refine AWp.seq ?_
  refine AWp.drawn mixed 10 (by kernel_rfl) ?_;simp only[go_sem,c1]
  refine Wk ?_
  refine⟨fun h1 h2 => ?_,fun h1 => ?_⟩
  ·rw[if_pos ⟨h1,h2⟩] at ha
   rcases ha1.inv with ⟨e1,rfl,rfl⟩|⟨b,cap,rfl,rfl⟩
   ·have e2:y1=[]:=by simpa using e1
    refine AWp.drawn mixed 9 (by kernel_rfl) ?_;simp only[go_sem,c1,c2]
    refine Sd ?_
    intro b' cap' _
    refine Wk ?_
    rw[ha,e2]
    refine ret_view [true] ?_;simp only[go_sem]
    exact Vw.ofLs (if_pos rfl) rfl
   ·have e2:y1.length≤1:=by rw[← hy1];split <;> simp
    refine AWp.drawn mixed 9 (by kernel_rfl) ?_;simp only[go_sem,c1,c2]
    refine Sd ?_
    intro b' cap' _
    refine Wk ?_
    rw[ha]
    refine ret_view [true] ?_;simp only[go_sem]
    rw[List.map_append]
    exact Vw.ofLs (if_pos rfl) (by simp)
  ·rw[if_neg (by rintro⟨h3,h4⟩;exact absurd h4 (h1 h3)),List.append_nil] at ha
   rw[ha]
   rcases ha1.inv with ⟨e1,rfl,rfl⟩|⟨b,cap,rfl,rfl⟩
   ·refine Wk ?_
    refine ret_view [] ?_;simp only[go_sem]
    rw[e1]
    exact .nil _
   ·refine Wk ?_
    refine ret_view [true] ?_;simp only[go_sem]
    exact Vw.ofLs (if_pos rfl) (by simp)
end Go.AL
end
