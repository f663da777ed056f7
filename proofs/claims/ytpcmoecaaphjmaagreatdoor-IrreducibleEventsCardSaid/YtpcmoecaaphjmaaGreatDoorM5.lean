/- Texts of this claim's proof: WTy, WDt, AlFam, WPd, WPf, WPw. No condition. -/
import Derived.Test.YtpcmoecaaphjmaaGreatDoorM3
import Derived.Test.YtpcmoecaaphjmaaGreatDoorProg
import Derived.Test.YtpcmoecaaphjmaaGreatDoorM4
section
namespace Go.AL
open Go Go.RowKit
@[go_sem] theorem ti1:tinfo Proofs.Tryz.prog 1=some ⟨.func,1,8,.v .nilFunc⟩:=by kernel_rfl
@[go_sem] theorem ti2:tinfo Proofs.Tryz.prog 2=some ⟨.int .i64,1,8,.v (.int .i64 0)⟩:=by kernel_rfl
@[go_sem] theorem ti3:tinfo Proofs.Tryz.prog 3=some ⟨.int .i64,1,8,.v (.int .i64 0)⟩:=by kernel_rfl
@[go_sem] theorem ti4:tinfo Proofs.Tryz.prog 4=some ⟨.bool,1,1,.v (.bool false)⟩:=by kernel_rfl
@[go_sem] theorem ti5:tinfo Proofs.Tryz.prog 5=some ⟨.int .u8,1,1,.v (.int .u8 0)⟩:=by kernel_rfl
@[go_sem] theorem ti6:tinfo Proofs.Tryz.prog 6=some ⟨.int .u8,1,1,.v (.int .u8 0)⟩:=by kernel_rfl
@[go_sem] theorem ti7:tinfo Proofs.Tryz.prog 7=some ⟨.struct [(0,2),(1,3),(2,4),(3,6)],4,24,.agg [.v (.int .i64 0),.v (.int .i64 0),.v (.bool false),.v (.int .u8 0)]⟩:=by kernel_rfl
@[go_sem] theorem ti8:tinfo Proofs.Tryz.prog 8=some ⟨.struct [(0,2),(1,3),(2,4),(3,6)],4,24,.agg [.v (.int .i64 0),.v (.int .i64 0),.v (.bool false),.v (.int .u8 0)]⟩:=by kernel_rfl
@[go_sem] theorem ti9:tinfo Proofs.Tryz.prog 9=some ⟨.str,1,16,.v (.string ⟨#[]⟩)⟩:=by kernel_rfl
@[go_sem] theorem ti10:tinfo Proofs.Tryz.prog 10=some ⟨.str,1,16,.v (.string ⟨#[]⟩)⟩:=by kernel_rfl
@[go_sem] theorem ti11:tinfo Proofs.Tryz.prog 11=some ⟨.str,1,16,.v (.string ⟨#[]⟩)⟩:=by kernel_rfl
@[go_sem] theorem ti12:tinfo Proofs.Tryz.prog 12=some ⟨.int .u64,1,8,.v (.int .u64 0)⟩:=by kernel_rfl
@[go_sem] theorem ti13:tinfo Proofs.Tryz.prog 13=some ⟨.struct [(0,9),(1,12)],2,24,.agg [.v (.string ⟨#[]⟩),.v (.int .u64 0)]⟩:=by kernel_rfl
@[go_sem] theorem ti14:tinfo Proofs.Tryz.prog 14=some ⟨.struct [(0,9),(1,12)],2,24,.agg [.v (.string ⟨#[]⟩),.v (.int .u64 0)]⟩:=by kernel_rfl
@[go_sem] theorem ti15:tinfo Proofs.Tryz.prog 15=some ⟨.ptr 352,1,8,.v (.pointer none)⟩:=by kernel_rfl
@[go_sem] theorem ti16:tinfo Proofs.Tryz.prog 16=some ⟨.ptr 355,1,8,.v (.pointer none)⟩:=by kernel_rfl
@[go_sem] theorem ti17:tinfo Proofs.Tryz.prog 17=some ⟨.ptr 364,1,8,.v (.pointer none)⟩:=by kernel_rfl
@[go_sem] theorem ti18:tinfo Proofs.Tryz.prog 18=some ⟨.struct [(0,17)],1,8,.agg [.v (.pointer none)]⟩:=by kernel_rfl
@[go_sem] theorem ti19:tinfo Proofs.Tryz.prog 19=some ⟨.struct [(0,17)],1,8,.agg [.v (.pointer none)]⟩:=by kernel_rfl
@[go_sem] theorem ti21:tinfo Proofs.Tryz.prog 21=some ⟨.int .i32,1,4,.v (.int .i32 0)⟩:=by kernel_rfl
@[go_sem] theorem ti22:tinfo Proofs.Tryz.prog 22=some ⟨.slice 83,1,24,.v (.slice none 0 0)⟩:=by kernel_rfl
@[go_sem] theorem ti23:tinfo Proofs.Tryz.prog 23=some ⟨.struct [(0,22)],1,24,.agg [.v (.slice none 0 0)]⟩:=by kernel_rfl
@[go_sem] theorem ti24:tinfo Proofs.Tryz.prog 24=some ⟨.struct [(0,22)],1,24,.agg [.v (.slice none 0 0)]⟩:=by kernel_rfl
@[go_sem] theorem ti25:tinfo Proofs.Tryz.prog 25=some ⟨.slice 27,1,24,.v (.slice none 0 0)⟩:=by kernel_rfl
@[go_sem] theorem ti26:tinfo Proofs.Tryz.prog 26=some ⟨.struct [(0,3),(1,3),(2,3),(3,3),(4,9),(5,25)],6,72,.agg [.v (.int .i64 0),.v (.int .i64 0),.v (.int .i64 0),.v (.int .i64 0),.v (.string ⟨#[]⟩),.v (.slice none 0 0)]⟩:=by kernel_rfl
@[go_sem] theorem ti27:tinfo Proofs.Tryz.prog 27=some ⟨.struct [(0,3),(1,3),(2,3),(3,3),(4,9),(5,25)],6,72,.agg [.v (.int .i64 0),.v (.int .i64 0),.v (.int .i64 0),.v (.int .i64 0),.v (.string ⟨#[]⟩),.v (.slice none 0 0)]⟩:=by kernel_rfl
@[go_sem] theorem ti28:tinfo Proofs.Tryz.prog 28=some ⟨.struct [(0,3),(1,3)],2,16,.agg [.v (.int .i64 0),.v (.int .i64 0)]⟩:=by kernel_rfl
@[go_sem] theorem ti29:tinfo Proofs.Tryz.prog 29=some ⟨.struct [(0,3),(1,3)],2,16,.agg [.v (.int .i64 0),.v (.int .i64 0)]⟩:=by kernel_rfl
@[go_sem] theorem ti30:tinfo Proofs.Tryz.prog 30=some ⟨.func,1,8,.v .nilFunc⟩:=by kernel_rfl
@[go_sem] theorem ti31:tinfo Proofs.Tryz.prog 31=some ⟨.func,1,8,.v .nilFunc⟩:=by kernel_rfl
@[go_sem] theorem ti32:tinfo Proofs.Tryz.prog 32=some ⟨.func,1,8,.v .nilFunc⟩:=by kernel_rfl
@[go_sem] theorem ti33:tinfo Proofs.Tryz.prog 33=some ⟨.slice 3,1,24,.v (.slice none 0 0)⟩:=by kernel_rfl
@[go_sem] theorem ti34:tinfo Proofs.Tryz.prog 34=some ⟨.int .i64,1,8,.v (.int .i64 0)⟩:=by kernel_rfl
@[go_sem] theorem ti36:tinfo Proofs.Tryz.prog 36=some ⟨.func,1,8,.v .nilFunc⟩:=by kernel_rfl
@[go_sem] theorem ti37:tinfo Proofs.Tryz.prog 37=some ⟨.slice 42,1,24,.v (.slice none 0 0)⟩:=by kernel_rfl
@[go_sem] theorem ti39:tinfo Proofs.Tryz.prog 39=some ⟨.func,1,8,.v .nilFunc⟩:=by kernel_rfl
@[go_sem] theorem ti40:tinfo Proofs.Tryz.prog 40=some ⟨.func,1,8,.v .nilFunc⟩:=by kernel_rfl
@[go_sem] theorem ti41:tinfo Proofs.Tryz.prog 41=some ⟨.func,1,8,.v .nilFunc⟩:=by kernel_rfl
@[go_sem] theorem ti42:tinfo Proofs.Tryz.prog 42=some ⟨.slice 33,1,24,.v (.slice none 0 0)⟩:=by kernel_rfl
@[go_sem] theorem ti44:tinfo Proofs.Tryz.prog 44=some ⟨.func,1,8,.v .nilFunc⟩:=by kernel_rfl
@[go_sem] theorem ti45:tinfo Proofs.Tryz.prog 45=some ⟨.func,1,8,.v .nilFunc⟩:=by kernel_rfl
@[go_sem] theorem ti46:tinfo Proofs.Tryz.prog 46=some ⟨.func,1,8,.v .nilFunc⟩:=by kernel_rfl
@[go_sem] theorem ti47:tinfo Proofs.Tryz.prog 47=some ⟨.func,1,8,.v .nilFunc⟩:=by kernel_rfl
@[go_sem] theorem ti48:tinfo Proofs.Tryz.prog 48=some ⟨.func,1,8,.v .nilFunc⟩:=by kernel_rfl
@[go_sem] theorem ti49:tinfo Proofs.Tryz.prog 49=some ⟨.func,1,8,.v .nilFunc⟩:=by kernel_rfl
@[go_sem] theorem ti50:tinfo Proofs.Tryz.prog 50=some ⟨.func,1,8,.v .nilFunc⟩:=by kernel_rfl
@[go_sem] theorem ti52:tinfo Proofs.Tryz.prog 52=some ⟨.func,1,8,.v .nilFunc⟩:=by kernel_rfl
@[go_sem] theorem ti54:tinfo Proofs.Tryz.prog 54=some ⟨.func,1,8,.v .nilFunc⟩:=by kernel_rfl
@[go_sem] theorem ti55:tinfo Proofs.Tryz.prog 55=some ⟨.func,1,8,.v .nilFunc⟩:=by kernel_rfl
@[go_sem] theorem ti56:tinfo Proofs.Tryz.prog 56=some ⟨.func,1,8,.v .nilFunc⟩:=by kernel_rfl
@[go_sem] theorem ti57:tinfo Proofs.Tryz.prog 57=some ⟨.func,1,8,.v .nilFunc⟩:=by kernel_rfl
@[go_sem] theorem ti58:tinfo Proofs.Tryz.prog 58=some ⟨.func,1,8,.v .nilFunc⟩:=by kernel_rfl
@[go_sem] theorem ti59:tinfo Proofs.Tryz.prog 59=some ⟨.func,1,8,.v .nilFunc⟩:=by kernel_rfl
@[go_sem] theorem ti60:tinfo Proofs.Tryz.prog 60=some ⟨.func,1,8,.v .nilFunc⟩:=by kernel_rfl
@[go_sem] theorem ti61:tinfo Proofs.Tryz.prog 61=some ⟨.func,1,8,.v .nilFunc⟩:=by kernel_rfl
@[go_sem] theorem ti62:tinfo Proofs.Tryz.prog 62=some ⟨.func,1,8,.v .nilFunc⟩:=by kernel_rfl
@[go_sem] theorem ti64:tinfo Proofs.Tryz.prog 64=some ⟨.func,1,8,.v .nilFunc⟩:=by kernel_rfl
@[go_sem] theorem ti65:tinfo Proofs.Tryz.prog 65=some ⟨.slice 122,1,24,.v (.slice none 0 0)⟩:=by kernel_rfl
@[go_sem] theorem ti66:tinfo Proofs.Tryz.prog 66=some ⟨.struct [(0,65)],1,24,.agg [.v (.slice none 0 0)]⟩:=by kernel_rfl
@[go_sem] theorem ti67:tinfo Proofs.Tryz.prog 67=some ⟨.struct [(0,65)],1,24,.agg [.v (.slice none 0 0)]⟩:=by kernel_rfl
@[go_sem] theorem ti69:tinfo Proofs.Tryz.prog 69=some ⟨.func,1,8,.v .nilFunc⟩:=by kernel_rfl
@[go_sem] theorem ti70:tinfo Proofs.Tryz.prog 70=some ⟨.func,1,8,.v .nilFunc⟩:=by kernel_rfl
@[go_sem] theorem ti71:tinfo Proofs.Tryz.prog 71=some ⟨.func,1,8,.v .nilFunc⟩:=by kernel_rfl
@[go_sem] theorem ti72:tinfo Proofs.Tryz.prog 72=some ⟨.func,1,8,.v .nilFunc⟩:=by kernel_rfl
@[go_sem] theorem ti73:tinfo Proofs.Tryz.prog 73=some ⟨.func,1,8,.v .nilFunc⟩:=by kernel_rfl
@[go_sem] theorem ti74:tinfo Proofs.Tryz.prog 74=some ⟨.func,1,8,.v .nilFunc⟩:=by kernel_rfl
@[go_sem] theorem ti75:tinfo Proofs.Tryz.prog 75=some ⟨.func,1,8,.v .nilFunc⟩:=by kernel_rfl
@[go_sem] theorem ti76:tinfo Proofs.Tryz.prog 76=some ⟨.func,1,8,.v .nilFunc⟩:=by kernel_rfl
@[go_sem] theorem ti77:tinfo Proofs.Tryz.prog 77=some ⟨.slice 218,1,24,.v (.slice none 0 0)⟩:=by kernel_rfl
@[go_sem] theorem ti78:tinfo Proofs.Tryz.prog 78=some ⟨.struct [(0,3),(1,3),(2,3),(3,3),(4,77)],5,56,.agg [.v (.int .i64 0),.v (.int .i64 0),.v (.int .i64 0),.v (.int .i64 0),.v (.slice none 0 0)]⟩:=by kernel_rfl
@[go_sem] theorem ti79:tinfo Proofs.Tryz.prog 79=some ⟨.struct [(0,3),(1,3),(2,3),(3,3),(4,77)],5,56,.agg [.v (.int .i64 0),.v (.int .i64 0),.v (.int .i64 0),.v (.int .i64 0),.v (.slice none 0 0)]⟩:=by kernel_rfl
@[go_sem] theorem ti80:tinfo Proofs.Tryz.prog 80=some ⟨.slice 79,1,24,.v (.slice none 0 0)⟩:=by kernel_rfl
@[go_sem] theorem ti81:tinfo Proofs.Tryz.prog 81=some ⟨.slice 215,1,24,.v (.slice none 0 0)⟩:=by kernel_rfl
@[go_sem] theorem ti82:tinfo Proofs.Tryz.prog 82=some ⟨.struct [(0,9),(1,81),(2,80)],3,64,.agg [.v (.string ⟨#[]⟩),.v (.slice none 0 0),.v (.slice none 0 0)]⟩:=by kernel_rfl
@[go_sem] theorem ti83:tinfo Proofs.Tryz.prog 83=some ⟨.struct [(0,9),(1,81),(2,80)],3,64,.agg [.v (.string ⟨#[]⟩),.v (.slice none 0 0),.v (.slice none 0 0)]⟩:=by kernel_rfl
@[go_sem] theorem ti84:tinfo Proofs.Tryz.prog 84=some ⟨.func,1,8,.v .nilFunc⟩:=by kernel_rfl
@[go_sem] theorem ti85:tinfo Proofs.Tryz.prog 85=some ⟨.func,1,8,.v .nilFunc⟩:=by kernel_rfl
@[go_sem] theorem ti86:tinfo Proofs.Tryz.prog 86=some ⟨.func,1,8,.v .nilFunc⟩:=by kernel_rfl
@[go_sem] theorem ti87:tinfo Proofs.Tryz.prog 87=some ⟨.func,1,8,.v .nilFunc⟩:=by kernel_rfl
@[go_sem] theorem ti88:tinfo Proofs.Tryz.prog 88=some ⟨.func,1,8,.v .nilFunc⟩:=by kernel_rfl
@[go_sem] theorem ti89:tinfo Proofs.Tryz.prog 89=some ⟨.func,1,8,.v .nilFunc⟩:=by kernel_rfl
@[go_sem] theorem ti90:tinfo Proofs.Tryz.prog 90=some ⟨.func,1,8,.v .nilFunc⟩:=by kernel_rfl
@[go_sem] theorem ti91:tinfo Proofs.Tryz.prog 91=some ⟨.slice 141,1,24,.v (.slice none 0 0)⟩:=by kernel_rfl
@[go_sem] theorem ti92:tinfo Proofs.Tryz.prog 92=some ⟨.struct [(0,24),(1,91)],2,48,.agg [.v (.slice none 0 0),.v (.slice none 0 0)]⟩:=by kernel_rfl
@[go_sem] theorem ti93:tinfo Proofs.Tryz.prog 93=some ⟨.struct [(0,24),(1,91)],2,48,.agg [.v (.slice none 0 0),.v (.slice none 0 0)]⟩:=by kernel_rfl
@[go_sem] theorem ti95:tinfo Proofs.Tryz.prog 95=some ⟨.func,1,8,.v .nilFunc⟩:=by kernel_rfl
@[go_sem] theorem ti96:tinfo Proofs.Tryz.prog 96=some ⟨.func,1,8,.v .nilFunc⟩:=by kernel_rfl
@[go_sem] theorem ti97:tinfo Proofs.Tryz.prog 97=some ⟨.func,1,8,.v .nilFunc⟩:=by kernel_rfl
@[go_sem] theorem ti98:tinfo Proofs.Tryz.prog 98=some ⟨.func,1,8,.v .nilFunc⟩:=by kernel_rfl
@[go_sem] theorem ti99:tinfo Proofs.Tryz.prog 99=some ⟨.func,1,8,.v .nilFunc⟩:=by kernel_rfl
@[go_sem] theorem ti100:tinfo Proofs.Tryz.prog 100=some ⟨.func,1,8,.v .nilFunc⟩:=by kernel_rfl
@[go_sem] theorem ti102:tinfo Proofs.Tryz.prog 102=some ⟨.func,1,8,.v .nilFunc⟩:=by kernel_rfl
@[go_sem] theorem ti103:tinfo Proofs.Tryz.prog 103=some ⟨.func,1,8,.v .nilFunc⟩:=by kernel_rfl
@[go_sem] theorem ti104:tinfo Proofs.Tryz.prog 104=some ⟨.func,1,8,.v .nilFunc⟩:=by kernel_rfl
@[go_sem] theorem ti105:tinfo Proofs.Tryz.prog 105=some ⟨.func,1,8,.v .nilFunc⟩:=by kernel_rfl
@[go_sem] theorem ti106:tinfo Proofs.Tryz.prog 106=some ⟨.map 3 29,1,8,.v (.map none)⟩:=by kernel_rfl
@[go_sem] theorem ti107:tinfo Proofs.Tryz.prog 107=some ⟨.struct [(0,24),(1,106),(2,106)],3,40,.agg [.v (.slice none 0 0),.v (.map none),.v (.map none)]⟩:=by kernel_rfl
@[go_sem] theorem ti108:tinfo Proofs.Tryz.prog 108=some ⟨.struct [(0,24),(1,106),(2,106)],3,40,.agg [.v (.slice none 0 0),.v (.map none),.v (.map none)]⟩:=by kernel_rfl
@[go_sem] theorem ti109:tinfo Proofs.Tryz.prog 109=some ⟨.func,1,8,.v .nilFunc⟩:=by kernel_rfl
@[go_sem] theorem ti110:tinfo Proofs.Tryz.prog 110=some ⟨.func,1,8,.v .nilFunc⟩:=by kernel_rfl
@[go_sem] theorem ti111:tinfo Proofs.Tryz.prog 111=some ⟨.slice 29,1,24,.v (.slice none 0 0)⟩:=by kernel_rfl
@[go_sem] theorem ti113:tinfo Proofs.Tryz.prog 113=some ⟨.func,1,8,.v .nilFunc⟩:=by kernel_rfl
@[go_sem] theorem ti114:tinfo Proofs.Tryz.prog 114=some ⟨.func,1,8,.v .nilFunc⟩:=by kernel_rfl
@[go_sem] theorem ti115:tinfo Proofs.Tryz.prog 115=some ⟨.func,1,8,.v .nilFunc⟩:=by kernel_rfl
@[go_sem] theorem ti116:tinfo Proofs.Tryz.prog 116=some ⟨.func,1,8,.v .nilFunc⟩:=by kernel_rfl
@[go_sem] theorem ti117:tinfo Proofs.Tryz.prog 117=some ⟨.func,1,8,.v .nilFunc⟩:=by kernel_rfl
@[go_sem] theorem ti118:tinfo Proofs.Tryz.prog 118=some ⟨.func,1,8,.v .nilFunc⟩:=by kernel_rfl
@[go_sem] theorem ti119:tinfo Proofs.Tryz.prog 119=some ⟨.func,1,8,.v .nilFunc⟩:=by kernel_rfl
@[go_sem] theorem ti120:tinfo Proofs.Tryz.prog 120=some ⟨.slice 168,1,24,.v (.slice none 0 0)⟩:=by kernel_rfl
@[go_sem] theorem ti121:tinfo Proofs.Tryz.prog 121=some ⟨.struct [(0,3),(1,120)],2,32,.agg [.v (.int .i64 0),.v (.slice none 0 0)]⟩:=by kernel_rfl
@[go_sem] theorem ti122:tinfo Proofs.Tryz.prog 122=some ⟨.struct [(0,3),(1,120)],2,32,.agg [.v (.int .i64 0),.v (.slice none 0 0)]⟩:=by kernel_rfl
@[go_sem] theorem ti124:tinfo Proofs.Tryz.prog 124=some ⟨.func,1,8,.v .nilFunc⟩:=by kernel_rfl
@[go_sem] theorem ti125:tinfo Proofs.Tryz.prog 125=some ⟨.func,1,8,.v .nilFunc⟩:=by kernel_rfl
@[go_sem] theorem ti126:tinfo Proofs.Tryz.prog 126=some ⟨.slice 4,1,24,.v (.slice none 0 0)⟩:=by kernel_rfl
@[go_sem] theorem ti127:tinfo Proofs.Tryz.prog 127=some ⟨.func,1,8,.v .nilFunc⟩:=by kernel_rfl
@[go_sem] theorem ti128:tinfo Proofs.Tryz.prog 128=some ⟨.func,1,8,.v .nilFunc⟩:=by kernel_rfl
@[go_sem] theorem ti129:tinfo Proofs.Tryz.prog 129=some ⟨.func,1,8,.v .nilFunc⟩:=by kernel_rfl
@[go_sem] theorem ti130:tinfo Proofs.Tryz.prog 130=some ⟨.func,1,8,.v .nilFunc⟩:=by kernel_rfl
@[go_sem] theorem ti131:tinfo Proofs.Tryz.prog 131=some ⟨.slice 255,1,24,.v (.slice none 0 0)⟩:=by kernel_rfl
@[go_sem] theorem ti132:tinfo Proofs.Tryz.prog 132=some ⟨.struct [(0,3),(1,25),(2,131),(3,3),(4,3)],5,72,.agg [.v (.int .i64 0),.v (.slice none 0 0),.v (.slice none 0 0),.v (.int .i64 0),.v (.int .i64 0)]⟩:=by kernel_rfl
@[go_sem] theorem ti133:tinfo Proofs.Tryz.prog 133=some ⟨.struct [(0,3),(1,25),(2,131),(3,3),(4,3)],5,72,.agg [.v (.int .i64 0),.v (.slice none 0 0),.v (.slice none 0 0),.v (.int .i64 0),.v (.int .i64 0)]⟩:=by kernel_rfl
@[go_sem] theorem ti135:tinfo Proofs.Tryz.prog 135=some ⟨.func,1,8,.v .nilFunc⟩:=by kernel_rfl
@[go_sem] theorem ti137:tinfo Proofs.Tryz.prog 137=some ⟨.func,1,8,.v .nilFunc⟩:=by kernel_rfl
@[go_sem] theorem ti138:tinfo Proofs.Tryz.prog 138=some ⟨.func,1,8,.v .nilFunc⟩:=by kernel_rfl
@[go_sem] theorem ti139:tinfo Proofs.Tryz.prog 139=some ⟨.func,1,8,.v .nilFunc⟩:=by kernel_rfl
@[go_sem] theorem ti140:tinfo Proofs.Tryz.prog 140=some ⟨.struct [(0,27),(6,4)],7,80,.agg [.v (.int .i64 0),.v (.int .i64 0),.v (.int .i64 0),.v (.int .i64 0),.v (.string ⟨#[]⟩),.v (.slice none 0 0),.v (.bool false)]⟩:=by kernel_rfl
@[go_sem] theorem ti141:tinfo Proofs.Tryz.prog 141=some ⟨.struct [(0,27),(6,4)],7,80,.agg [.v (.int .i64 0),.v (.int .i64 0),.v (.int .i64 0),.v (.int .i64 0),.v (.string ⟨#[]⟩),.v (.slice none 0 0),.v (.bool false)]⟩:=by kernel_rfl
@[go_sem] theorem ti142:tinfo Proofs.Tryz.prog 142=some ⟨.func,1,8,.v .nilFunc⟩:=by kernel_rfl
@[go_sem] theorem ti143:tinfo Proofs.Tryz.prog 143=some ⟨.func,1,8,.v .nilFunc⟩:=by kernel_rfl
@[go_sem] theorem ti145:tinfo Proofs.Tryz.prog 145=some ⟨.func,1,8,.v .nilFunc⟩:=by kernel_rfl
@[go_sem] theorem ti146:tinfo Proofs.Tryz.prog 146=some ⟨.func,1,8,.v .nilFunc⟩:=by kernel_rfl
@[go_sem] theorem ti147:tinfo Proofs.Tryz.prog 147=some ⟨.func,1,8,.v .nilFunc⟩:=by kernel_rfl
@[go_sem] theorem ti148:tinfo Proofs.Tryz.prog 148=some ⟨.func,1,8,.v .nilFunc⟩:=by kernel_rfl
@[go_sem] theorem ti149:tinfo Proofs.Tryz.prog 149=some ⟨.func,1,8,.v .nilFunc⟩:=by kernel_rfl
@[go_sem] theorem ti150:tinfo Proofs.Tryz.prog 150=some ⟨.slice 126,1,24,.v (.slice none 0 0)⟩:=by kernel_rfl
@[go_sem] theorem ti151:tinfo Proofs.Tryz.prog 151=some ⟨.func,1,8,.v .nilFunc⟩:=by kernel_rfl
@[go_sem] theorem ti152:tinfo Proofs.Tryz.prog 152=some ⟨.func,1,8,.v .nilFunc⟩:=by kernel_rfl
@[go_sem] theorem ti153:tinfo Proofs.Tryz.prog 153=some ⟨.func,1,8,.v .nilFunc⟩:=by kernel_rfl
@[go_sem] theorem ti154:tinfo Proofs.Tryz.prog 154=some ⟨.func,1,8,.v .nilFunc⟩:=by kernel_rfl
@[go_sem] theorem ti155:tinfo Proofs.Tryz.prog 155=some ⟨.func,1,8,.v .nilFunc⟩:=by kernel_rfl
@[go_sem] theorem ti156:tinfo Proofs.Tryz.prog 156=some ⟨.arr 8 3,8,64,.agg [.v (.int .i64 0),.v (.int .i64 0),.v (.int .i64 0),.v (.int .i64 0),.v (.int .i64 0),.v (.int .i64 0),.v (.int .i64 0),.v (.int .i64 0)]⟩:=by kernel_rfl
@[go_sem] theorem ti157:tinfo Proofs.Tryz.prog 157=some ⟨.func,1,8,.v .nilFunc⟩:=by kernel_rfl
@[go_sem] theorem ti158:tinfo Proofs.Tryz.prog 158=some ⟨.map 156 4,1,8,.v (.map none)⟩:=by kernel_rfl
@[go_sem] theorem ti159:tinfo Proofs.Tryz.prog 159=some ⟨.func,1,8,.v .nilFunc⟩:=by kernel_rfl
@[go_sem] theorem ti160:tinfo Proofs.Tryz.prog 160=some ⟨.func,1,8,.v .nilFunc⟩:=by kernel_rfl
@[go_sem] theorem ti161:tinfo Proofs.Tryz.prog 161=some ⟨.func,1,8,.v .nilFunc⟩:=by kernel_rfl
@[go_sem] theorem ti162:tinfo Proofs.Tryz.prog 162=some ⟨.func,1,8,.v .nilFunc⟩:=by kernel_rfl
@[go_sem] theorem ti163:tinfo Proofs.Tryz.prog 163=some ⟨.func,1,8,.v .nilFunc⟩:=by kernel_rfl
@[go_sem] theorem ti165:tinfo Proofs.Tryz.prog 165=some ⟨.func,1,8,.v .nilFunc⟩:=by kernel_rfl
@[go_sem] theorem ti166:tinfo Proofs.Tryz.prog 166=some ⟨.func,1,8,.v .nilFunc⟩:=by kernel_rfl
@[go_sem] theorem ti167:tinfo Proofs.Tryz.prog 167=some ⟨.func,1,8,.v .nilFunc⟩:=by kernel_rfl
@[go_sem] theorem ti168:tinfo Proofs.Tryz.prog 168=some ⟨.int .u64,1,8,.v (.int .u64 0)⟩:=by kernel_rfl
@[go_sem] theorem ti169:tinfo Proofs.Tryz.prog 169=some ⟨.func,1,8,.v .nilFunc⟩:=by kernel_rfl
@[go_sem] theorem ti170:tinfo Proofs.Tryz.prog 170=some ⟨.func,1,8,.v .nilFunc⟩:=by kernel_rfl
@[go_sem] theorem ti171:tinfo Proofs.Tryz.prog 171=some ⟨.func,1,8,.v .nilFunc⟩:=by kernel_rfl
@[go_sem] theorem ti172:tinfo Proofs.Tryz.prog 172=some ⟨.func,1,8,.v .nilFunc⟩:=by kernel_rfl
@[go_sem] theorem ti173:tinfo Proofs.Tryz.prog 173=some ⟨.func,1,8,.v .nilFunc⟩:=by kernel_rfl
@[go_sem] theorem ti174:tinfo Proofs.Tryz.prog 174=some ⟨.struct [(0,3),(1,3)],2,16,.agg [.v (.int .i64 0),.v (.int .i64 0)]⟩:=by kernel_rfl
@[go_sem] theorem ti175:tinfo Proofs.Tryz.prog 175=some ⟨.struct [(0,3),(1,3)],2,16,.agg [.v (.int .i64 0),.v (.int .i64 0)]⟩:=by kernel_rfl
@[go_sem] theorem ti177:tinfo Proofs.Tryz.prog 177=some ⟨.func,1,8,.v .nilFunc⟩:=by kernel_rfl
@[go_sem] theorem ti178:tinfo Proofs.Tryz.prog 178=some ⟨.func,1,8,.v .nilFunc⟩:=by kernel_rfl
@[go_sem] theorem ti179:tinfo Proofs.Tryz.prog 179=some ⟨.func,1,8,.v .nilFunc⟩:=by kernel_rfl
@[go_sem] theorem ti181:tinfo Proofs.Tryz.prog 181=some ⟨.func,1,8,.v .nilFunc⟩:=by kernel_rfl
@[go_sem] theorem ti183:tinfo Proofs.Tryz.prog 183=some ⟨.func,1,8,.v .nilFunc⟩:=by kernel_rfl
@[go_sem] theorem ti185:tinfo Proofs.Tryz.prog 185=some ⟨.func,1,8,.v .nilFunc⟩:=by kernel_rfl
@[go_sem] theorem ti186:tinfo Proofs.Tryz.prog 186=some ⟨.func,1,8,.v .nilFunc⟩:=by kernel_rfl
@[go_sem] theorem ti187:tinfo Proofs.Tryz.prog 187=some ⟨.func,1,8,.v .nilFunc⟩:=by kernel_rfl
@[go_sem] theorem ti188:tinfo Proofs.Tryz.prog 188=some ⟨.func,1,8,.v .nilFunc⟩:=by kernel_rfl
@[go_sem] theorem ti189:tinfo Proofs.Tryz.prog 189=some ⟨.struct [(0,24),(1,33),(2,42)],3,72,.agg [.v (.slice none 0 0),.v (.slice none 0 0),.v (.slice none 0 0)]⟩:=by kernel_rfl
@[go_sem] theorem ti190:tinfo Proofs.Tryz.prog 190=some ⟨.struct [(0,24),(1,33),(2,42)],3,72,.agg [.v (.slice none 0 0),.v (.slice none 0 0),.v (.slice none 0 0)]⟩:=by kernel_rfl
@[go_sem] theorem ti192:tinfo Proofs.Tryz.prog 192=some ⟨.func,1,8,.v .nilFunc⟩:=by kernel_rfl
@[go_sem] theorem ti193:tinfo Proofs.Tryz.prog 193=some ⟨.func,1,8,.v .nilFunc⟩:=by kernel_rfl
@[go_sem] theorem ti194:tinfo Proofs.Tryz.prog 194=some ⟨.func,1,8,.v .nilFunc⟩:=by kernel_rfl
@[go_sem] theorem ti195:tinfo Proofs.Tryz.prog 195=some ⟨.map 268 3,1,8,.v (.map none)⟩:=by kernel_rfl
@[go_sem] theorem ti196:tinfo Proofs.Tryz.prog 196=some ⟨.struct [(0,3),(1,195)],2,16,.agg [.v (.int .i64 0),.v (.map none)]⟩:=by kernel_rfl
@[go_sem] theorem ti197:tinfo Proofs.Tryz.prog 197=some ⟨.struct [(0,3),(1,195)],2,16,.agg [.v (.int .i64 0),.v (.map none)]⟩:=by kernel_rfl
@[go_sem] theorem ti198:tinfo Proofs.Tryz.prog 198=some ⟨.func,1,8,.v .nilFunc⟩:=by kernel_rfl
@[go_sem] theorem ti199:tinfo Proofs.Tryz.prog 199=some ⟨.func,1,8,.v .nilFunc⟩:=by kernel_rfl
@[go_sem] theorem ti201:tinfo Proofs.Tryz.prog 201=some ⟨.func,1,8,.v .nilFunc⟩:=by kernel_rfl
@[go_sem] theorem ti202:tinfo Proofs.Tryz.prog 202=some ⟨.func,1,8,.v .nilFunc⟩:=by kernel_rfl
@[go_sem] theorem ti203:tinfo Proofs.Tryz.prog 203=some ⟨.func,1,8,.v .nilFunc⟩:=by kernel_rfl
@[go_sem] theorem ti204:tinfo Proofs.Tryz.prog 204=some ⟨.func,1,8,.v .nilFunc⟩:=by kernel_rfl
@[go_sem] theorem ti206:tinfo Proofs.Tryz.prog 206=some ⟨.func,1,8,.v .nilFunc⟩:=by kernel_rfl
@[go_sem] theorem ti207:tinfo Proofs.Tryz.prog 207=some ⟨.func,1,8,.v .nilFunc⟩:=by kernel_rfl
@[go_sem] theorem ti208:tinfo Proofs.Tryz.prog 208=some ⟨.func,1,8,.v .nilFunc⟩:=by kernel_rfl
@[go_sem] theorem ti209:tinfo Proofs.Tryz.prog 209=some ⟨.func,1,8,.v .nilFunc⟩:=by kernel_rfl
@[go_sem] theorem ti210:tinfo Proofs.Tryz.prog 210=some ⟨.func,1,8,.v .nilFunc⟩:=by kernel_rfl
@[go_sem] theorem ti212:tinfo Proofs.Tryz.prog 212=some ⟨.func,1,8,.v .nilFunc⟩:=by kernel_rfl
@[go_sem] theorem ti213:tinfo Proofs.Tryz.prog 213=some ⟨.func,1,8,.v .nilFunc⟩:=by kernel_rfl
@[go_sem] theorem ti214:tinfo Proofs.Tryz.prog 214=some ⟨.struct [(0,9),(1,3)],2,24,.agg [.v (.string ⟨#[]⟩),.v (.int .i64 0)]⟩:=by kernel_rfl
@[go_sem] theorem ti215:tinfo Proofs.Tryz.prog 215=some ⟨.struct [(0,9),(1,3)],2,24,.agg [.v (.string ⟨#[]⟩),.v (.int .i64 0)]⟩:=by kernel_rfl
@[go_sem] theorem ti216:tinfo Proofs.Tryz.prog 216=some ⟨.func,1,8,.v .nilFunc⟩:=by kernel_rfl
@[go_sem] theorem ti217:tinfo Proofs.Tryz.prog 217=some ⟨.struct [(0,3),(1,3)],2,16,.agg [.v (.int .i64 0),.v (.int .i64 0)]⟩:=by kernel_rfl
@[go_sem] theorem ti218:tinfo Proofs.Tryz.prog 218=some ⟨.struct [(0,3),(1,3)],2,16,.agg [.v (.int .i64 0),.v (.int .i64 0)]⟩:=by kernel_rfl
@[go_sem] theorem ti219:tinfo Proofs.Tryz.prog 219=some ⟨.func,1,8,.v .nilFunc⟩:=by kernel_rfl
@[go_sem] theorem ti220:tinfo Proofs.Tryz.prog 220=some ⟨.func,1,8,.v .nilFunc⟩:=by kernel_rfl
@[go_sem] theorem ti221:tinfo Proofs.Tryz.prog 221=some ⟨.func,1,8,.v .nilFunc⟩:=by kernel_rfl
@[go_sem] theorem ti222:tinfo Proofs.Tryz.prog 222=some ⟨.func,1,8,.v .nilFunc⟩:=by kernel_rfl
@[go_sem] theorem ti223:tinfo Proofs.Tryz.prog 223=some ⟨.func,1,8,.v .nilFunc⟩:=by kernel_rfl
@[go_sem] theorem ti224:tinfo Proofs.Tryz.prog 224=some ⟨.func,1,8,.v .nilFunc⟩:=by kernel_rfl
@[go_sem] theorem ti225:tinfo Proofs.Tryz.prog 225=some ⟨.func,1,8,.v .nilFunc⟩:=by kernel_rfl
@[go_sem] theorem ti226:tinfo Proofs.Tryz.prog 226=some ⟨.int .u64,1,8,.v (.int .u64 0)⟩:=by kernel_rfl
@[go_sem] theorem ti227:tinfo Proofs.Tryz.prog 227=some ⟨.func,1,8,.v .nilFunc⟩:=by kernel_rfl
@[go_sem] theorem ti228:tinfo Proofs.Tryz.prog 228=some ⟨.func,1,8,.v .nilFunc⟩:=by kernel_rfl
@[go_sem] theorem ti229:tinfo Proofs.Tryz.prog 229=some ⟨.func,1,8,.v .nilFunc⟩:=by kernel_rfl
@[go_sem] theorem ti230:tinfo Proofs.Tryz.prog 230=some ⟨.func,1,8,.v .nilFunc⟩:=by kernel_rfl
@[go_sem] theorem ti231:tinfo Proofs.Tryz.prog 231=some ⟨.func,1,8,.v .nilFunc⟩:=by kernel_rfl
@[go_sem] theorem ti232:tinfo Proofs.Tryz.prog 232=some ⟨.func,1,8,.v .nilFunc⟩:=by kernel_rfl
@[go_sem] theorem ti233:tinfo Proofs.Tryz.prog 233=some ⟨.ptr 297,1,8,.v (.pointer none)⟩:=by kernel_rfl
@[go_sem] theorem ti235:tinfo Proofs.Tryz.prog 235=some ⟨.func,1,8,.v .nilFunc⟩:=by kernel_rfl
@[go_sem] theorem ti237:tinfo Proofs.Tryz.prog 237=some ⟨.func,1,8,.v .nilFunc⟩:=by kernel_rfl
@[go_sem] theorem ti238:tinfo Proofs.Tryz.prog 238=some ⟨.arr 22 3,22,176,.agg [.v (.int .i64 0),.v (.int .i64 0),.v (.int .i64 0),.v (.int .i64 0),.v (.int .i64 0),.v (.int .i64 0),.v (.int .i64 0),.v (.int .i64 0),.v (.int .i64 0),.v (.int .i64 0),.v (.int .i64 0),.v (.int .i64 0),.v (.int .i64 0),.v (.int .i64 0),.v (.int .i64 0),.v (.int .i64 0),.v (.int .i64 0),.v (.int .i64 0),.v (.int .i64 0),.v (.int .i64 0),.v (.int .i64 0),.v (.int .i64 0)]⟩:=by kernel_rfl
@[go_sem] theorem ti239:tinfo Proofs.Tryz.prog 239=some ⟨.func,1,8,.v .nilFunc⟩:=by kernel_rfl
@[go_sem] theorem ti240:tinfo Proofs.Tryz.prog 240=some ⟨.func,1,8,.v .nilFunc⟩:=by kernel_rfl
@[go_sem] theorem ti241:tinfo Proofs.Tryz.prog 241=some ⟨.func,1,8,.v .nilFunc⟩:=by kernel_rfl
@[go_sem] theorem ti242:tinfo Proofs.Tryz.prog 242=some ⟨.func,1,8,.v .nilFunc⟩:=by kernel_rfl
@[go_sem] theorem ti243:tinfo Proofs.Tryz.prog 243=some ⟨.func,1,8,.v .nilFunc⟩:=by kernel_rfl
@[go_sem] theorem ti244:tinfo Proofs.Tryz.prog 244=some ⟨.func,1,8,.v .nilFunc⟩:=by kernel_rfl
@[go_sem] theorem ti245:tinfo Proofs.Tryz.prog 245=some ⟨.func,1,8,.v .nilFunc⟩:=by kernel_rfl
@[go_sem] theorem ti246:tinfo Proofs.Tryz.prog 246=some ⟨.func,1,8,.v .nilFunc⟩:=by kernel_rfl
@[go_sem] theorem ti247:tinfo Proofs.Tryz.prog 247=some ⟨.map 253 3,1,8,.v (.map none)⟩:=by kernel_rfl
@[go_sem] theorem ti248:tinfo Proofs.Tryz.prog 248=some ⟨.struct [(0,3),(1,247)],2,16,.agg [.v (.int .i64 0),.v (.map none)]⟩:=by kernel_rfl
@[go_sem] theorem ti249:tinfo Proofs.Tryz.prog 249=some ⟨.struct [(0,3),(1,247)],2,16,.agg [.v (.int .i64 0),.v (.map none)]⟩:=by kernel_rfl
@[go_sem] theorem ti251:tinfo Proofs.Tryz.prog 251=some ⟨.func,1,8,.v .nilFunc⟩:=by kernel_rfl
@[go_sem] theorem ti252:tinfo Proofs.Tryz.prog 252=some ⟨.struct [(0,3),(1,3),(2,3),(3,9)],4,40,.agg [.v (.int .i64 0),.v (.int .i64 0),.v (.int .i64 0),.v (.string ⟨#[]⟩)]⟩:=by kernel_rfl
@[go_sem] theorem ti253:tinfo Proofs.Tryz.prog 253=some ⟨.struct [(0,3),(1,3),(2,3),(3,9)],4,40,.agg [.v (.int .i64 0),.v (.int .i64 0),.v (.int .i64 0),.v (.string ⟨#[]⟩)]⟩:=by kernel_rfl
@[go_sem] theorem ti254:tinfo Proofs.Tryz.prog 254=some ⟨.struct [(0,3),(1,9),(2,3)],3,32,.agg [.v (.int .i64 0),.v (.string ⟨#[]⟩),.v (.int .i64 0)]⟩:=by kernel_rfl
@[go_sem] theorem ti255:tinfo Proofs.Tryz.prog 255=some ⟨.struct [(0,3),(1,9),(2,3)],3,32,.agg [.v (.int .i64 0),.v (.string ⟨#[]⟩),.v (.int .i64 0)]⟩:=by kernel_rfl
@[go_sem] theorem ti256:tinfo Proofs.Tryz.prog 256=some ⟨.func,1,8,.v .nilFunc⟩:=by kernel_rfl
@[go_sem] theorem ti257:tinfo Proofs.Tryz.prog 257=some ⟨.func,1,8,.v .nilFunc⟩:=by kernel_rfl
@[go_sem] theorem ti258:tinfo Proofs.Tryz.prog 258=some ⟨.func,1,8,.v .nilFunc⟩:=by kernel_rfl
@[go_sem] theorem ti259:tinfo Proofs.Tryz.prog 259=some ⟨.func,1,8,.v .nilFunc⟩:=by kernel_rfl
@[go_sem] theorem ti261:tinfo Proofs.Tryz.prog 261=some ⟨.func,1,8,.v .nilFunc⟩:=by kernel_rfl
@[go_sem] theorem ti262:tinfo Proofs.Tryz.prog 262=some ⟨.func,1,8,.v .nilFunc⟩:=by kernel_rfl
@[go_sem] theorem ti263:tinfo Proofs.Tryz.prog 263=some ⟨.func,1,8,.v .nilFunc⟩:=by kernel_rfl
@[go_sem] theorem ti264:tinfo Proofs.Tryz.prog 264=some ⟨.func,1,8,.v .nilFunc⟩:=by kernel_rfl
@[go_sem] theorem ti265:tinfo Proofs.Tryz.prog 265=some ⟨.func,1,8,.v .nilFunc⟩:=by kernel_rfl
@[go_sem] theorem ti266:tinfo Proofs.Tryz.prog 266=some ⟨.func,1,8,.v .nilFunc⟩:=by kernel_rfl
@[go_sem] theorem ti267:tinfo Proofs.Tryz.prog 267=some ⟨.struct [(0,3),(1,3),(2,3),(3,9)],4,40,.agg [.v (.int .i64 0),.v (.int .i64 0),.v (.int .i64 0),.v (.string ⟨#[]⟩)]⟩:=by kernel_rfl
@[go_sem] theorem ti268:tinfo Proofs.Tryz.prog 268=some ⟨.struct [(0,3),(1,3),(2,3),(3,9)],4,40,.agg [.v (.int .i64 0),.v (.int .i64 0),.v (.int .i64 0),.v (.string ⟨#[]⟩)]⟩:=by kernel_rfl
@[go_sem] theorem ti270:tinfo Proofs.Tryz.prog 270=some ⟨.func,1,8,.v .nilFunc⟩:=by kernel_rfl
@[go_sem] theorem ti271:tinfo Proofs.Tryz.prog 271=some ⟨.func,1,8,.v .nilFunc⟩:=by kernel_rfl
@[go_sem] theorem ti272:tinfo Proofs.Tryz.prog 272=some ⟨.slice 279,1,24,.v (.slice none 0 0)⟩:=by kernel_rfl
@[go_sem] theorem ti273:tinfo Proofs.Tryz.prog 273=some ⟨.struct [(0,3),(1,272),(2,4)],3,40,.agg [.v (.int .i64 0),.v (.slice none 0 0),.v (.bool false)]⟩:=by kernel_rfl
@[go_sem] theorem ti274:tinfo Proofs.Tryz.prog 274=some ⟨.struct [(0,3),(1,272),(2,4)],3,40,.agg [.v (.int .i64 0),.v (.slice none 0 0),.v (.bool false)]⟩:=by kernel_rfl
@[go_sem] theorem ti275:tinfo Proofs.Tryz.prog 275=some ⟨.func,1,8,.v .nilFunc⟩:=by kernel_rfl
@[go_sem] theorem ti277:tinfo Proofs.Tryz.prog 277=some ⟨.func,1,8,.v .nilFunc⟩:=by kernel_rfl
@[go_sem] theorem ti278:tinfo Proofs.Tryz.prog 278=some ⟨.struct [(0,3),(1,3),(2,3),(3,9),(4,3)],5,48,.agg [.v (.int .i64 0),.v (.int .i64 0),.v (.int .i64 0),.v (.string ⟨#[]⟩),.v (.int .i64 0)]⟩:=by kernel_rfl
@[go_sem] theorem ti279:tinfo Proofs.Tryz.prog 279=some ⟨.struct [(0,3),(1,3),(2,3),(3,9),(4,3)],5,48,.agg [.v (.int .i64 0),.v (.int .i64 0),.v (.int .i64 0),.v (.string ⟨#[]⟩),.v (.int .i64 0)]⟩:=by kernel_rfl
@[go_sem] theorem ti280:tinfo Proofs.Tryz.prog 280=some ⟨.func,1,8,.v .nilFunc⟩:=by kernel_rfl
@[go_sem] theorem ti281:tinfo Proofs.Tryz.prog 281=some ⟨.func,1,8,.v .nilFunc⟩:=by kernel_rfl
@[go_sem] theorem ti282:tinfo Proofs.Tryz.prog 282=some ⟨.int .i64,1,8,.v (.int .i64 0)⟩:=by kernel_rfl
@[go_sem] theorem ti284:tinfo Proofs.Tryz.prog 284=some ⟨.func,1,8,.v .nilFunc⟩:=by kernel_rfl
@[go_sem] theorem ti285:tinfo Proofs.Tryz.prog 285=some ⟨.func,1,8,.v .nilFunc⟩:=by kernel_rfl
@[go_sem] theorem ti286:tinfo Proofs.Tryz.prog 286=some ⟨.func,1,8,.v .nilFunc⟩:=by kernel_rfl
@[go_sem] theorem ti287:tinfo Proofs.Tryz.prog 287=some ⟨.func,1,8,.v .nilFunc⟩:=by kernel_rfl
@[go_sem] theorem ti288:tinfo Proofs.Tryz.prog 288=some ⟨.func,1,8,.v .nilFunc⟩:=by kernel_rfl
@[go_sem] theorem ti289:tinfo Proofs.Tryz.prog 289=some ⟨.int .u32,1,4,.v (.int .u32 0)⟩:=by kernel_rfl
@[go_sem] theorem ti290:tinfo Proofs.Tryz.prog 290=some ⟨.func,1,8,.v .nilFunc⟩:=by kernel_rfl
@[go_sem] theorem ti291:tinfo Proofs.Tryz.prog 291=some ⟨.func,1,8,.v .nilFunc⟩:=by kernel_rfl
@[go_sem] theorem ti292:tinfo Proofs.Tryz.prog 292=some ⟨.func,1,8,.v .nilFunc⟩:=by kernel_rfl
@[go_sem] theorem ti293:tinfo Proofs.Tryz.prog 293=some ⟨.func,1,8,.v .nilFunc⟩:=by kernel_rfl
@[go_sem] theorem ti294:tinfo Proofs.Tryz.prog 294=some ⟨.func,1,8,.v .nilFunc⟩:=by kernel_rfl
@[go_sem] theorem ti295:tinfo Proofs.Tryz.prog 295=some ⟨.struct [(0,29),(2,29)],4,32,.agg [.v (.int .i64 0),.v (.int .i64 0),.v (.int .i64 0),.v (.int .i64 0)]⟩:=by kernel_rfl
@[go_sem] theorem ti296:tinfo Proofs.Tryz.prog 296=some ⟨.arr 200 295,800,6400,.agg (zrow 800 (.v (.int .i64 0)))⟩:=by kernel_rfl
@[go_sem] theorem ti297:tinfo Proofs.Tryz.prog 297=some ⟨.arr 200 295,800,6400,.agg (zrow 800 (.v (.int .i64 0)))⟩:=by kernel_rfl
@[go_sem] theorem ti298:tinfo Proofs.Tryz.prog 298=some ⟨.func,1,8,.v .nilFunc⟩:=by kernel_rfl
@[go_sem] theorem ti299:tinfo Proofs.Tryz.prog 299=some ⟨.map 29 4,1,8,.v (.map none)⟩:=by kernel_rfl
@[go_sem] theorem ti300:tinfo Proofs.Tryz.prog 300=some ⟨.func,1,8,.v .nilFunc⟩:=by kernel_rfl
@[go_sem] theorem ti301:tinfo Proofs.Tryz.prog 301=some ⟨.func,1,8,.v .nilFunc⟩:=by kernel_rfl
@[go_sem] theorem ti303:tinfo Proofs.Tryz.prog 303=some ⟨.func,1,8,.v .nilFunc⟩:=by kernel_rfl
@[go_sem] theorem ti304:tinfo Proofs.Tryz.prog 304=some ⟨.slice 25,1,24,.v (.slice none 0 0)⟩:=by kernel_rfl
@[go_sem] theorem ti305:tinfo Proofs.Tryz.prog 305=some ⟨.func,1,8,.v .nilFunc⟩:=by kernel_rfl
@[go_sem] theorem ti306:tinfo Proofs.Tryz.prog 306=some ⟨.func,1,8,.v .nilFunc⟩:=by kernel_rfl
@[go_sem] theorem ti307:tinfo Proofs.Tryz.prog 307=some ⟨.func,1,8,.v .nilFunc⟩:=by kernel_rfl
@[go_sem] theorem ti308:tinfo Proofs.Tryz.prog 308=some ⟨.func,1,8,.v .nilFunc⟩:=by kernel_rfl
@[go_sem] theorem ti309:tinfo Proofs.Tryz.prog 309=some ⟨.arr 2 3,2,16,.agg [.v (.int .i64 0),.v (.int .i64 0)]⟩:=by kernel_rfl
@[go_sem] theorem ti310:tinfo Proofs.Tryz.prog 310=some ⟨.slice 309,1,24,.v (.slice none 0 0)⟩:=by kernel_rfl
@[go_sem] theorem ti311:tinfo Proofs.Tryz.prog 311=some ⟨.func,1,8,.v .nilFunc⟩:=by kernel_rfl
@[go_sem] theorem ti312:tinfo Proofs.Tryz.prog 312=some ⟨.func,1,8,.v .nilFunc⟩:=by kernel_rfl
@[go_sem] theorem ti313:tinfo Proofs.Tryz.prog 313=some ⟨.func,1,8,.v .nilFunc⟩:=by kernel_rfl
@[go_sem] theorem ti314:tinfo Proofs.Tryz.prog 314=some ⟨.func,1,8,.v .nilFunc⟩:=by kernel_rfl
@[go_sem] theorem ti315:tinfo Proofs.Tryz.prog 315=some ⟨.int .u64,1,8,.v (.int .u64 0)⟩:=by kernel_rfl
@[go_sem] theorem ti316:tinfo Proofs.Tryz.prog 316=some ⟨.func,1,8,.v .nilFunc⟩:=by kernel_rfl
@[go_sem] theorem ti317:tinfo Proofs.Tryz.prog 317=some ⟨.func,1,8,.v .nilFunc⟩:=by kernel_rfl
@[go_sem] theorem ti318:tinfo Proofs.Tryz.prog 318=some ⟨.func,1,8,.v .nilFunc⟩:=by kernel_rfl
@[go_sem] theorem ti319:tinfo Proofs.Tryz.prog 319=some ⟨.ptr 3,1,8,.v (.pointer none)⟩:=by kernel_rfl
@[go_sem] theorem ti320:tinfo Proofs.Tryz.prog 320=some ⟨.func,1,8,.v .nilFunc⟩:=by kernel_rfl
@[go_sem] theorem ti321:tinfo Proofs.Tryz.prog 321=some ⟨.func,1,8,.v .nilFunc⟩:=by kernel_rfl
@[go_sem] theorem ti322:tinfo Proofs.Tryz.prog 322=some ⟨.func,1,8,.v .nilFunc⟩:=by kernel_rfl
@[go_sem] theorem ti323:tinfo Proofs.Tryz.prog 323=some ⟨.func,1,8,.v .nilFunc⟩:=by kernel_rfl
@[go_sem] theorem ti324:tinfo Proofs.Tryz.prog 324=some ⟨.slice 249,1,24,.v (.slice none 0 0)⟩:=by kernel_rfl
@[go_sem] theorem ti325:tinfo Proofs.Tryz.prog 325=some ⟨.func,1,8,.v .nilFunc⟩:=by kernel_rfl
@[go_sem] theorem ti326:tinfo Proofs.Tryz.prog 326=some ⟨.func,1,8,.v .nilFunc⟩:=by kernel_rfl
@[go_sem] theorem ti327:tinfo Proofs.Tryz.prog 327=some ⟨.func,1,8,.v .nilFunc⟩:=by kernel_rfl
@[go_sem] theorem ti328:tinfo Proofs.Tryz.prog 328=some ⟨.func,1,8,.v .nilFunc⟩:=by kernel_rfl
@[go_sem] theorem ti329:tinfo Proofs.Tryz.prog 329=some ⟨.func,1,8,.v .nilFunc⟩:=by kernel_rfl
@[go_sem] theorem ti330:tinfo Proofs.Tryz.prog 330=some ⟨.func,1,8,.v .nilFunc⟩:=by kernel_rfl
@[go_sem] theorem ti331:tinfo Proofs.Tryz.prog 331=some ⟨.func,1,8,.v .nilFunc⟩:=by kernel_rfl
@[go_sem] theorem ti332:tinfo Proofs.Tryz.prog 332=some ⟨.func,1,8,.v .nilFunc⟩:=by kernel_rfl
@[go_sem] theorem ti333:tinfo Proofs.Tryz.prog 333=some ⟨.func,1,8,.v .nilFunc⟩:=by kernel_rfl
@[go_sem] theorem ti334:tinfo Proofs.Tryz.prog 334=some ⟨.func,1,8,.v .nilFunc⟩:=by kernel_rfl
@[go_sem] theorem ti335:tinfo Proofs.Tryz.prog 335=some ⟨.func,1,8,.v .nilFunc⟩:=by kernel_rfl
@[go_sem] theorem ti336:tinfo Proofs.Tryz.prog 336=some ⟨.func,1,8,.v .nilFunc⟩:=by kernel_rfl
@[go_sem] theorem ti337:tinfo Proofs.Tryz.prog 337=some ⟨.func,1,8,.v .nilFunc⟩:=by kernel_rfl
@[go_sem] theorem ti338:tinfo Proofs.Tryz.prog 338=some ⟨.func,1,8,.v .nilFunc⟩:=by kernel_rfl
@[go_sem] theorem ti339:tinfo Proofs.Tryz.prog 339=some ⟨.func,1,8,.v .nilFunc⟩:=by kernel_rfl
@[go_sem] theorem ti340:tinfo Proofs.Tryz.prog 340=some ⟨.func,1,8,.v .nilFunc⟩:=by kernel_rfl
@[go_sem] theorem ti341:tinfo Proofs.Tryz.prog 341=some ⟨.ptr 315,1,8,.v (.pointer none)⟩:=by kernel_rfl
@[go_sem] theorem ti342:tinfo Proofs.Tryz.prog 342=some ⟨.func,1,8,.v .nilFunc⟩:=by kernel_rfl
@[go_sem] theorem ti343:tinfo Proofs.Tryz.prog 343=some ⟨.func,1,8,.v .nilFunc⟩:=by kernel_rfl
@[go_sem] theorem ti344:tinfo Proofs.Tryz.prog 344=some ⟨.func,1,8,.v .nilFunc⟩:=by kernel_rfl
@[go_sem] theorem ti345:tinfo Proofs.Tryz.prog 345=some ⟨.func,1,8,.v .nilFunc⟩:=by kernel_rfl
@[go_sem] theorem ti346:tinfo Proofs.Tryz.prog 346=some ⟨.func,1,8,.v .nilFunc⟩:=by kernel_rfl
@[go_sem] theorem ti347:tinfo Proofs.Tryz.prog 347=some ⟨.func,1,8,.v .nilFunc⟩:=by kernel_rfl
@[go_sem] theorem ti348:tinfo Proofs.Tryz.prog 348=some ⟨.func,1,8,.v .nilFunc⟩:=by kernel_rfl
@[go_sem] theorem ti349:tinfo Proofs.Tryz.prog 349=some ⟨.func,1,8,.v .nilFunc⟩:=by kernel_rfl
@[go_sem] theorem ti350:tinfo Proofs.Tryz.prog 350=some ⟨.func,1,8,.v .nilFunc⟩:=by kernel_rfl
@[go_sem] theorem ti351:tinfo Proofs.Tryz.prog 351=some ⟨.struct [(0,17),(1,17),(2,17),(3,9)],4,40,.agg [.v (.pointer none),.v (.pointer none),.v (.pointer none),.v (.string ⟨#[]⟩)]⟩:=by kernel_rfl
@[go_sem] theorem ti352:tinfo Proofs.Tryz.prog 352=some ⟨.struct [(0,17),(1,17),(2,17),(3,9)],4,40,.agg [.v (.pointer none),.v (.pointer none),.v (.pointer none),.v (.string ⟨#[]⟩)]⟩:=by kernel_rfl
@[go_sem] theorem ti353:tinfo Proofs.Tryz.prog 353=some ⟨.arr 0 16,0,0,.agg []⟩:=by kernel_rfl
@[go_sem] theorem ti354:tinfo Proofs.Tryz.prog 354=some ⟨.struct [(0,353)],0,0,.agg []⟩:=by kernel_rfl
@[go_sem] theorem ti355:tinfo Proofs.Tryz.prog 355=some ⟨.struct [(0,353)],0,0,.agg []⟩:=by kernel_rfl
@[go_sem] theorem ti356:tinfo Proofs.Tryz.prog 356=some ⟨.func,1,8,.v .nilFunc⟩:=by kernel_rfl
@[go_sem] theorem ti357:tinfo Proofs.Tryz.prog 357=some ⟨.int .u8,1,1,.v (.int .u8 0)⟩:=by kernel_rfl
@[go_sem] theorem ti358:tinfo Proofs.Tryz.prog 358=some ⟨.int .u8,1,1,.v (.int .u8 0)⟩:=by kernel_rfl
@[go_sem] theorem ti359:tinfo Proofs.Tryz.prog 359=some ⟨.func,1,8,.v .nilFunc⟩:=by kernel_rfl
@[go_sem] theorem ti360:tinfo Proofs.Tryz.prog 360=some ⟨.ptr 5,1,8,.v (.pointer none)⟩:=by kernel_rfl
@[go_sem] theorem ti361:tinfo Proofs.Tryz.prog 361=some ⟨.int .i32,1,4,.v (.int .i32 0)⟩:=by kernel_rfl
@[go_sem] theorem ti362:tinfo Proofs.Tryz.prog 362=some ⟨.int .i32,1,4,.v (.int .i32 0)⟩:=by kernel_rfl
@[go_sem] theorem plain28:plainSt Proofs.Tryz.prog 28=some [.int,.int]:=by kernel_rfl
@[go_sem] theorem plain29:plainSt Proofs.Tryz.prog 29=some [.int,.int]:=by kernel_rfl
@[go_sem] theorem plain174:plainSt Proofs.Tryz.prog 174=some [.int,.int]:=by kernel_rfl
@[go_sem] theorem plain175:plainSt Proofs.Tryz.prog 175=some [.int,.int]:=by kernel_rfl
@[go_sem] theorem plain214:plainSt Proofs.Tryz.prog 214=some [.str,.int]:=by kernel_rfl
@[go_sem] theorem plain215:plainSt Proofs.Tryz.prog 215=some [.str,.int]:=by kernel_rfl
@[go_sem] theorem plain217:plainSt Proofs.Tryz.prog 217=some [.int,.int]:=by kernel_rfl
@[go_sem] theorem plain218:plainSt Proofs.Tryz.prog 218=some [.int,.int]:=by kernel_rfl
@[go_sem] theorem plain252:plainSt Proofs.Tryz.prog 252=some [.int,.int,.int,.str]:=by kernel_rfl
@[go_sem] theorem plain253:plainSt Proofs.Tryz.prog 253=some [.int,.int,.int,.str]:=by kernel_rfl
@[go_sem] theorem plain254:plainSt Proofs.Tryz.prog 254=some [.int,.str,.int]:=by kernel_rfl
@[go_sem] theorem plain255:plainSt Proofs.Tryz.prog 255=some [.int,.str,.int]:=by kernel_rfl
@[go_sem] theorem plain267:plainSt Proofs.Tryz.prog 267=some [.int,.int,.int,.str]:=by kernel_rfl
@[go_sem] theorem plain268:plainSt Proofs.Tryz.prog 268=some [.int,.int,.int,.str]:=by kernel_rfl
@[go_sem] theorem plain278:plainSt Proofs.Tryz.prog 278=some [.int,.int,.int,.str,.int]:=by kernel_rfl
@[go_sem] theorem plain279:plainSt Proofs.Tryz.prog 279=some [.int,.int,.int,.str,.int]:=by kernel_rfl
@[go_sem] theorem plain295:plainSt Proofs.Tryz.prog 295=some [.int,.int,.int,.int]:=by kernel_rfl
@[go_sem] theorem kk3:kkOf Proofs.Tryz.prog 3=some (.sc .int):=by kernel_rfl
@[go_sem] theorem kk29:kkOf Proofs.Tryz.prog 29=some (.st [.int,.int]):=by kernel_rfl
@[go_sem] theorem kk156:kkOf Proofs.Tryz.prog 156=some (.st [.int,.int,.int,.int,.int,.int,.int,.int]):=by kernel_rfl
@[go_sem] theorem kk253:kkOf Proofs.Tryz.prog 253=some (.st [.int,.int,.int,.str]):=by kernel_rfl
@[go_sem] theorem kk268:kkOf Proofs.Tryz.prog 268=some (.st [.int,.int,.int,.str]):=by kernel_rfl
end Go.AL
end
section
namespace Go.AL
open Go Go.RowKit
set_option maxRecDepth 4000
theorem mixed:Proofs.Tryz.prog.follows .mixedOrders=true:=by kernel_rfl
attribute [go_sem] aqv aq
def aInts (l:List Int):AV:=.sl 1 (l.map ai)
def aRows (l:List (List Int)):AV:=.sl 1 (l.map aInts)
def aRows3 (l:List (List (List Int))):AV:=.sl 1 (l.map aRows)
abbrev astr (s:ByteArray):AV:=.v (.string s)
structure Ev where
 kind:Int
 peer:Int
 msg:Int
 time:Int
 asg:List (Int × Int)
 deriving DecidableEq
structure Pr where
 name:ByteArray
 vars:List (ByteArray × Int)
 evs:List Ev
 deriving DecidableEq
def aAsg (a:Int × Int):AV:=.agg [ai a.1,ai a.2]
def aVar (a:ByteArray × Int):AV:=.agg [astr a.1,ai a.2]
def aAsgs (l:List (Int × Int)):AV:=.sl 2 (l.map aAsg)
def aVars (l:List (ByteArray × Int)):AV:=.sl 2 (l.map aVar)
def aEv (e:Ev):AV:=.agg [ai e.kind,ai e.peer,ai e.msg,ai e.time,aAsgs e.asg]
def aEvs (l:List Ev):AV:=.sl 5 (l.map aEv)
def aPr (p:Pr):AV:=.agg [astr p.name,aVars p.vars,aEvs p.evs]
def aPrs (l:List Pr):AV:=.sl 3 (l.map aPr)
def aTr (l:List Pr):AV:=.agg [aPrs l]
abbrev Eid:=Int × Int
def aEid (x:Eid):AV:=.agg [ai x.1,ai x.2]
def aEids (l:List Eid):AV:=.sl 2 (l.map aEid)
attribute [go_sem] aInts aRows aRows3 aAsg aVar aAsgs aVars aEv aEvs aPr aPrs aTr aEid aEids
theorem findIdx_any {α:Type} (l:List α) (p:α→Bool):decide ((0:Int)≤(match l.findIdx? p with|some i=>(i:Int)|none => -1))=l.any p:=by
 cases h:l.findIdx? p with
 | none =>
  rw[List.findIdx?_eq_none_iff] at h
  have:l.any p=false:=by rw[List.any_eq_false];intro x hx;simp [h x hx]
  rw[this];decide
 | some i =>
  rw[List.findIdx?_eq_some_iff_getElem] at h
  obtain⟨hi,hp,_⟩:=h
  have:l.any p=true:=List.any_eq_true.2 ⟨l[i],List.getElem_mem hi,hp⟩
  rw[this];simp
theorem take_le {α:Type} {l:List α} {n N:Nat} (h:l.length≤N):(l.take n).length≤N:=Nat.le_trans (List.length_take_le' _ _) h
def fstF (f:Nat→Int) (n:Nat):Int:=match (List.range n).find? (fun i=>f i != 0) with|some i=>f i|none=>0
theorem fstF_hit {f:Nat→Int} {n k:Nat} (hk:k<n) (h0:∀i,i<k→f i=0) (h:f k ≠ 0):fstF f n=f k:=by
 have:(List.range n).find? (fun i=>f i != 0)=some k:=by
  rw[List.find?_range_eq_some]
  exact⟨by simpa using h,by simpa using hk,fun j hj=>by simpa using h0 j hj⟩
 unfold fstF;rw[this]
theorem fstF_none {f:Nat→Int} {n:Nat} (h:∀i,i<n→f i=0):fstF f n=0:=by
 have:(List.range n).find? (fun i=>f i != 0)=none:=by
  rw[List.find?_eq_none];intro i hi;simpa using h i (List.mem_range.1 hi)
 unfold fstF;rw[this]
structure Smh (ps:List Pr):Prop where
 procs:ps.length≤1000000
 vars:∀p ∈ ps,p.vars.length≤1000000
structure Sm (ps:List Pr):Prop where
 procs:ps.length≤1000000
 evs:∀p ∈ ps,p.evs.length≤1000000
 vars:∀p ∈ ps,p.vars.length≤1000000
 asg:∀p ∈ ps,∀e ∈ p.evs,e.asg.length≤1000000
theorem Sm.h {ps:List Pr} (hs:Sm ps):Smh ps:=⟨hs.procs,hs.vars⟩
end Go.AL
end
section
namespace Go.AL
open Go Go.RowKit
section
variable {C:Cfg} {c:Code} {Q:AQ} {ρ:Env} {L:AHeap}
theorem AWp.perm {L':AHeap} (hp:L.Perm L') (h:AWp C c Q ρ L'):AWp C c Q ρ L :=
 AWp.st (fun _ _ _ _ _ hs=>st_view hs (Lf:=[]) (Lk:=L') hp (LVw.refl _) fun _ => .inr (.refl _)) h
theorem AWp.nodup (h:(L.map (·.1)).Nodup→AWp C c Q ρ L):AWp C c Q ρ L:=fun hok n w0 M A0 a w hs=>by
 obtain⟨A,ds,hs'⟩:=st_iff.1 hs
 exact h hs'.l.nodup hok n w0 M A0 a w hs
theorem AWp.viewP {Lf Lk L':AHeap} (hp:L.Perm (Lf ++ Lk)) (hv:LVw Lf Lk L') (sv:List (Nat × AV)) (hs:∀p ∈ sv,Vw Lf (get ρ p.1) p.2) (h:AWp C c Q (sv ++ ρ) L'):AWp C c Q ρ L:=by
 refine AWp.st (fun w0 M A0 a w hst=>st_view hst hp hv fun i => .inr ?_) h
 clear h
 induction sv with
 | nil=>exact .refl _
 | cons p sv ih =>
  obtain⟨j,x⟩:=p
  simp only[List.cons_append,get]
  split
  ·rename_i e;subst e;exact hs (i,x) List.mem_cons_self
  ·exact ih fun p hp=>hs p (List.mem_cons_of_mem _ hp)
theorem AWp.loopN (ls ks:List Nat) (I:Nat→List AV→AHeap→Prop) (m0:Nat) (h0:I m0 (ls.map (get ρ)) L)
  (round:∀m vs L',vs.length=ls.length→I m vs L'→AWp C c (roundQ ls ks ρ (fun vs' L''=>∃m',m'<m∧I m' vs' L'') Q) (lenv ls ks vs ρ) L'):AWp C (.loop c) Q ρ L:=by
 open Classical in
 let μ:List AV→AHeap→Nat:=fun vs L=>if h:∃m,I m vs L then Classical.choose (least h) else 0
 refine AWp.loop ls ks (fun vs L=>∃m,I m vs L) μ ⟨m0,h0⟩ fun vs L' hl hI => ?_
 have hμ:μ vs L'=Classical.choose (least hI):=dif_pos hI
 have hm:=(Classical.choose_spec (least hI)).1
 refine(round _ vs L' hl hm).mono fun e ρ' L'' hq => ?_
 cases e with
 | normal =>
  obtain⟨h1,L3,h2,m',h3,h4⟩:=hq
  have hx:∃m,I m (ls.map (get ρ')) L3:=⟨m',h4⟩
  refine⟨h1,L3,h2,hx,?_⟩
  have e:μ (ls.map (get ρ')) L3=Classical.choose (least hx):=dif_pos hx
  rw[e,hμ]
  exact Nat.lt_of_le_of_lt ((Classical.choose_spec (least hx)).2 _ h4) h3
 | _=>exact hq
end
theorem lk_of_mem {L:AHeap} (hn:(L.map (·.1)).Nodup) {b:Nat} {x:ABlk} (h:(b,x) ∈ L):lk L b=some x:=by
 induction L with
 | nil=>cases h
 | cons y r ih =>
  obtain⟨b',y⟩:=y
  simp only[List.map_cons,List.nodup_cons] at hn
  simp only[lk]
  rcases List.mem_cons.1 h with e|h'
  ·cases e;rw[if_pos rfl]
  ·have hne:¬b=b':=fun e=>by subst e;exact hn.1 (List.mem_map_of_mem (f:=(·.1)) h')
   rw[if_neg hne,ih hn.2 h']
theorem flatMap_ext {α β:Type} {f g:α→List β} : ∀ {l:List α},(∀x ∈ l,f x=g x)→l.flatMap f=l.flatMap g
 | [],_=>rfl
 | x :: l,h=>by simp only[List.flatMap_cons];rw[h x (by simp),flatMap_ext fun y hy=>h y (List.mem_cons_of_mem _ hy)]
def famL (n:Nat) (Ls:Nat→AHeap):AHeap:=(List.range n).flatMap Ls
def famR (n p:Nat) (Ls:Nat→AHeap):AHeap:=((List.range n).erase p).flatMap Ls
theorem fam_split {n p:Nat} (hp:p<n) (Ls:Nat→AHeap):(famL n Ls).Perm (Ls p ++ famR n p Ls):=by
 have h:=List.Perm.flatMap_right Ls (List.perm_cons_erase (List.mem_range.2 hp))
 rwa [List.flatMap_cons] at h
theorem famR_congr {n p:Nat} {Ls Ls':Nat→AHeap} (h:∀q,q ≠ p→Ls' q=Ls q):famR n p Ls'=famR n p Ls :=
 flatMap_ext fun q hq=>h q fun e=>by subst e;exact(List.nodup_range.not_mem_erase) hq
theorem map_range_set (n p:Nat) (V:Nat→AV) (x:AV):((List.range n).map V).set p x=(List.range n).map fun q=>if q=p then x else V q:=by
 apply List.ext_getElem?
 intro i
 rw[List.getElem?_set,List.getElem?_map,List.getElem?_map]
 by_cases hi:i<n
 ·rw[List.getElem?_range hi]
  by_cases e:p=i
  ·subst e;simp [hi]
  ·rw[if_neg e];simp [Ne.symm e]
 ·have:(List.range n)[i]?=none:=by simp;omega
  rw[this]
  split
  ·split
   ·rename_i h;simp at h;omega
   ·rfl
  ·rfl
theorem fam_views {n k:Nat} {t:TypeId} {V:Nat→AV} {Ls:Nat→AHeap} {Y:Nat→List AV} (hn:((famL n Ls).map (·.1)).Nodup) (h:∀p,p<n→AppSt t k (Y p) (V p) (Ls p)) :
  Vws (famL n Ls) ((List.range n).map V) ((List.range n).map fun p => .sl k (Y p)):=by
 refine⟨by simp,fun i x y hx hy => ?_⟩
 by_cases hi:i<n
 ·rw[List.getElem?_map,List.getElem?_range hi] at hx hy
  cases hx;cases hy
  show Vw (famL n Ls) (V i) (.sl k (Y i))
  rcases (h i hi).inv with ⟨e1,e2,_⟩|⟨b,cap,e1,e2⟩
  ·rw[e1,e2];exact .nil k
  ·rw[e1]
   refine Vw.ofLs (t:=t) (cap:=cap) (lk_of_mem hn ?_) rfl
   unfold famL
   exact List.mem_flatMap.2 ⟨i,List.mem_range.2 hi,by rw[e2];exact List.mem_singleton_self _⟩
 ·have:(List.range n)[i]?=none:=by simp;omega
  rw[List.getElem?_map,this] at hx;cases hx
theorem map_range_getD {n p:Nat} (hp:p<n) (V:Nat→AV):((List.range n).map V).getD p .any=V p:=by
 rw[List.getD_eq_getElem?_getD,List.getElem?_map,List.getElem?_range hp];rfl
end Go.AL
end
section
namespace Go.AL
open Go Go.RowKit
set_option maxRecDepth 4000
inductive Pd where
 | mk (kind n proc peer:Int) (name:ByteArray) (l:List Pd)
def Pd.l:Pd→List Pd | .mk _ _ _ _ _ l=>l
def Pd.kind:Pd→Int | .mk k _ _ _ _ _=>k
mutual
def aPd:Pd→AV
 | .mk k n p q s l => .agg [ai k,ai n,ai p,ai q,astr s,.sl 6 (aPdL l)]
def aPdL:List Pd→List AV
 | []=>[]
 | x :: r=>aPd x :: aPdL r
end
theorem aPdL_map:∀l:List Pd,aPdL l=l.map aPd
 | []=>by rw[aPdL];rfl
 | x :: r=>by rw[aPdL,aPdL_map r];rfl
@[go_sem] theorem aPd_mk (k n p q:Int) (s:ByteArray) (l:List Pd):aPd (.mk k n p q s l) = .agg [ai k,ai n,ai p,ai q,astr s,.sl 6 (l.map aPd)]:=by rw[aPd,aPdL_map]
theorem Pd.ind {P:Pd→Prop} (h:∀k n p q s l,(∀x ∈ l,P x)→P (.mk k n p q s l)):∀t,P t
 | .mk k n p q s l=>h k n p q s l fun x hx=>Pd.ind h x
termination_by t=>SizeOf.sizeOf t
decreasing_by have:=List.sizeOf_lt_of_mem hx;simp;omega
mutual
def szF:Pd→Nat
 | .mk _ _ _ _ _ l=>szL l+1
def szL:List Pd→Nat
 | []=>0
 | x :: r=>szF x+szL r
end
mutual
def dpF:Pd→Nat
 | .mk _ _ _ _ _ l=>dpL l+1
def dpL:List Pd→Nat
 | []=>0
 | x :: r=>max (dpF x) (dpL r)
end
theorem szF_pos (t:Pd):1≤szF t:=by cases t;rw[szF];omega
theorem szL_len:∀l:List Pd,l.length≤szL l
 | []=>by simp
 | x :: l=>by rw[szL,List.length_cons];have:=szL_len l;have:=szF_pos x;omega
theorem szL_mem:∀ {l:List Pd} {x:Pd},x ∈ l→szF x≤szL l
 | y :: l,x,h=>by
  rw[szL]
  rcases List.mem_cons.1 h with rfl|h
  ·omega
  ·have:=szL_mem h;omega
def partsF (k:Int):Int:=if ((1≤k∧k≤4)∨k=13)∨k=14 then 0 else if (k=5∨k=15)∨(18≤k∧k≤21) then 1 else if ((6≤k∧k≤12)∨k=16)∨k=17 then 2 else -1
mutual
def allB (f:Pd→Bool):Pd→Bool
 | .mk k n p q s l=>f (.mk k n p q s l) && allL f l
def allL (f:Pd→Bool):List Pd→Bool
 | []=>true
 | x :: r=>allB f x && allL f r
end
theorem allL_all (f:Pd→Bool):∀l,allL f l=l.all (allB f)
 | []=>by rw[allL];rfl
 | x :: r=>by rw[allL,allL_all f r];rfl
theorem allB_mk (f:Pd→Bool) (k n p q:Int) (s:ByteArray) (l:List Pd):allB f (.mk k n p q s l)=(f (.mk k n p q s l) && l.all (allB f)):=by rw[allB,allL_all]
def numB (k n:Int):Bool:=if k=1 then decide (0≤n∧n≤1125899906842624) else decide (n=0)
def nameB (k p q:Int) (s:ByteArray):Bool:=decide (2≤k∧k≤4) || decide (p=0∧q=0∧s=ByteArray.empty)
def locB:Pd→Bool
 | .mk k n p q s l=>decide (partsF k=l.length) && numB k n && nameB k p q s
def formedB (t:Pd):Bool:=decide (szF t≤200) && decide (dpF t≤20) && allB locB t
def findS {S:Type} (step:Pd→S→Bool × S):List Pd→S→Option Nat × S
 | [],s=>(none,s)
 | x :: r,s=>if (step x s).1 then (some 0,(step x s).2) else ((findS step r (step x s).2).1.map (· + 1),(findS step r (step x s).2).2)
def idxA (o:Option Nat):Int:=match o with|some i=>i|none => -1
theorem findS_step {S:Type} (step:Pd→S→Bool × S) {l:List Pd} {s s':S} {k:Nat} (hk:k<l.length) (h:findS step l s=((findS step (l.drop k) s').1.map (· + k),(findS step (l.drop k) s').2)) :
  ((step l[k] s').1=true→findS step l s=(some k,(step l[k] s').2)) ∧
  ((step l[k] s').1=false→findS step l s=((findS step (l.drop (k+1)) (step l[k] s').2).1.map (· + (k+1)),(findS step (l.drop (k+1)) (step l[k] s').2).2)):=by
 rw[List.drop_eq_getElem_cons hk,findS] at h
 refine⟨fun e => ?_,fun e => ?_⟩
 ·rw[if_pos e] at h;rw[h];simp
 ·rw[if_neg (by rw[e];decide)] at h;rw[h];simp only[Option.map_map]
  congr 2
  funext i;simp only[Function.comp];omega
theorem preds_indexS {S:Type} (step:Pd→S→Bool × S) (Ls:S→AHeap) (Inv:S→Prop) (l:List Pd) (hl:l.length≤1000000) (g:AV) (hgf:fo g=(True,g))
  (hg:∀x ∈ l,∀s,Inv s→MVal Proofs.Tryz.prog g [aPd x] (Ls s) fun r L=>r=ab (step x s).1∧L=Ls (step x s).2) (hi:∀x ∈ l,∀s,Inv s→(step x s).1=false→Inv (step x s).2) (s:S) (hs:Inv s) :
  MCalls Proofs.Tryz.prog 197 [.sl 6 (l.map aPd),g] (Ls s) fun r L=>r=ai (idxA (findS step l s).1)∧L=Ls (findS step l s).2:=by
 refine MCalls.enter' 19 [.tmp 4] [] Proofs.Tryz.func197 rfl rfl rfl rfl rfl (by simp) (AWp.of ?_);simp only[go_sem]
 refine Sd ?_
 refine AWp.of ?_;simp only[go_sem]
 refine AWp.range' l.length [] [0,1,7] (fun k vs L=>∃s',L=Ls s'∧Inv s'∧findS step l s=((findS step (l.drop k) s').1.map (· + k),(findS step (l.drop k) s').2)) (by omega) rfl rfl rfl ⟨s,rfl,hs,by simp⟩ ?_ ?_
 ·rintro k vs L' hk hvs ⟨s',rfl,hI,hf⟩
  obtain⟨f1,f2⟩:=findS_step step hk hf
  have hm:=List.getElem_mem hk
  have hgk:=hg l[k] hm s' hI
  have hik:=hi l[k] hm s' hI
  have hgi:=getD_map (f:=aPd) hk
  generalize l[k]=x at *
  generalize step x s'=st at *
  obtain⟨k2,n2,p2,q2,s2,l2⟩:=x
  simp only[aPd_mk] at hgi hgk
  simp only[go_sem]
  refine Sd ?_
  refine AWp.of ?_;simp only[go_sem]
  refine Sd ?_
  refine AWp.of ?_;simp only[go_sem,hgi,hgf]
  refine Sd ?_
  refine hgk.mono ?_
  rintro r L'' ⟨rfl,rfl⟩
  simp only[go_sem]
  refine Wk ?_
  refine⟨fun ht => ?_,fun hf' => ?_⟩
  ·refine Wk ?_
   refine ret_own ?_
   simp only[go_sem]
   rw[f1 ht];exact⟨rfl,rfl⟩
  ·refine Wk ?_
   exact⟨_,List.Sublist.refl _,_,rfl,hik hf',f2 hf'⟩
 ·rintro vs L' hvs ⟨s',rfl,hI,hf⟩
  simp only[go_sem]
  refine Wk ?_
  refine ret_own ?_
  simp only[go_sem]
  rw[hf,List.drop_length];exact⟨rfl,rfl⟩
theorem preds_containsS {S:Type} (step:Pd→S→Bool × S) (Ls:S→AHeap) (Inv:S→Prop) (l:List Pd) (hl:l.length≤1000000) (g:AV) (hgf:fo g=(True,g))
  (hg:∀x ∈ l,∀s,Inv s→MVal Proofs.Tryz.prog g [aPd x] (Ls s) fun r L=>r=ab (step x s).1∧L=Ls (step x s).2) (hi:∀x ∈ l,∀s,Inv s→(step x s).1=false→Inv (step x s).2) (s:S) (hs:Inv s) :
  MCalls Proofs.Tryz.prog 121 [.sl 6 (l.map aPd),g] (Ls s) fun r L=>r=ab ((findS step l s).1.isSome)∧L=Ls (findS step l s).2:=by
 have h:=preds_indexS step Ls Inv l hl g hgf hg hi s hs
 generalize findS step l s=o at *
 have ho:0≤idxA o.1↔o.1.isSome=true:=by cases o.1 <;> simp [idxA]
 refine MCalls.enter' 9 [.tmp 4] [] Proofs.Tryz.func121 rfl rfl rfl rfl rfl (by simp) (AWp.of ?_);simp only[go_sem]
 refine Sd ?_
 refine AWp.of ?_;simp only[go_sem,hgf]
 refine h.val.mono ?_
 rintro r L'' ⟨rfl,rfl⟩
 simp only[go_sem]
 refine Wk ?_
 refine ret_own ?_
 simp only[go_sem]
 congr 2
 rw[Bool.eq_iff_iff,decide_eq_true_iff];exact ho
theorem findS_any (p:Pd→Bool):∀l:List Pd,(findS (fun x (_:Unit)=>(p x,())) l ()).1.isSome=l.any p
 | []=>rfl
 | x :: r=>by
  rw[findS,List.any_cons]
  by_cases h:p x=true
  ·simp [h]
  ·have:=findS_any p r
   simp only[h,Bool.false_eq_true,if_false,Bool.false_or]
   rw[← this];simp
theorem preds_containsFunc (l:List Pd) (hl:l.length≤1000000) (g:AV) (hgf:fo g=(True,g)) (p:Pd→Bool) (hg:∀x ∈ l,PV Proofs.Tryz.prog g [aPd x] (ab (p x))) :
  PC Proofs.Tryz.prog 121 [.sl 6 (l.map aPd),g] (ab (l.any p)):=by
 have h:=preds_containsS (fun x (_:Unit)=>(p x,())) (fun _=>[]) (fun _=>True) l hl g hgf (fun x hx s _=>hg x hx) (fun _ _ _ _ _=>trivial) () trivial
 rw[findS_any] at h
 exact h
def resF (k:Int):Int:=if k≤8 then 1 else 2
def needF (k:Int):Int:=if k≤12 then 1 else 2
theorem predtype_result (k:Int):PC Proofs.Tryz.prog 129 [ai k] (ai (resF k)):=by
 refine PC.enter 5 [.tmp 2] [] Proofs.Tryz.func129 rfl rfl rfl rfl rfl (by simp) (AWp.of ?_);simp only[go_sem]
 refine Wk ?_
 refine Wk ?_
 refine⟨fun h1 => ?_,fun h1 => ?_⟩
 ·refine Wk ?_
  refine ret_eq ?_;simp only[go_sem]
  unfold resF;rw[if_pos h1]
 ·refine Wk ?_
  refine ret_eq ?_;simp only[go_sem]
  unfold resF;rw[if_neg h1]
theorem predtype_need (k:Int):PC Proofs.Tryz.prog 130 [ai k] (ai (needF k)):=by
 refine PC.enter 5 [.tmp 2] [] Proofs.Tryz.func130 rfl rfl rfl rfl rfl (by simp) (AWp.of ?_);simp only[go_sem]
 refine Wk ?_
 refine Wk ?_
 refine⟨fun h1 => ?_,fun h1 => ?_⟩
 ·refine Wk ?_
  refine ret_eq ?_;simp only[go_sem]
  unfold needF;rw[if_pos h1]
 ·refine Wk ?_
  refine ret_eq ?_;simp only[go_sem]
  unfold needF;rw[if_neg h1]
def tyNe (k m:Int):Bool:=decide (¬resF m=needF k)
def typB:Pd→Bool
 | .mk k _ _ _ _ l => !l.any fun x=>tyNe k x.kind
theorem predtype_typed11 (k n p q:Int) (s:ByteArray) (l:List Pd) (x:Pd):PC Proofs.Tryz.prog 128 [aPd x,.rp 6 [aPd (.mk k n p q s l)] 0 0] (ab (tyNe k x.kind)):=by
 have hr:=predtype_result x.kind
 have hn:=predtype_need k
 obtain⟨k2,n2,p2,q2,s2,l2⟩:=x
 simp only[Pd.kind] at *
 have hsp:tyNe k k2=decide (¬resF k2=needF k):=rfl
 generalize tyNe k k2=b at *
 generalize hr0:resF k2=r at *
 generalize hm0:needF k=m at *
 refine PC.enter 11 [.tmp 3] [2] Proofs.Tryz.func128 rfl rfl rfl rfl rfl (by simp) (AWp.of ?_);simp only[go_sem]
 refine AWp.seq ?_
 repeat(first|(with_reducible refine AWp.seq ?_)|(with_reducible refine AWp.block ?_))
 refine AWp.mix mixed [0,1,2,3,4,5,6,7] .done (by kernel_rfl) ?_;simp only[go_sem]
 refine Sd ?_
 refine Gc hr ?_
 refine Sd ?_
 refine Gc hn ?_
 refine Sd ?_
 refine Wk ?_
 refine ret_eq ?_;simp only[go_sem]
 rw[hsp,decide_not]
theorem predtype_typed1 (x:Pd) (hz:szF x≤1000000):PC Proofs.Tryz.prog 127 [aPd x] (ab (typB x)):=by
 obtain⟨k,n,p,q,s,l⟩:=x
 have hll:=szL_len l
 rw[szF] at hz
 have hc:=preds_containsFunc l (by omega) (.clo 128 [.rp 6 [aPd (.mk k n p q s l)] 0 0]) rfl (fun x=>tyNe k x.kind) fun x _=>(predtype_typed11 k n p q s l x).clo
 have hsp:typB (.mk k n p q s l) = !l.any fun x=>tyNe k x.kind:=rfl
 rw[hsp]
 generalize (l.any fun x=>tyNe k x.kind)=b at *
 simp only[aPd_mk] at hc
 refine PC.enter 8 [.tmp 2] [1] Proofs.Tryz.func127 rfl rfl rfl rfl rfl (by simp) (AWp.of ?_);simp only[go_sem]
 refine Wk ?_
 refine Sd ?_
 refine(hc).val.use ?_;simp only[go_sem]
 refine Wk ?_
 refine ret_eq ?_;simp only[go_sem]
theorem predtype_eachC (f:Pd→Bool) (F:FuncId) (cs:List AV) (hg:∀x,szF x≤1000000→PV Proofs.Tryz.prog (.clo F cs) [aPd x] (ab (f x))) (t:Pd):szF t≤1000000→PC Proofs.Tryz.prog 123 [aPd t,.clo F cs] (ab (allB f t)):=by
 induction t using Pd.ind with
 | _ k n p q s l ih =>
 intro hz
 have hsz:szF (.mk k n p q s l)=szL l+1:=by rw[szF]
 have hll:=szL_len l
 have hf:=hg _ hz
 have h1:∀x ∈ l,PV Proofs.Tryz.prog (.clo 198 [.rp 1 [.clo F cs] 0 0]) [aPd x] (ab (!allB f x)):=by
  intro x hx
  have hxi:=szL_mem hx
  have hch:=ih x hx (by omega)
  generalize allB f x=b at *
  obtain⟨k2,n2,p2,q2,s2,l2⟩:=x
  refine PC.clo ?_
  simp only[aPd_mk] at *
  refine PC.enter 8 [.tmp 3] [2] Proofs.Tryz.func198 rfl rfl rfl rfl rfl (by simp) (AWp.of ?_);simp only[go_sem]
  refine Wk ?_
  refine Sd ?_
  refine(hch).val.use ?_;simp only[go_sem]
  refine Wk ?_
  refine ret_eq ?_;simp only[go_sem]
 have hc:=preds_containsFunc l (by omega) _ rfl (fun x => !allB f x) h1
 have hsp:allB f (.mk k n p q s l)=(f (.mk k n p q s l) && !l.any fun x => !allB f x):=by
  rw[allB_mk];congr 1
  rw[List.all_eq_not_any_not]
 rw[hsp]
 generalize f (.mk k n p q s l)=b at *
 generalize (l.any fun x => !allB f x)=c at *
 simp only[aPd_mk] at *
 refine PC.enter 15 [.tmp 4] [2,3] Proofs.Tryz.func123 rfl rfl rfl rfl rfl (by simp) (AWp.of ?_);simp only[go_sem]
 refine Wk ?_
 refine Sd ?_
 refine(hf).use ?_;simp only[go_sem]
 refine Sd ?_
 refine Gc hc ?_
 refine Sd ?_
 refine Wk ?_
 refine ret_eq ?_;simp only[go_sem]
theorem predtype_eachV (f:Pd→Bool) (F:FuncId) (hg:∀x,szF x≤1000000→PV Proofs.Tryz.prog (.v (.func (.func F) #[] #[])) [aPd x] (ab (f x))) (t:Pd):szF t≤1000000→PC Proofs.Tryz.prog 123 [aPd t,.v (.func (.func F) #[] #[])] (ab (allB f t)):=by
 induction t using Pd.ind with
 | _ k n p q s l ih =>
 intro hz
 have hsz:szF (.mk k n p q s l)=szL l+1:=by rw[szF]
 have hll:=szL_len l
 have hf:=hg _ hz
 have h1:∀x ∈ l,PV Proofs.Tryz.prog (.clo 198 [.rp 1 [.v (.func (.func F) #[] #[])] 0 0]) [aPd x] (ab (!allB f x)):=by
  intro x hx
  have hxi:=szL_mem hx
  have hch:=ih x hx (by omega)
  generalize allB f x=b at *
  obtain⟨k2,n2,p2,q2,s2,l2⟩:=x
  refine PC.clo ?_
  simp only[aPd_mk] at *
  refine PC.enter 8 [.tmp 3] [2] Proofs.Tryz.func198 rfl rfl rfl rfl rfl (by simp) (AWp.of ?_);simp only[go_sem]
  refine Wk ?_
  refine Sd ?_
  refine(hch).val.use ?_;simp only[go_sem]
  refine Wk ?_
  refine ret_eq ?_;simp only[go_sem]
 have hc:=preds_containsFunc l (by omega) _ rfl (fun x => !allB f x) h1
 have hsp:allB f (.mk k n p q s l)=(f (.mk k n p q s l) && !l.any fun x => !allB f x):=by
  rw[allB_mk];congr 1
  rw[List.all_eq_not_any_not]
 rw[hsp]
 generalize f (.mk k n p q s l)=b at *
 generalize (l.any fun x => !allB f x)=c at *
 simp only[aPd_mk] at *
 refine PC.enter 15 [.tmp 4] [2,3] Proofs.Tryz.func123 rfl rfl rfl rfl rfl (by simp) (AWp.of ?_);simp only[go_sem]
 refine Wk ?_
 refine Sd ?_
 refine(hf).use ?_;simp only[go_sem]
 refine Sd ?_
 refine Gc hc ?_
 refine Sd ?_
 refine Wk ?_
 refine ret_eq ?_;simp only[go_sem]
def typedB (t:Pd):Bool:=allB typB t
theorem predtype_typed (t:Pd) (hz:szF t≤1000000):PC Proofs.Tryz.prog 85 [aPd t] (ab (typedB t)):=by
 have he:=predtype_eachV typB 127 (fun x hx=>(predtype_typed1 x hx).val) t hz
 unfold typedB
 generalize allB typB t=b at *
 obtain⟨k,n,p,q,s,l⟩:=t
 simp only[aPd_mk] at *
 refine PC.enter 5 [.tmp 2] [1] Proofs.Tryz.func85 rfl rfl rfl rfl rfl (by simp) (AWp.of ?_);simp only[go_sem]
 refine Wk ?_
 refine Sd ?_
 refine(he).val.use ?_;simp only[go_sem]
 refine Wk ?_
 refine ret_eq ?_;simp only[go_sem]
theorem predtype_named (k:Int):PC Proofs.Tryz.prog 196 [ai k] (ab (decide (2≤k∧k≤4))):=by
 generalize hb:decide (2≤k∧k≤4)=b
 refine PC.enter 13 [.tmp 2] [] Proofs.Tryz.func196 rfl rfl rfl rfl rfl (by simp) (AWp.of ?_);simp only[go_sem]
 refine Wk ?_
 refine ret_eq ?_;simp only[go_sem]
 rw[← hb]
 congr 2
 rw[Bool.eq_iff_iff];simp;omega
theorem partsAV_get {k:Int} (h1:1≤k) (h2:k<22):partsAV.getD k.toNat .any=ai (partsF k):=by
 have:k=1∨k=2∨k=3∨k=4∨k=5∨k=6∨k=7∨k=8∨k=9∨k=10∨k=11∨k=12∨k=13∨k=14∨k=15∨k=16∨k=17∨k=18∨k=19∨k=20∨k=21:=by omega
 rcases this with rfl|rfl|rfl|rfl|rfl|rfl|rfl|rfl|rfl|rfl|rfl|rfl|rfl|rfl|rfl|rfl|rfl|rfl|rfl|rfl|rfl <;> rfl
theorem partsAV_len:partsAV.length=22:=rfl
theorem predtype_fits (t:Pd) (hz:szF t≤1000000):PC Proofs.Tryz.prog 120 [aPd t] (ab (locB t)):=by
 obtain⟨k,n,p,q,s,l⟩:=t
 have hll:=szL_len l
 rw[szF] at hz
 have hnm:=predtype_named k
 have hsp:locB (.mk k n p q s l)=(decide (partsF k=l.length) && numB k n && nameB k p q s):=rfl
 have hpg:=@partsAV_get k
 generalize locB (.mk k n p q s l)=b at *
 refine PC.enter 59 [.tmp 2] [1] Proofs.Tryz.func120 rfl rfl rfl rfl rfl (by simp) (AWp.of ?_);simp only[go_sem]
 by_cases k1:k<1
 ·have hk0:partsAV.getD k.toNat .any=ai (-1):=by rw[show k.toNat=0 by omega];rfl
  have hpf:partsF k = -1:=by unfold partsF;rw[if_neg (by omega),if_neg (by omega),if_neg (by omega)]
  refine AWp.seq (AWp.seq ?_)
  repeat(first|(with_reducible refine AWp.seq ?_)|(with_reducible refine AWp.block ?_))
  refine AWp.mix mixed [0,1,2,3,4,5,6,7,8,9,10,11,12,13,14,15,16,17,18,19,20,21,22,23,24,25,26,27,28,29,30,31,32,33,34,35,36,37] .done (by kernel_rfl) ?_;simp only[go_sem,GV,partsAV_len,k1,hk0]
  refine Sd ?_
  refine Wk ?_
  refine ret_eq ?_;simp only[go_sem]
  rw[hsp,hpf,decide_eq_false (by omega)];rfl
 by_cases k2:22≤k
 ·have hk0:partsAV.getD k.toNat .any = .any:=by rw[List.getD_eq_getElem?_getD,List.getElem?_eq_none (by rw[partsAV_len];omega)];rfl
  have hpf:partsF k = -1:=by unfold partsF;rw[if_neg (by omega),if_neg (by omega),if_neg (by omega)]
  refine AWp.seq (AWp.seq ?_)
  repeat(first|(with_reducible refine AWp.seq ?_)|(with_reducible refine AWp.block ?_))
  refine AWp.mix mixed [0,1,2,3,4,5,6,7,8,9,10,11,12,13,14,15,16,17,18,19,20,21,22,23,24,25,26,27,28,29,30,31,32,33,34,35,36,37] .done (by kernel_rfl) ?_;simp only[go_sem,GV,partsAV_len,k1,k2,hk0]
  refine Sd ?_
  refine Wk ?_
  refine ret_eq ?_;simp only[go_sem]
  rw[hsp,hpf,decide_eq_false (by omega)];rfl
 have hpg:=hpg (by omega) (by omega)
 refine AWp.seq (AWp.seq ?_)
 repeat(first|(with_reducible refine AWp.seq ?_)|(with_reducible refine AWp.block ?_))
 refine AWp.mix mixed [0,1,2,3,4,5,6,7,8,9,10,11,12,13,14,15,16,17,18,19,20,21,22,23,24,25,26,27,28,29,30,31,32,33,34,35,36,37] .done (by kernel_rfl) ?_;simp only[go_sem,GV,partsAV_len,k1,k2,hpg]
 refine Sd ?_
 refine Wk ?_
 refine⟨fun h1 => ?_,fun h1 => ?_⟩
 ·refine Wk ?_
  refine ret_eq ?_;simp only[go_sem]
  rw[hsp]
  by_cases e:partsF k=l.length
  ·rw[show numB k n=false by unfold numB;split <;> rw[decide_eq_false (by omega)]];rw[Bool.and_false];rfl
  ·rw[decide_eq_false e];rfl
 intro h2 h3 h4
 have hnu:numB k n=true:=by
  unfold numB
  split
  ·rw[decide_eq_true (by omega)]
  ·rename_i e
   rw[decide_eq_true];exact Classical.byContradiction fun hc=>e (h4 hc)
 rw[decide_eq_true h1.symm,hnu,Bool.true_and,Bool.true_and] at hsp
 refine Wk ?_
 refine Sd ?_
 refine(hnm).val.use ?_;simp only[go_sem]
 refine Wk ?_
 refine ret_eq ?_;simp only[go_sem]
 rw[hsp]
 unfold nameB
 congr 2
 rw[Bool.eq_iff_iff]
 simp only[Bool.or_eq_true,Bool.and_eq_true,decide_eq_true_iff]
 rw[and_assoc];rfl
mutual
def walkF:Pd→Int→Int→Bool × Int
 | .mk k n p q s l,d,c=>if c - 1<0∨20<d∨locB (.mk k n p q s l)=false then (false,c - 1) else walkL l (d+1) (c - 1)
def walkL:List Pd→Int→Int→Bool × Int
 | [],_,c=>(true,c)
 | x :: r,d,c=>if (walkF x d c).1 then walkL r d (walkF x d c).2 else (false,(walkF x d c).2)
end
def stepW (d:Int) (x:Pd) (c:Int):Bool × Int:=(!(walkF x d c).1,(walkF x d c).2)
theorem findS_walk (d:Int):∀(l:List Pd) (c:Int),(findS (stepW d) l c).1.isSome = !(walkL l d c).1∧(findS (stepW d) l c).2=(walkL l d c).2
 | [],c=>by rw[walkL,findS];exact⟨rfl,rfl⟩
 | x :: r,c=>by
  rw[walkL,findS]
  by_cases h:(walkF x d c).1=true
  ·have ih:=findS_walk d r (walkF x d c).2
   rw[if_pos h,if_neg (by simp [stepW,h])]
   exact⟨by rw[← ih.1];simp [stepW],ih.2⟩
  ·rw[if_neg h,if_pos (by simp [stepW,h])]
   exact⟨rfl,rfl⟩
theorem walkF_spec (t:Pd):∀d c:Int,0≤c→((walkF t d c).1=true↔(szF t:Int)≤c∧d+dpF t≤21∧allB locB t=true)∧((walkF t d c).1=true→(walkF t d c).2=c - szF t):=by
 induction t using Pd.ind with
 | _ k n p q s l ih =>
 intro d c hc
 have hL:∀(l':List Pd),(∀x ∈ l',x ∈ l)→∀c:Int,0≤c→((walkL l' (d+1) c).1=true↔(szL l':Int)≤c∧(∀x ∈ l',d+1+dpF x≤21)∧l'.all (allB locB)=true)∧((walkL l' (d+1) c).1=true→(walkL l' (d+1) c).2=c - szL l'):=by
  intro l'
  induction l' with
  | nil=>intro _ c hc;rw[walkL,szL];exact⟨⟨fun _=>⟨by simpa using hc,by simp,rfl⟩,fun _=>rfl⟩,fun _=>by simp⟩
  | cons x r ihr =>
   intro hm c hc
   obtain⟨i1,i2⟩:=ih x (hm x List.mem_cons_self) (d+1) c hc
   rw[walkL,szL,List.all_cons]
   by_cases h:(walkF x (d+1) c).1=true
   ·have e2:=i2 h
    obtain⟨j1,j2,j3⟩:=i1.1 h
    obtain⟨r1,r2⟩:=ihr (fun y hy=>hm y (List.mem_cons_of_mem _ hy)) (walkF x (d+1) c).2 (by omega)
    rw[if_pos h]
    refine⟨r1.trans (Iff.intro ?_ ?_),fun h2=>by rw[r2 h2,e2];omega⟩
    ·rintro⟨a1,a2,a3⟩
     refine⟨by omega,fun y hy => ?_,by rw[j3,a3];rfl⟩
     rcases List.mem_cons.1 hy with rfl|hy
     ·exact j2
     ·exact a2 y hy
    ·rintro⟨a1,a2,a3⟩
     rw[j3] at a3
     exact⟨by omega,fun y hy=>a2 y (List.mem_cons_of_mem _ hy),a3⟩
   ·rw[if_neg h]
    refine⟨Iff.intro (fun h2=>by cases h2) ?_,fun h2=>by cases h2⟩
    rintro⟨a1,a2,a3⟩
    rw[Bool.and_eq_true] at a3
    exact absurd (i1.2 ⟨by omega,a2 x List.mem_cons_self,a3.1⟩) h
 have hdl:∀l':List Pd,(∀x ∈ l',d+1+dpF x≤21)∧d≤20↔d+((dpL l'+1:Nat):Int)≤21:=by
  intro l'
  induction l' with
  | nil=>rw[dpL];constructor
         ·rintro⟨_,h⟩;omega
         ·intro h;exact⟨by simp,by omega⟩
  | cons x r ihr =>
   rw[dpL]
   constructor
   ·rintro⟨h1,h2⟩
    have:=ihr.1 ⟨fun y hy=>h1 y (List.mem_cons_of_mem _ hy),h2⟩
    have:=h1 x List.mem_cons_self
    omega
   ·intro h
    have:=ihr.2 (by omega)
    refine⟨fun y hy => ?_,this.2⟩
    rcases List.mem_cons.1 hy with rfl|hy
    ·omega
    ·exact this.1 y hy
 have hd:=hdl l
 rw[walkF,szF,dpF,allB_mk]
 by_cases h:c - 1<0∨20<d∨locB (.mk k n p q s l)=false
 ·rw[if_pos h]
  refine⟨Iff.intro (fun h=>by cases h) ?_,fun h=>by cases h⟩
  rintro⟨a1,a2,a3⟩
  have:=hd.2 a2
  rw[Bool.and_eq_true] at a3
  rcases h with h|h|h
  ·omega
  ·omega
  ·rw[h] at a3;cases a3.1
 ·rw[if_neg h]
  obtain⟨w1,w2⟩:=hL l (fun _ h=>h) (c - 1) (by omega)
  have hlo:locB (.mk k n p q s l)=true:=by
   cases e:locB (.mk k n p q s l)
   ·exact absurd (Or.inr (Or.inr e)) h
   ·rfl
  rw[hlo,Bool.true_and]
  refine⟨w1.trans (Iff.intro ?_ ?_),fun h=>by rw[w2 h];omega⟩
  ·rintro⟨a1,a2,a3⟩
   exact⟨by omega,hd.1 ⟨a2,by omega⟩,a3⟩
  ·rintro⟨a1,a2,a3⟩
   exact⟨by omega,(hd.2 a2).1,a3⟩
theorem walkF_formed (t:Pd):(walkF t 1 200).1=formedB t:=by
 rw[Bool.eq_iff_iff,(walkF_spec t 1 200 (by decide)).1]
 unfold formedB
 simp only[Bool.and_eq_true,decide_eq_true_iff,and_assoc]
 exact⟨fun ⟨a,b,c⟩=>⟨by omega,by omega,c⟩,fun ⟨a,b,c⟩=>⟨by omega,by omega,c⟩⟩
def aWalk (bl bw:Nat):AV:=.clo 119 [.lp bl 1 0 0,.lp bw 1 0 0]
def LwPd (bl bw:Nat) (c:Int):AHeap:=[(bw,.row 169 1 [aWalk bl bw] 1),(bl,.row 3 1 [ai c] 1)]
theorem stepW_inv {d:Int} {x:Pd} {c:Int} (h0:0≤c) (h:(stepW d x c).1=false):0≤(stepW d x c).2∧(stepW d x c).2≤c:=by
 have h1:(walkF x d c).1=true:=by simpa [stepW] using h
 obtain⟨w1,w2⟩:=walkF_spec x d c h0
 have:=w2 h1
 have:=w1.1 h1
 show 0≤(walkF x d c).2∧(walkF x d c).2≤c
 omega
theorem predtype_formed1 (bl bw:Nat) (hb:¬bl=bw) (t:Pd):szF t≤1000000→∀d c:Int,0≤d→d≤21→0≤c→c≤200 →
  MCalls Proofs.Tryz.prog 119 [aPd t,ai d,.lp bl 1 0 0,.lp bw 1 0 0] (LwPd bl bw c) fun r L=>r=ab (walkF t d c).1∧L=LwPd bl bw (walkF t d c).2:=by
 induction t using Pd.ind with
 | _ k n p q s l ih =>
 intro hz d c d0 d1 c0 c1
 have hsz:szF (.mk k n p q s l)=szL l+1:=by rw[szF]
 have hll:=szL_len l
 have hb':¬bw=bl:=fun e=>hb e.symm
 have hft:=predtype_fits _ hz
 have hkid:d≤20→∀x ∈ l,∀c':Int,0≤c'∧c'≤200→MVal Proofs.Tryz.prog (.clo 122 [.lp bw 1 0 0,.rp 1 [ai d] 0 0]) [aPd x] (LwPd bl bw c') fun r L=>r=ab (stepW (d+1) x c').1∧L=LwPd bl bw (stepW (d+1) x c').2:=by
  intro hd x hx c' hc'
  have hxi:=szL_mem hx
  have hch:=ih x hx (by omega) (d+1) c' (by omega) (by omega) hc'.1 hc'.2
  have e1:(stepW (d+1) x c').1 = !(walkF x (d+1) c').1:=rfl
  have e2:(stepW (d+1) x c').2=(walkF x (d+1) c').2:=rfl
  rw[e1,e2]
  generalize walkF x (d+1) c'=w at *
  obtain⟨k2,n2,p2,q2,s2,l2⟩:=x
  refine MCalls.clo ?_
  unfold LwPd aWalk at *
  simp only[aPd_mk] at *
  refine MCalls.enter' 11 [.tmp 4] [3] Proofs.Tryz.func122 rfl rfl rfl rfl rfl (by simp) (AWp.of ?_);simp only[go_sem]
  refine W1 hb' ?_
  refine Sd ?_
  refine(MCalls.clo hch).mono ?_
  rintro r L ⟨rfl,rfl⟩
  simp only[go_sem]
  refine Wk ?_
  refine ret_own ?_
  simp only[go_sem]
 have hsp:walkF (.mk k n p q s l) d c=if c - 1<0∨20<d∨locB (.mk k n p q s l)=false then (false,c - 1) else walkL l (d+1) (c - 1):=by rw[walkF]
 have hcs:d≤20→0≤c - 1→_:=fun h1 h2=>preds_containsS (stepW (d+1)) (LwPd bl bw) (fun c=>0≤c∧c≤200) l (by omega) (.clo 122 [.lp bw 1 0 0,.rp 1 [ai d] 0 0]) rfl (hkid h1) (fun x hx c' hc' h=>by have:=stepW_inv hc'.1 h;omega) (c - 1) (by omega)
 obtain⟨f1,f2⟩:=findS_walk (d+1) l (c - 1)
 rw[f1,f2] at hcs
 generalize walkL l (d+1) (c - 1)=w at *
 generalize locB (.mk k n p q s l)=b at *
 generalize walkF (.mk k n p q s l) d c=z at *
 unfold LwPd aWalk at *
 simp only[aPd_mk] at *
 refine MCalls.enter' 25 [.tmp 6] [4,5] Proofs.Tryz.func119 rfl rfl rfl rfl rfl (by simp) (AWp.of ?_);simp only[go_sem]
 refine W1 hb ?_
 refine Sd ?_
 refine Gc hft ?_
 refine Sd ?_
 refine Wk ?_
 refine⟨fun h1 => ?_,fun h1 => ?_⟩
 ·have hz':z=(false,c - 1):=by
   rw[hsp,if_pos]
   rcases h1 with (h1|h1)|h1
   ·exact .inl h1
   ·exact .inr (.inl h1)
   ·exact .inr (.inr (by simpa using h1))
  refine Wk ?_
  refine ret_own ?_
  simp only[go_sem]
  rw[hz'];exact⟨rfl,rfl⟩
 intro h2 h3
 have hz':z=w:=by rw[hsp,if_neg];rintro(h|h|h);exact h1 h;exact h2 h;rw[h3] at h;cases h
 have hcs:=hcs (by omega) (by omega)
 refine W1 hb' ?_
 refine Sd ?_
 refine hcs.val.mono ?_
 rintro r L ⟨rfl,rfl⟩
 simp only[go_sem]
 refine Wk ?_
 refine ret_own ?_
 simp only[go_sem]
 rw[hz'];exact⟨rfl,rfl⟩
theorem predtype_formed (t:Pd) (hz:szF t≤1000000):PC Proofs.Tryz.prog 83 [aPd t] (ab (formedB t)):=by
 rw[← walkF_formed]
 have hw:=fun bl bw hb=>predtype_formed1 bl bw hb t hz 1 200 (by decide) (by decide) (by decide) (by decide)
 unfold LwPd aWalk at hw
 generalize walkF t 1 200=w at *
 obtain⟨k,n,p,q,s,l⟩:=t
 simp only[aPd_mk] at *
 refine PC.enter 9 [.tmp 2] [1] Proofs.Tryz.func83 rfl rfl rfl rfl rfl (by simp) (AWp.of ?_);simp only[go_sem]
 refine Wk ?_
 intro bl
 refine Wk ?_
 intro bw hlt
 have hb:¬bw=bl:=by omega
 have hb':¬bl=bw:=by omega
 refine W1 hb ?_
 refine Sd ?_
 refine(MCalls.clo (hw bl bw hb')).mono ?_
 rintro r L ⟨rfl,rfl⟩
 simp only[go_sem]
 refine Wk ?_
 refine ret_eq ?_;simp only[go_sem]
theorem predtype_TypeX (t:Pd) (hz:szF t≤1000000):PC Proofs.Tryz.prog 218 [aPd t] (.tup [ai (if formedB t=false then 0 else if typedB t=false then 0 else resF t.kind),ai (if formedB t=false then 1 else if typedB t=false then 14 else 0)]):=by
 have hf:=predtype_formed t hz
 have ht:=predtype_typed t hz
 have hr:=predtype_result t.kind
 generalize formedB t=f at *
 generalize typedB t=y at *
 obtain⟨k,n,p,q,s,l⟩:=t
 simp only[aPd_mk,Pd.kind] at *
 generalize resF k=r at *
 refine PC.enter 15 [.tmp 2,.tmp 3] [1] Proofs.Tryz.func218 rfl rfl rfl rfl rfl (by simp) (AWp.of ?_);simp only[go_sem]
 refine Wk ?_
 refine Sd ?_
 refine(hf).val.use ?_;simp only[go_sem]
 refine Wk ?_
 refine⟨fun h1 => ?_,fun h1 => ?_⟩
 ·refine Wk ?_
  refine ret_eq ?_;simp only[go_sem]
  simp [h1]
 refine Wk ?_
 refine Sd ?_
 refine(ht).val.use ?_;simp only[go_sem]
 refine Wk ?_
 refine⟨fun h2 => ?_,fun h2 => ?_⟩
 ·refine Wk ?_
  refine ret_eq ?_;simp only[go_sem]
  simp [h1,h2]
 refine Wk ?_
 refine Sd ?_
 refine(hr).val.use ?_;simp only[go_sem]
 refine Wk ?_
 refine ret_eq ?_;simp only[go_sem]
 simp [h1,h2]
mutual
def rwF (c:List Int):Pd→Pd
 | .mk k n p q s l=>if k=3 then .mk 6 0 0 0 ByteArray.empty [.mk k n p q s l,.mk 1 (c.getD p.toNat 0) 0 0 ByteArray.empty []] else .mk k n p q s (rwL c l)
def rwL (c:List Int):List Pd→List Pd
 | []=>[]
 | x :: r=>rwF c x :: rwL c r
end
def aPd0:AV:=.agg [ai 0,ai 0,ai 0,ai 0,astr ByteArray.empty,anil]
end Go.AL
end
