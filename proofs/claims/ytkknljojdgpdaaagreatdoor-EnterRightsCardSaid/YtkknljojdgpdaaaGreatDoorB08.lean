import Derived.Test.YtkknljojdgpdaaaGreatDoorB07
import Derived.Test.YtkknljojdgpdaaaGreatDoorProg
import Derived.KernelRfl
set_option maxHeartbeats 32000000
set_option linter.unusedSimpArgs false
namespace Lx
open Go
open Go.Proofs (Tryz.prog)
def T2:TI:=⟨.int .i64,1,8,.int .i64 0,true⟩
def T4:TI:=⟨.boo,1,1,.bool false,true⟩
def T5:TI:=⟨.int .u8,1,1,.int .u8 0,true⟩
def T9:TI:=⟨.str,1,16,.string ⟨#[]⟩,true⟩
def T12:TI:=⟨.int .u64,1,8,.int .u64 0,true⟩
def T13:TI:=⟨.st [(0,9),(1,12)],2,24,.agg #[.string ⟨#[]⟩,.int .u64 0],false⟩
def T20:TI:=⟨.ifc,1,16,.nilIface,false⟩
def T21:TI:=⟨.int .i32,1,4,.int .i32 0,true⟩
def qqU (e:Nat):TI:=⟨.sli e,1,24,.slice none 0 0,false⟩
def T29:TI:=⟨.st [(0,22),(1,24),(2,25),(3,26),(4,27),(5,28)],6,144,.agg #[.slice none 0 0,.slice none 0 0,.slice none 0 0,.slice none 0 0,.slice none 0 0,.slice none 0 0],false⟩
def qvL (e:Nat):TI:=⟨.ptr e,1,8,.pointer none,false⟩
def T38:TI:=⟨.st [(0,34),(1,35),(2,36),(3,37)],4,80,.agg #[.pointer none,.slice none 0 0,.slice none 0 0,.slice none 0 0],false⟩
def T45:TI:=⟨.st [(0,9),(1,44),(2,3)],3,32,.agg #[.string ⟨#[]⟩,.int .i64 0,.int .i64 0],true⟩
def T47:TI:=⟨.st [(0,9),(1,43),(2,46)],5,72,.agg #[.string ⟨#[]⟩,.slice none 0 0,.string ⟨#[]⟩,.int .i64 0,.int .i64 0],false⟩
def zkL (e f:Nat):TI:=⟨.map e f,1,8,.map none,false⟩
def T51:TI:=⟨.st [(0,50),(1,3),(2,2),(3,3)],4,32,.agg #[.int .i64 0,.int .i64 0,.int .i64 0,.int .i64 0],true⟩
def T54:TI:=⟨.st [(0,9),(1,52)],5,48,.agg #[.string ⟨#[]⟩,.int .i64 0,.int .i64 0,.int .i64 0,.int .i64 0],false⟩
def T58:TI:=⟨.st [(0,56),(1,3),(2,57)],3,56,.agg #[.slice none 0 0,.int .i64 0,.slice none 0 0],false⟩
def T61:TI:=⟨.st [(0,60),(1,3),(2,3),(3,4),(4,4),(5,4),(6,52),(10,37)],11,88,.agg #[.int .i64 0,.int .i64 0,.int .i64 0,.bool false,.bool false,.bool false,.int .i64 0,.int .i64 0,.int .i64 0,.int .i64 0,.slice none 0 0],false⟩
def T68:TI:=⟨.st [(0,9),(1,66),(2,3),(3,67),(4,57)],5,80,.agg #[.string ⟨#[]⟩,.int .i64 0,.int .i64 0,.slice none 0 0,.slice none 0 0],false⟩
def T70:TI:=⟨.st [(0,3),(1,3),(2,2)],3,24,.agg #[.int .i64 0,.int .i64 0,.int .i64 0],true⟩
def T72:TI:=⟨.st [(0,9),(1,3)],2,24,.agg #[.string ⟨#[]⟩,.int .i64 0],true⟩
def T82:TI:=⟨.st [(0,9),(1,3),(2,3)],3,32,.agg #[.string ⟨#[]⟩,.int .i64 0,.int .i64 0],true⟩
def T84:TI:=⟨.st [(0,9),(1,81),(2,83)],5,72,.agg #[.string ⟨#[]⟩,.slice none 0 0,.string ⟨#[]⟩,.int .i64 0,.int .i64 0],false⟩
def T91:TI:=⟨.st [(0,90),(1,9),(2,2),(3,3),(4,22)],5,64,.agg #[.int .i64 0,.string ⟨#[]⟩,.int .i64 0,.int .i64 0,.slice none 0 0],false⟩
def T99:TI:=⟨.st [(0,3),(1,9),(2,2),(3,3),(4,26)],5,64,.agg #[.int .i64 0,.string ⟨#[]⟩,.int .i64 0,.int .i64 0,.slice none 0 0],false⟩
def T107:TI:=⟨.st [(0,40)],1,8,.agg #[.int .i64 0],true⟩
def T117:TI:=⟨.st [(0,115),(1,3),(2,116)],3,56,.agg #[.slice none 0 0,.int .i64 0,.slice none 0 0],false⟩
def T121:TI:=⟨.st [(0,114),(1,119),(2,36),(3,120)],4,80,.agg #[.pointer none,.slice none 0 0,.slice none 0 0,.slice none 0 0],false⟩
def T123:TI:=⟨.st [(0,3),(1,3),(2,2),(3,3)],4,32,.agg #[.int .i64 0,.int .i64 0,.int .i64 0,.int .i64 0],true⟩
def T129:TI:=⟨.st [(0,9),(1,124)],5,48,.agg #[.string ⟨#[]⟩,.int .i64 0,.int .i64 0,.int .i64 0,.int .i64 0],false⟩
def T144:TI:=⟨.st [(0,3),(1,40)],2,16,.agg #[.int .i64 0,.int .i64 0],true⟩
def T148:TI:=⟨.st [(0,141),(1,3)],2,32,.agg #[.slice none 0 0,.int .i64 0],false⟩
def T151:TI:=⟨.st [(0,150),(1,9),(2,2),(3,3)],4,40,.agg #[.int .i64 0,.string ⟨#[]⟩,.int .i64 0,.int .i64 0],true⟩
def T167:TI:=⟨.st [(0,163),(1,3),(2,3),(3,3),(4,3)],5,56,.agg #[.slice none 0 0,.int .i64 0,.int .i64 0,.int .i64 0,.int .i64 0],false⟩
def T169:TI:=⟨.st [(0,3),(1,9),(2,2),(3,3)],4,40,.agg #[.int .i64 0,.string ⟨#[]⟩,.int .i64 0,.int .i64 0],true⟩
def T176:TI:=⟨.st [(0,9),(1,3),(2,3),(3,175),(4,116)],5,80,.agg #[.string ⟨#[]⟩,.int .i64 0,.int .i64 0,.slice none 0 0,.slice none 0 0],false⟩
def T191:TI:=⟨.st [(0,3),(1,3),(2,3),(3,4),(4,4),(5,4),(6,124),(10,120)],11,88,.agg #[.int .i64 0,.int .i64 0,.int .i64 0,.bool false,.bool false,.bool false,.int .i64 0,.int .i64 0,.int .i64 0,.int .i64 0,.slice none 0 0],false⟩
def T239:TI:=⟨.arr 3 9,3,48,.agg #[.string ⟨#[]⟩,.string ⟨#[]⟩,.string ⟨#[]⟩],false⟩
def T251:TI:=⟨.arr 2 3,2,16,.agg #[.int .i64 0,.int .i64 0],false⟩
def T290:TI:=⟨.st [(0,9)],1,16,.agg #[.string ⟨#[]⟩],true⟩
def T301:TI:=⟨.int .u32,1,4,.int .u32 0,true⟩
set_option maxRecDepth 100000 in
def tl:List (Nat×TI):=[(2,T2),(3,T2),(4,T4),(5,T5),(9,T9),(12,T12),(13,T13),(20,T20),(21,T21),(22,(qqU 92)),(23,(qqU 69)),(24,(qqU 69)),(25,(qqU 48)),(26,(qqU 100)),(27,(qqU 177)),(28,(qqU 85)),(29,T29),(30,T29),(34,(qvL 59)),(35,(qqU 55)),(36,(qqU 3)),(37,(qqU 52)),(38,T38),(39,T38),(40,T2),(43,(qqU 46)),(44,T2),(45,T45),(46,T45),(47,T47),(48,T47),(49,(zkL 3 3)),(50,T2),(51,T51),(52,T51),(54,T54),(55,T54),(56,(qqU 62)),(57,(qqU 71)),(58,T58),(59,T58),(60,T2),(61,T61),(62,T61),(64,(qqU 2)),(66,T2),(67,(qqU 73)),(68,T68),(69,T68),(70,T70),(71,T70),(72,T72),(73,T72),(78,(qvL 122)),(81,(qqU 83)),(82,T82),(83,T82),(84,T84),(85,T84),(90,T2),(91,T91),(92,T91),(99,T99),(100,T99),(107,T107),(108,T107),(114,(qvL 118)),(115,(qqU 192)),(116,(qqU 189)),(117,T117),(118,T117),(119,(qqU 130)),(120,(qqU 124)),(121,T121),(122,T121),(123,T123),(124,T123),(129,T129),(130,T129),(136,(qvL 62)),(141,(qqU 152)),(144,T144),(145,T144),(147,(qvL 149)),(148,T148),(149,T148),(150,T2),(151,T151),(152,T151),(157,T144),(158,T144),(163,(qqU 170)),(166,(qvL 168)),(167,T167),(168,T167),(169,T169),(170,T169),(175,(qqU 193)),(176,T176),(177,T176),(182,(qvL 39)),(189,T70),(191,T191),(192,T191),(193,T72),(213,(qvL 69)),(230,(zkL 44 60)),(236,T20),(239,T239),(250,(qqU 9)),(251,T251),(272,T12),(275,T12),(281,(qqU 5)),(286,(zkL 9 90)),(288,(qvL 5)),(290,T290),(301,T301)]
theorem tk {P:Program}{t:TypeId}{i:TI}{a:TypeInfo}{d:TypeDesc}(h:P.info? t=some a)(k:P.underlying t=some d)(e:a.size=i.size/\a.bytes=i.bytes/\a.zero=some i.zero/\dk d=i.desc/\i.zero.cells.size=i.size/\(!i.cmp||(a.comparable&&zxX P t i.desc))=true:=by exact⟨rfl,rfl,rfl,rfl,rfl,by kernel_rfl⟩):jvp P t i:=⟨a,d,h,e.1,e.2.1,e.2.2.1,k,e.2.2.2.1,e.2.2.2.2.1,e.2.2.2.2.2⟩
set_option maxRecDepth 100000 in
open Go.Proofs.Tryz in
theorem kzc:jvo Go.Proofs.Tryz.prog tl:=
 ⟨tk type2 underlying2,tk type3 underlying3,tk type4 underlying4,tk type5 underlying5,tk type9 underlying9,tk type12 underlying12,tk type13 underlying13,tk type20 underlying20,tk type21 underlying21,tk type22 underlying22,tk type23 underlying23,tk type24 underlying24,tk type25 underlying25,tk type26 underlying26,tk type27 underlying27,tk type28 underlying28,tk type29 underlying29,tk type30 underlying30,tk type34 underlying34,tk type35 underlying35,tk type36 underlying36,tk type37 underlying37,tk type38 underlying38,tk type39 underlying39,tk type40 underlying40,tk type43 underlying43,tk type44 underlying44,tk type45 underlying45,tk type46 underlying46,tk type47 underlying47,tk type48 underlying48,tk type49 underlying49,tk type50 underlying50,tk type51 underlying51,tk type52 underlying52,tk type54 underlying54,tk type55 underlying55,tk type56 underlying56,tk type57 underlying57,tk type58 underlying58,tk type59 underlying59,tk type60 underlying60,tk type61 underlying61,tk type62 underlying62,tk type64 underlying64,tk type66 underlying66,tk type67 underlying67,tk type68 underlying68,tk type69 underlying69,tk type70 underlying70,tk type71 underlying71,tk type72 underlying72,tk type73 underlying73,tk type78 underlying78,tk type81 underlying81,tk type82 underlying82,tk type83 underlying83,tk type84 underlying84,tk type85 underlying85,tk type90 underlying90,tk type91 underlying91,tk type92 underlying92,tk type99 underlying99,tk type100 underlying100,tk type107 underlying107,tk type108 underlying108,tk type114 underlying114,tk type115 underlying115,tk type116 underlying116,tk type117 underlying117,tk type118 underlying118,tk type119 underlying119,tk type120 underlying120,tk type121 underlying121,tk type122 underlying122,tk type123 underlying123,tk type124 underlying124,tk type129 underlying129,tk type130 underlying130,tk type136 underlying136,tk type141 underlying141,tk type144 underlying144,tk type145 underlying145,tk type147 underlying147,tk type148 underlying148,tk type149 underlying149,tk type150 underlying150,tk type151 underlying151,tk type152 underlying152,tk type157 underlying157,tk type158 underlying158,tk type163 underlying163,tk type166 underlying166,tk type167 underlying167,tk type168 underlying168,tk type169 underlying169,tk type170 underlying170,tk type175 underlying175,tk type176 underlying176,tk type177 underlying177,tk type182 underlying182,tk type189 underlying189,tk type191 underlying191,tk type192 underlying192,tk type193 underlying193,tk type213 underlying213,tk type230 underlying230,tk type236 underlying236,tk type239 underlying239,tk type250 underlying250,tk type251 underlying251,tk type272 underlying272,tk type275 underlying275,tk type281 underlying281,tk type286 underlying286,tk type288 underlying288,tk type290 underlying290,tk type301 underlying301,trivial⟩
theorem qzt:TOK Go.Proofs.Tryz.prog tl:=kzc.ok
set_option maxRecDepth 100000 in
theorem jqz:jvk tl:=by
 (repeat refine⟨rfl,?_⟩);exact trivial
theorem qzl:ZOK tl:=jqz.ok
def mkG (w:Bool)(own vis:Nat->Bool)(hp:Bool)(st:Nat->Bool):Env:={tl:=tl,wrap:=w,own:=own,vis:=vis,hp:=hp,st:=st}
abbrev mkE (w:Bool)(own vis:Nat->Bool):Env:=mkG w own vis false (fun _=>false)
abbrev mkH (w:Bool)(own vis st:Nat->Bool):Env:=mkG w own vis true st
section
variable (w:Bool)(own vis:Nat->Bool)(hp:Bool)(st:Nat->Bool)
@[go_sem]theorem yvf:(mkG w own vis hp st).wrap=w:=rfl
@[go_sem]theorem jxO:(mkG w own vis hp st).own=own:=rfl
@[go_sem]theorem jxN:(mkG w own vis hp st).vis=vis:=rfl
@[go_sem]theorem kq1:(mkG w own vis hp st).hp=hp:=rfl
@[go_sem]theorem kq0:(mkG w own vis hp st).st=st:=rfl
@[go_sem]theorem ti2:(mkG w own vis hp st).ti 2=some T2:=by kernel_rfl
@[go_sem]theorem ti3:(mkG w own vis hp st).ti 3=some T2:=by kernel_rfl
@[go_sem]theorem ti4:(mkG w own vis hp st).ti 4=some T4:=by kernel_rfl
@[go_sem]theorem ti5:(mkG w own vis hp st).ti 5=some T5:=by kernel_rfl
@[go_sem]theorem ti9:(mkG w own vis hp st).ti 9=some T9:=by kernel_rfl
@[go_sem]theorem ti12:(mkG w own vis hp st).ti 12=some T12:=by kernel_rfl
@[go_sem]theorem ti13:(mkG w own vis hp st).ti 13=some T13:=by kernel_rfl
@[go_sem]theorem ti20:(mkG w own vis hp st).ti 20=some T20:=by kernel_rfl
@[go_sem]theorem ti21:(mkG w own vis hp st).ti 21=some T21:=by kernel_rfl
@[go_sem]theorem ti22:(mkG w own vis hp st).ti 22=some (qqU 92):=by kernel_rfl
@[go_sem]theorem ti23:(mkG w own vis hp st).ti 23=some (qqU 69):=by kernel_rfl
@[go_sem]theorem ti24:(mkG w own vis hp st).ti 24=some (qqU 69):=by kernel_rfl
@[go_sem]theorem ti25:(mkG w own vis hp st).ti 25=some (qqU 48):=by kernel_rfl
@[go_sem]theorem ti26:(mkG w own vis hp st).ti 26=some (qqU 100):=by kernel_rfl
@[go_sem]theorem ti27:(mkG w own vis hp st).ti 27=some (qqU 177):=by kernel_rfl
@[go_sem]theorem ti28:(mkG w own vis hp st).ti 28=some (qqU 85):=by kernel_rfl
@[go_sem]theorem ti29:(mkG w own vis hp st).ti 29=some T29:=by kernel_rfl
@[go_sem]theorem ti30:(mkG w own vis hp st).ti 30=some T29:=by kernel_rfl
@[go_sem]theorem ti34:(mkG w own vis hp st).ti 34=some (qvL 59):=by kernel_rfl
@[go_sem]theorem ti35:(mkG w own vis hp st).ti 35=some (qqU 55):=by kernel_rfl
@[go_sem]theorem ti36:(mkG w own vis hp st).ti 36=some (qqU 3):=by kernel_rfl
@[go_sem]theorem ti37:(mkG w own vis hp st).ti 37=some (qqU 52):=by kernel_rfl
@[go_sem]theorem ti38:(mkG w own vis hp st).ti 38=some T38:=by kernel_rfl
@[go_sem]theorem ti39:(mkG w own vis hp st).ti 39=some T38:=by kernel_rfl
@[go_sem]theorem ti40:(mkG w own vis hp st).ti 40=some T2:=by kernel_rfl
@[go_sem]theorem ti43:(mkG w own vis hp st).ti 43=some (qqU 46):=by kernel_rfl
@[go_sem]theorem ti44:(mkG w own vis hp st).ti 44=some T2:=by kernel_rfl
@[go_sem]theorem ti45:(mkG w own vis hp st).ti 45=some T45:=by kernel_rfl
@[go_sem]theorem ti46:(mkG w own vis hp st).ti 46=some T45:=by kernel_rfl
@[go_sem]theorem ti47:(mkG w own vis hp st).ti 47=some T47:=by kernel_rfl
@[go_sem]theorem ti48:(mkG w own vis hp st).ti 48=some T47:=by kernel_rfl
@[go_sem]theorem ti49:(mkG w own vis hp st).ti 49=some (zkL 3 3):=by kernel_rfl
@[go_sem]theorem ti50:(mkG w own vis hp st).ti 50=some T2:=by kernel_rfl
@[go_sem]theorem ti51:(mkG w own vis hp st).ti 51=some T51:=by kernel_rfl
@[go_sem]theorem ti52:(mkG w own vis hp st).ti 52=some T51:=by kernel_rfl
@[go_sem]theorem ti54:(mkG w own vis hp st).ti 54=some T54:=by kernel_rfl
@[go_sem]theorem ti55:(mkG w own vis hp st).ti 55=some T54:=by kernel_rfl
@[go_sem]theorem ti56:(mkG w own vis hp st).ti 56=some (qqU 62):=by kernel_rfl
@[go_sem]theorem ti57:(mkG w own vis hp st).ti 57=some (qqU 71):=by kernel_rfl
@[go_sem]theorem ti58:(mkG w own vis hp st).ti 58=some T58:=by kernel_rfl
@[go_sem]theorem ti59:(mkG w own vis hp st).ti 59=some T58:=by kernel_rfl
@[go_sem]theorem ti60:(mkG w own vis hp st).ti 60=some T2:=by kernel_rfl
@[go_sem]theorem ti61:(mkG w own vis hp st).ti 61=some T61:=by kernel_rfl
@[go_sem]theorem ti62:(mkG w own vis hp st).ti 62=some T61:=by kernel_rfl
@[go_sem]theorem ti64:(mkG w own vis hp st).ti 64=some (qqU 2):=by kernel_rfl
@[go_sem]theorem ti66:(mkG w own vis hp st).ti 66=some T2:=by kernel_rfl
@[go_sem]theorem ti67:(mkG w own vis hp st).ti 67=some (qqU 73):=by kernel_rfl
@[go_sem]theorem ti68:(mkG w own vis hp st).ti 68=some T68:=by kernel_rfl
@[go_sem]theorem ti69:(mkG w own vis hp st).ti 69=some T68:=by kernel_rfl
@[go_sem]theorem ti70:(mkG w own vis hp st).ti 70=some T70:=by kernel_rfl
@[go_sem]theorem ti71:(mkG w own vis hp st).ti 71=some T70:=by kernel_rfl
@[go_sem]theorem ti72:(mkG w own vis hp st).ti 72=some T72:=by kernel_rfl
@[go_sem]theorem ti73:(mkG w own vis hp st).ti 73=some T72:=by kernel_rfl
@[go_sem]theorem ti78:(mkG w own vis hp st).ti 78=some (qvL 122):=by kernel_rfl
@[go_sem]theorem ti81:(mkG w own vis hp st).ti 81=some (qqU 83):=by kernel_rfl
@[go_sem]theorem ti82:(mkG w own vis hp st).ti 82=some T82:=by kernel_rfl
@[go_sem]theorem ti83:(mkG w own vis hp st).ti 83=some T82:=by kernel_rfl
@[go_sem]theorem ti84:(mkG w own vis hp st).ti 84=some T84:=by kernel_rfl
@[go_sem]theorem ti85:(mkG w own vis hp st).ti 85=some T84:=by kernel_rfl
@[go_sem]theorem ti90:(mkG w own vis hp st).ti 90=some T2:=by kernel_rfl
@[go_sem]theorem ti91:(mkG w own vis hp st).ti 91=some T91:=by kernel_rfl
@[go_sem]theorem ti92:(mkG w own vis hp st).ti 92=some T91:=by kernel_rfl
@[go_sem]theorem ti99:(mkG w own vis hp st).ti 99=some T99:=by kernel_rfl
@[go_sem]theorem ti100:(mkG w own vis hp st).ti 100=some T99:=by kernel_rfl
@[go_sem]theorem ti107:(mkG w own vis hp st).ti 107=some T107:=by kernel_rfl
@[go_sem]theorem ti108:(mkG w own vis hp st).ti 108=some T107:=by kernel_rfl
@[go_sem]theorem ti114:(mkG w own vis hp st).ti 114=some (qvL 118):=by kernel_rfl
@[go_sem]theorem ti115:(mkG w own vis hp st).ti 115=some (qqU 192):=by kernel_rfl
@[go_sem]theorem ti116:(mkG w own vis hp st).ti 116=some (qqU 189):=by kernel_rfl
@[go_sem]theorem ti117:(mkG w own vis hp st).ti 117=some T117:=by kernel_rfl
@[go_sem]theorem ti118:(mkG w own vis hp st).ti 118=some T117:=by kernel_rfl
@[go_sem]theorem ti119:(mkG w own vis hp st).ti 119=some (qqU 130):=by kernel_rfl
@[go_sem]theorem ti120:(mkG w own vis hp st).ti 120=some (qqU 124):=by kernel_rfl
@[go_sem]theorem ti121:(mkG w own vis hp st).ti 121=some T121:=by kernel_rfl
@[go_sem]theorem ti122:(mkG w own vis hp st).ti 122=some T121:=by kernel_rfl
@[go_sem]theorem ti123:(mkG w own vis hp st).ti 123=some T123:=by kernel_rfl
@[go_sem]theorem ti124:(mkG w own vis hp st).ti 124=some T123:=by kernel_rfl
@[go_sem]theorem ti129:(mkG w own vis hp st).ti 129=some T129:=by kernel_rfl
@[go_sem]theorem ti130:(mkG w own vis hp st).ti 130=some T129:=by kernel_rfl
@[go_sem]theorem ti136:(mkG w own vis hp st).ti 136=some (qvL 62):=by kernel_rfl
@[go_sem]theorem ti141:(mkG w own vis hp st).ti 141=some (qqU 152):=by kernel_rfl
@[go_sem]theorem ti144:(mkG w own vis hp st).ti 144=some T144:=by kernel_rfl
@[go_sem]theorem ti145:(mkG w own vis hp st).ti 145=some T144:=by kernel_rfl
@[go_sem]theorem ti147:(mkG w own vis hp st).ti 147=some (qvL 149):=by kernel_rfl
@[go_sem]theorem ti148:(mkG w own vis hp st).ti 148=some T148:=by kernel_rfl
@[go_sem]theorem ti149:(mkG w own vis hp st).ti 149=some T148:=by kernel_rfl
@[go_sem]theorem ti150:(mkG w own vis hp st).ti 150=some T2:=by kernel_rfl
@[go_sem]theorem ti151:(mkG w own vis hp st).ti 151=some T151:=by kernel_rfl
@[go_sem]theorem ti152:(mkG w own vis hp st).ti 152=some T151:=by kernel_rfl
@[go_sem]theorem ti157:(mkG w own vis hp st).ti 157=some T144:=by kernel_rfl
@[go_sem]theorem ti158:(mkG w own vis hp st).ti 158=some T144:=by kernel_rfl
@[go_sem]theorem ti163:(mkG w own vis hp st).ti 163=some (qqU 170):=by kernel_rfl
@[go_sem]theorem ti166:(mkG w own vis hp st).ti 166=some (qvL 168):=by kernel_rfl
@[go_sem]theorem ti167:(mkG w own vis hp st).ti 167=some T167:=by kernel_rfl
@[go_sem]theorem ti168:(mkG w own vis hp st).ti 168=some T167:=by kernel_rfl
@[go_sem]theorem ti169:(mkG w own vis hp st).ti 169=some T169:=by kernel_rfl
@[go_sem]theorem ti170:(mkG w own vis hp st).ti 170=some T169:=by kernel_rfl
@[go_sem]theorem ti175:(mkG w own vis hp st).ti 175=some (qqU 193):=by kernel_rfl
@[go_sem]theorem ti176:(mkG w own vis hp st).ti 176=some T176:=by kernel_rfl
@[go_sem]theorem ti177:(mkG w own vis hp st).ti 177=some T176:=by kernel_rfl
@[go_sem]theorem ti182:(mkG w own vis hp st).ti 182=some (qvL 39):=by kernel_rfl
@[go_sem]theorem ti189:(mkG w own vis hp st).ti 189=some T70:=by kernel_rfl
@[go_sem]theorem ti191:(mkG w own vis hp st).ti 191=some T191:=by kernel_rfl
@[go_sem]theorem ti192:(mkG w own vis hp st).ti 192=some T191:=by kernel_rfl
@[go_sem]theorem ti193:(mkG w own vis hp st).ti 193=some T72:=by kernel_rfl
@[go_sem]theorem ti213:(mkG w own vis hp st).ti 213=some (qvL 69):=by kernel_rfl
@[go_sem]theorem ti230:(mkG w own vis hp st).ti 230=some (zkL 44 60):=by kernel_rfl
@[go_sem]theorem ti236:(mkG w own vis hp st).ti 236=some T20:=by kernel_rfl
@[go_sem]theorem ti239:(mkG w own vis hp st).ti 239=some T239:=by kernel_rfl
@[go_sem]theorem ti250:(mkG w own vis hp st).ti 250=some (qqU 9):=by kernel_rfl
@[go_sem]theorem ti251:(mkG w own vis hp st).ti 251=some T251:=by kernel_rfl
@[go_sem]theorem ti272:(mkG w own vis hp st).ti 272=some T12:=by kernel_rfl
@[go_sem]theorem ti275:(mkG w own vis hp st).ti 275=some T12:=by kernel_rfl
@[go_sem]theorem ti281:(mkG w own vis hp st).ti 281=some (qqU 5):=by kernel_rfl
@[go_sem]theorem ti286:(mkG w own vis hp st).ti 286=some (zkL 9 90):=by kernel_rfl
@[go_sem]theorem ti288:(mkG w own vis hp st).ti 288=some (qvL 5):=by kernel_rfl
@[go_sem]theorem ti290:(mkG w own vis hp st).ti 290=some T290:=by kernel_rfl
@[go_sem]theorem ti301:(mkG w own vis hp st).ti 301=some T301:=by kernel_rfl
end
@[go_sem]theorem jwr:T2.size=1:=rfl
@[go_sem]theorem ywT:T2.bytes=8:=rfl
@[go_sem]theorem kjW:T2.agg=false:=rfl
@[go_sem]theorem kjU:T2.str=false:=rfl
@[go_sem]theorem kjV:T2.cmp=true:=rfl
@[go_sem]theorem jws:T2.desc=.int .i64:=rfl
@[go_sem]theorem kvq:cv T2.zero=.d (.int .i64 0):=rfl
@[go_sem]theorem kjT:vcs T2.zero=[.d (.int .i64 0)]:=rfl
@[go_sem]theorem jwc:T4.size=1:=rfl
@[go_sem]theorem ywI:T4.bytes=1:=rfl
@[go_sem]theorem kjP:T4.agg=false:=rfl
@[go_sem]theorem kjN:T4.str=false:=rfl
@[go_sem]theorem kjO:T4.cmp=true:=rfl
@[go_sem]theorem jwd:T4.desc=.boo:=rfl
@[go_sem]theorem kvp:cv T4.zero=.d (.bool false):=rfl
@[go_sem]theorem kjM:vcs T4.zero=[.d (.bool false)]:=rfl
@[go_sem]theorem jvO:T5.size=1:=rfl
@[go_sem]theorem ywB:T5.bytes=1:=rfl
@[go_sem]theorem kjI:T5.agg=false:=rfl
@[go_sem]theorem kjG:T5.str=false:=rfl
@[go_sem]theorem kjH:T5.cmp=true:=rfl
@[go_sem]theorem jvP:T5.desc=.int .u8:=rfl
@[go_sem]theorem kvo:cv T5.zero=.d (.int .u8 0):=rfl
@[go_sem]theorem kjF:vcs T5.zero=[.d (.int .u8 0)]:=rfl
@[go_sem]theorem jvq:T9.size=1:=rfl
@[go_sem]theorem ywu:T9.bytes=16:=rfl
@[go_sem]theorem kj6:T9.agg=false:=rfl
@[go_sem]theorem kj4:T9.str=false:=rfl
@[go_sem]theorem kj5:T9.cmp=true:=rfl
@[go_sem]theorem jvr:T9.desc=.str:=rfl
@[go_sem]theorem kvn:cv T9.zero=.d (.st []):=rfl
@[go_sem]theorem kj3:vcs T9.zero=[.d (.st [])]:=rfl
@[go_sem]theorem jzG:T12.size=1:=rfl
@[go_sem]theorem yj4:T12.bytes=8:=rfl
@[go_sem]theorem jwM:T12.agg=false:=rfl
@[go_sem]theorem jwK:T12.str=false:=rfl
@[go_sem]theorem jwL:T12.cmp=true:=rfl
@[go_sem]theorem jzH:T12.desc=.int .u64:=rfl
@[go_sem]theorem kkb:cv T12.zero=.d (.int .u64 0):=rfl
@[go_sem]theorem jwJ:vcs T12.zero=[.d (.int .u64 0)]:=rfl
@[go_sem]theorem jzE:T13.size=2:=rfl
@[go_sem]theorem yj3:T13.bytes=24:=rfl
@[go_sem]theorem jwI:T13.agg=true:=rfl
@[go_sem]theorem jwG:T13.str=true:=rfl
@[go_sem]theorem jwH:T13.cmp=false:=rfl
@[go_sem]theorem yzf:T13.fields=[(0,9),(1,12)]:=rfl
@[go_sem]theorem jzF:T13.desc=.st [(0,9),(1,12)]:=rfl
@[go_sem]theorem kka:cv T13.zero=.d (.ag [.st [],.int .u64 0]):=rfl
@[go_sem]theorem jwF:vcs T13.zero=[.d (.st []),.d (.int .u64 0)]:=rfl
@[go_sem]theorem jzk:T20.size=1:=rfl
@[go_sem]theorem yjo:T20.bytes=16:=rfl
@[go_sem]theorem jw7:T20.agg=false:=rfl
@[go_sem]theorem jw5:T20.str=false:=rfl
@[go_sem]theorem jw6:T20.cmp=false:=rfl
@[go_sem]theorem jzl:T20.desc=.ifc:=rfl
@[go_sem]theorem kjZ:cv T20.zero=.d (.imm (.nilIface)):=rfl
@[go_sem]theorem jw4:vcs T20.zero=[.d (.imm (.nilIface))]:=rfl
@[go_sem]theorem jzi:T21.size=1:=rfl
@[go_sem]theorem yjn:T21.bytes=4:=rfl
@[go_sem]theorem jw3:T21.agg=false:=rfl
@[go_sem]theorem jw1:T21.str=false:=rfl
@[go_sem]theorem jw2:T21.cmp=true:=rfl
@[go_sem]theorem jzj:T21.desc=.int .i32:=rfl
@[go_sem]theorem kjY:cv T21.zero=.d (.int .i32 0):=rfl
@[go_sem]theorem jw0:vcs T21.zero=[.d (.int .i32 0)]:=rfl
@[go_sem]theorem yxK (e:Nat):(qqU e).size=1:=rfl
@[go_sem]theorem wwC (e:Nat):(qqU e).bytes=24:=rfl
@[go_sem]theorem ywl (e:Nat):(qqU e).agg=false:=rfl
@[go_sem]theorem ywj (e:Nat):(qqU e).str=false:=rfl
@[go_sem]theorem ywk (e:Nat):(qqU e).cmp=false:=rfl
@[go_sem]theorem yxL (e:Nat):(qqU e).desc=.sli e:=rfl
@[go_sem]theorem jvl (e:Nat):cv (qqU e).zero=.d (.imm (.slice none 0 0)):=rfl
@[go_sem]theorem ywi (e:Nat):vcs (qqU e).zero=[.d (.imm (.slice none 0 0))]:=rfl
@[go_sem]theorem ywU:T29.size=6:=rfl
@[go_sem]theorem yjg:T29.bytes=144:=rfl
@[go_sem]theorem jww:T29.agg=true:=rfl
@[go_sem]theorem jwu:T29.str=true:=rfl
@[go_sem]theorem jwv:T29.cmp=false:=rfl
@[go_sem]theorem wwU:T29.fields=[(0,22),(1,24),(2,25),(3,26),(4,27),(5,28)]:=rfl
@[go_sem]theorem ywV:T29.desc=.st [(0,22),(1,24),(2,25),(3,26),(4,27),(5,28)]:=rfl
@[go_sem]theorem kjX:cv T29.zero=.d (.ag [.imm (.slice none 0 0),.imm (.slice none 0 0),.imm (.slice none 0 0),.imm (.slice none 0 0),.imm (.slice none 0 0),.imm (.slice none 0 0)]):=rfl
@[go_sem]theorem jwt:vcs T29.zero=[.d (.imm (.slice none 0 0)),.d (.imm (.slice none 0 0)),.d (.imm (.slice none 0 0)),.d (.imm (.slice none 0 0)),.d (.imm (.slice none 0 0)),.d (.imm (.slice none 0 0))]:=rfl
@[go_sem]theorem yxM (e:Nat):(qvL e).size=1:=rfl
@[go_sem]theorem wwD (e:Nat):(qvL e).bytes=8:=rfl
@[go_sem]theorem ywp (e:Nat):(qvL e).agg=false:=rfl
@[go_sem]theorem ywn (e:Nat):(qvL e).str=false:=rfl
@[go_sem]theorem ywo (e:Nat):(qvL e).cmp=false:=rfl
@[go_sem]theorem yxN (e:Nat):(qvL e).desc=.ptr e:=rfl
@[go_sem]theorem jvm (e:Nat):cv (qvL e).zero=.d (.imm (.pointer none)):=rfl
@[go_sem]theorem ywm (e:Nat):vcs (qvL e).zero=[.d (.imm (.pointer none))]:=rfl
@[go_sem]theorem ywN:T38.size=4:=rfl
@[go_sem]theorem yjd:T38.bytes=80:=rfl
@[go_sem]theorem jwp:T38.agg=true:=rfl
@[go_sem]theorem jwn:T38.str=true:=rfl
@[go_sem]theorem jwo:T38.cmp=false:=rfl
@[go_sem]theorem wwS:T38.fields=[(0,34),(1,35),(2,36),(3,37)]:=rfl
@[go_sem]theorem ywO:T38.desc=.st [(0,34),(1,35),(2,36),(3,37)]:=rfl
@[go_sem]theorem kjS:cv T38.zero=.d (.ag [.imm (.pointer none),.imm (.slice none 0 0),.imm (.slice none 0 0),.imm (.slice none 0 0)]):=rfl
@[go_sem]theorem jwm:vcs T38.zero=[.d (.imm (.pointer none)),.d (.imm (.slice none 0 0)),.d (.imm (.slice none 0 0)),.d (.imm (.slice none 0 0))]:=rfl
@[go_sem]theorem ywL:T45.size=3:=rfl
@[go_sem]theorem yjc:T45.bytes=32:=rfl
@[go_sem]theorem jwl:T45.agg=true:=rfl
@[go_sem]theorem jwj:T45.str=true:=rfl
@[go_sem]theorem jwk:T45.cmp=true:=rfl
@[go_sem]theorem wwR:T45.fields=[(0,9),(1,44),(2,3)]:=rfl
@[go_sem]theorem ywM:T45.desc=.st [(0,9),(1,44),(2,3)]:=rfl
@[go_sem]theorem kjR:cv T45.zero=.d (.ag [.st [],.int .i64 0,.int .i64 0]):=rfl
@[go_sem]theorem jwi:vcs T45.zero=[.d (.st []),.d (.int .i64 0),.d (.int .i64 0)]:=rfl
@[go_sem]theorem ywJ:T47.size=5:=rfl
@[go_sem]theorem yjb:T47.bytes=72:=rfl
@[go_sem]theorem jwh:T47.agg=true:=rfl
@[go_sem]theorem jwf:T47.str=true:=rfl
@[go_sem]theorem jwg:T47.cmp=false:=rfl
@[go_sem]theorem wwQ:T47.fields=[(0,9),(1,43),(2,46)]:=rfl
@[go_sem]theorem ywK:T47.desc=.st [(0,9),(1,43),(2,46)]:=rfl
@[go_sem]theorem kjQ:cv T47.zero=.d (.ag [.st [],.imm (.slice none 0 0),.st [],.int .i64 0,.int .i64 0]):=rfl
@[go_sem]theorem jwe:vcs T47.zero=[.d (.st []),.d (.imm (.slice none 0 0)),.d (.st []),.d (.int .i64 0),.d (.int .i64 0)]:=rfl
@[go_sem]theorem yxO (e f:Nat):(zkL e f).size=1:=rfl
@[go_sem]theorem wwE (e f:Nat):(zkL e f).bytes=8:=rfl
@[go_sem]theorem ywt (e f:Nat):(zkL e f).agg=false:=rfl
@[go_sem]theorem ywr (e f:Nat):(zkL e f).str=false:=rfl
@[go_sem]theorem yws (e f:Nat):(zkL e f).cmp=false:=rfl
@[go_sem]theorem yxP (e f:Nat):(zkL e f).desc=.map e f:=rfl
@[go_sem]theorem jvn (e f:Nat):cv (zkL e f).zero=.d (.imm (.map none)):=rfl
@[go_sem]theorem ywq (e f:Nat):vcs (zkL e f).zero=[.d (.imm (.map none))]:=rfl
@[go_sem]theorem ywG:T51.size=4:=rfl
@[go_sem]theorem yja:T51.bytes=32:=rfl
@[go_sem]theorem jwb:T51.agg=true:=rfl
@[go_sem]theorem jvZ:T51.str=true:=rfl
@[go_sem]theorem jwa:T51.cmp=true:=rfl
@[go_sem]theorem wwP:T51.fields=[(0,50),(1,3),(2,2),(3,3)]:=rfl
@[go_sem]theorem ywH:T51.desc=.st [(0,50),(1,3),(2,2),(3,3)]:=rfl
@[go_sem]theorem kjL:cv T51.zero=.d (.ag [.int .i64 0,.int .i64 0,.int .i64 0,.int .i64 0]):=rfl
@[go_sem]theorem jvY:vcs T51.zero=[.d (.int .i64 0),.d (.int .i64 0),.d (.int .i64 0),.d (.int .i64 0)]:=rfl
@[go_sem]theorem ywE:T54.size=5:=rfl
@[go_sem]theorem yxZ:T54.bytes=48:=rfl
@[go_sem]theorem jvX:T54.agg=true:=rfl
@[go_sem]theorem jvV:T54.str=true:=rfl
@[go_sem]theorem jvW:T54.cmp=false:=rfl
@[go_sem]theorem wwO:T54.fields=[(0,9),(1,52)]:=rfl
@[go_sem]theorem ywF:T54.desc=.st [(0,9),(1,52)]:=rfl
@[go_sem]theorem kjK:cv T54.zero=.d (.ag [.st [],.int .i64 0,.int .i64 0,.int .i64 0,.int .i64 0]):=rfl
@[go_sem]theorem jvU:vcs T54.zero=[.d (.st []),.d (.int .i64 0),.d (.int .i64 0),.d (.int .i64 0),.d (.int .i64 0)]:=rfl
@[go_sem]theorem ywC:T58.size=3:=rfl
@[go_sem]theorem yxY:T58.bytes=56:=rfl
@[go_sem]theorem jvT:T58.agg=true:=rfl
@[go_sem]theorem jvR:T58.str=true:=rfl
@[go_sem]theorem jvS:T58.cmp=false:=rfl
@[go_sem]theorem wwN:T58.fields=[(0,56),(1,3),(2,57)]:=rfl
@[go_sem]theorem ywD:T58.desc=.st [(0,56),(1,3),(2,57)]:=rfl
@[go_sem]theorem kjJ:cv T58.zero=.d (.ag [.imm (.slice none 0 0),.int .i64 0,.imm (.slice none 0 0)]):=rfl
@[go_sem]theorem jvQ:vcs T58.zero=[.d (.imm (.slice none 0 0)),.d (.int .i64 0),.d (.imm (.slice none 0 0))]:=rfl
@[go_sem]theorem yw9:T61.size=11:=rfl
@[go_sem]theorem yxX:T61.bytes=88:=rfl
@[go_sem]theorem jvN:T61.agg=true:=rfl
@[go_sem]theorem jvL:T61.str=true:=rfl
@[go_sem]theorem jvM:T61.cmp=false:=rfl
@[go_sem]theorem wwM:T61.fields=[(0,60),(1,3),(2,3),(3,4),(4,4),(5,4),(6,52),(10,37)]:=rfl
@[go_sem]theorem ywA:T61.desc=.st [(0,60),(1,3),(2,3),(3,4),(4,4),(5,4),(6,52),(10,37)]:=rfl
@[go_sem]theorem kjE:cv T61.zero=.d (.ag [.int .i64 0,.int .i64 0,.int .i64 0,.bool false,.bool false,.bool false,.int .i64 0,.int .i64 0,.int .i64 0,.int .i64 0,.imm (.slice none 0 0)]):=rfl
@[go_sem]theorem jvK:vcs T61.zero=[.d (.int .i64 0),.d (.int .i64 0),.d (.int .i64 0),.d (.bool false),.d (.bool false),.d (.bool false),.d (.int .i64 0),.d (.int .i64 0),.d (.int .i64 0),.d (.int .i64 0),.d (.imm (.slice none 0 0))]:=rfl
@[go_sem]theorem yw7:T68.size=5:=rfl
@[go_sem]theorem yxW:T68.bytes=80:=rfl
@[go_sem]theorem jvJ:T68.agg=true:=rfl
@[go_sem]theorem jvH:T68.str=true:=rfl
@[go_sem]theorem jvI:T68.cmp=false:=rfl
@[go_sem]theorem wwL:T68.fields=[(0,9),(1,66),(2,3),(3,67),(4,57)]:=rfl
@[go_sem]theorem yw8:T68.desc=.st [(0,9),(1,66),(2,3),(3,67),(4,57)]:=rfl
@[go_sem]theorem kjD:cv T68.zero=.d (.ag [.st [],.int .i64 0,.int .i64 0,.imm (.slice none 0 0),.imm (.slice none 0 0)]):=rfl
@[go_sem]theorem jvG:vcs T68.zero=[.d (.st []),.d (.int .i64 0),.d (.int .i64 0),.d (.imm (.slice none 0 0)),.d (.imm (.slice none 0 0))]:=rfl
@[go_sem]theorem yw5:T70.size=3:=rfl
@[go_sem]theorem yxV:T70.bytes=24:=rfl
@[go_sem]theorem jvF:T70.agg=true:=rfl
@[go_sem]theorem jvD:T70.str=true:=rfl
@[go_sem]theorem jvE:T70.cmp=true:=rfl
@[go_sem]theorem wwK:T70.fields=[(0,3),(1,3),(2,2)]:=rfl
@[go_sem]theorem yw6:T70.desc=.st [(0,3),(1,3),(2,2)]:=rfl
@[go_sem]theorem kjC:cv T70.zero=.d (.ag [.int .i64 0,.int .i64 0,.int .i64 0]):=rfl
@[go_sem]theorem jvC:vcs T70.zero=[.d (.int .i64 0),.d (.int .i64 0),.d (.int .i64 0)]:=rfl
@[go_sem]theorem yw3:T72.size=2:=rfl
@[go_sem]theorem yxU:T72.bytes=24:=rfl
@[go_sem]theorem jvB:T72.agg=true:=rfl
@[go_sem]theorem jv9:T72.str=true:=rfl
@[go_sem]theorem jvA:T72.cmp=true:=rfl
@[go_sem]theorem wwJ:T72.fields=[(0,9),(1,3)]:=rfl
@[go_sem]theorem yw4:T72.desc=.st [(0,9),(1,3)]:=rfl
@[go_sem]theorem kjB:cv T72.zero=.d (.ag [.st [],.int .i64 0]):=rfl
@[go_sem]theorem jv8:vcs T72.zero=[.d (.st []),.d (.int .i64 0)]:=rfl
@[go_sem]theorem yw1:T82.size=3:=rfl
@[go_sem]theorem yxT:T82.bytes=32:=rfl
@[go_sem]theorem jv7:T82.agg=true:=rfl
@[go_sem]theorem jv5:T82.str=true:=rfl
@[go_sem]theorem jv6:T82.cmp=true:=rfl
@[go_sem]theorem wwI:T82.fields=[(0,9),(1,3),(2,3)]:=rfl
@[go_sem]theorem yw2:T82.desc=.st [(0,9),(1,3),(2,3)]:=rfl
@[go_sem]theorem kjA:cv T82.zero=.d (.ag [.st [],.int .i64 0,.int .i64 0]):=rfl
@[go_sem]theorem jv4:vcs T82.zero=[.d (.st []),.d (.int .i64 0),.d (.int .i64 0)]:=rfl
@[go_sem]theorem ywz:T84.size=5:=rfl
@[go_sem]theorem yxS:T84.bytes=72:=rfl
@[go_sem]theorem jv3:T84.agg=true:=rfl
@[go_sem]theorem jv1:T84.str=true:=rfl
@[go_sem]theorem jv2:T84.cmp=false:=rfl
@[go_sem]theorem wwH:T84.fields=[(0,9),(1,81),(2,83)]:=rfl
@[go_sem]theorem yw0:T84.desc=.st [(0,9),(1,81),(2,83)]:=rfl
@[go_sem]theorem kj9:cv T84.zero=.d (.ag [.st [],.imm (.slice none 0 0),.st [],.int .i64 0,.int .i64 0]):=rfl
@[go_sem]theorem jv0:vcs T84.zero=[.d (.st []),.d (.imm (.slice none 0 0)),.d (.st []),.d (.int .i64 0),.d (.int .i64 0)]:=rfl
@[go_sem]theorem ywx:T91.size=5:=rfl
@[go_sem]theorem yxR:T91.bytes=64:=rfl
@[go_sem]theorem jvz:T91.agg=true:=rfl
@[go_sem]theorem jvx:T91.str=true:=rfl
@[go_sem]theorem jvy:T91.cmp=false:=rfl
@[go_sem]theorem wwG:T91.fields=[(0,90),(1,9),(2,2),(3,3),(4,22)]:=rfl
@[go_sem]theorem ywy:T91.desc=.st [(0,90),(1,9),(2,2),(3,3),(4,22)]:=rfl
@[go_sem]theorem kj8:cv T91.zero=.d (.ag [.int .i64 0,.st [],.int .i64 0,.int .i64 0,.imm (.slice none 0 0)]):=rfl
@[go_sem]theorem jvw:vcs T91.zero=[.d (.int .i64 0),.d (.st []),.d (.int .i64 0),.d (.int .i64 0),.d (.imm (.slice none 0 0))]:=rfl
@[go_sem]theorem ywv:T99.size=5:=rfl
@[go_sem]theorem yxQ:T99.bytes=64:=rfl
@[go_sem]theorem jvv:T99.agg=true:=rfl
@[go_sem]theorem jvt:T99.str=true:=rfl
@[go_sem]theorem jvu:T99.cmp=false:=rfl
@[go_sem]theorem wwF:T99.fields=[(0,3),(1,9),(2,2),(3,3),(4,26)]:=rfl
@[go_sem]theorem yww:T99.desc=.st [(0,3),(1,9),(2,2),(3,3),(4,26)]:=rfl
@[go_sem]theorem kj7:cv T99.zero=.d (.ag [.int .i64 0,.st [],.int .i64 0,.int .i64 0,.imm (.slice none 0 0)]):=rfl
@[go_sem]theorem jvs:vcs T99.zero=[.d (.int .i64 0),.d (.st []),.d (.int .i64 0),.d (.int .i64 0),.d (.imm (.slice none 0 0))]:=rfl
@[go_sem]theorem yjD:T107.size=1:=rfl
@[go_sem]theorem yzk:T107.bytes=8:=rfl
@[go_sem]theorem jqb:T107.agg=true:=rfl
@[go_sem]theorem jzZ:T107.str=true:=rfl
@[go_sem]theorem jqa:T107.cmp=true:=rfl
@[go_sem]theorem wvR:T107.fields=[(0,40)]:=rfl
@[go_sem]theorem yjE:T107.desc=.st [(0,40)]:=rfl
@[go_sem]theorem jwR:cv T107.zero=.d (.ag [.int .i64 0]):=rfl
@[go_sem]theorem jzY:vcs T107.zero=[.d (.int .i64 0)]:=rfl
@[go_sem]theorem yjB:T117.size=3:=rfl
@[go_sem]theorem yzj:T117.bytes=56:=rfl
@[go_sem]theorem jzX:T117.agg=true:=rfl
@[go_sem]theorem jzV:T117.str=true:=rfl
@[go_sem]theorem jzW:T117.cmp=false:=rfl
@[go_sem]theorem wvQ:T117.fields=[(0,115),(1,3),(2,116)]:=rfl
@[go_sem]theorem yjC:T117.desc=.st [(0,115),(1,3),(2,116)]:=rfl
@[go_sem]theorem jwQ:cv T117.zero=.d (.ag [.imm (.slice none 0 0),.int .i64 0,.imm (.slice none 0 0)]):=rfl
@[go_sem]theorem jzU:vcs T117.zero=[.d (.imm (.slice none 0 0)),.d (.int .i64 0),.d (.imm (.slice none 0 0))]:=rfl
@[go_sem]theorem yj9:T121.size=4:=rfl
@[go_sem]theorem yzi:T121.bytes=80:=rfl
@[go_sem]theorem jzT:T121.agg=true:=rfl
@[go_sem]theorem jzR:T121.str=true:=rfl
@[go_sem]theorem jzS:T121.cmp=false:=rfl
@[go_sem]theorem wvP:T121.fields=[(0,114),(1,119),(2,36),(3,120)]:=rfl
@[go_sem]theorem yjA:T121.desc=.st [(0,114),(1,119),(2,36),(3,120)]:=rfl
@[go_sem]theorem jwP:cv T121.zero=.d (.ag [.imm (.pointer none),.imm (.slice none 0 0),.imm (.slice none 0 0),.imm (.slice none 0 0)]):=rfl
@[go_sem]theorem jzQ:vcs T121.zero=[.d (.imm (.pointer none)),.d (.imm (.slice none 0 0)),.d (.imm (.slice none 0 0)),.d (.imm (.slice none 0 0))]:=rfl
@[go_sem]theorem yj7:T123.size=4:=rfl
@[go_sem]theorem yzh:T123.bytes=32:=rfl
@[go_sem]theorem jzP:T123.agg=true:=rfl
@[go_sem]theorem jzN:T123.str=true:=rfl
@[go_sem]theorem jzO:T123.cmp=true:=rfl
@[go_sem]theorem wvO:T123.fields=[(0,3),(1,3),(2,2),(3,3)]:=rfl
@[go_sem]theorem yj8:T123.desc=.st [(0,3),(1,3),(2,2),(3,3)]:=rfl
@[go_sem]theorem jwO:cv T123.zero=.d (.ag [.int .i64 0,.int .i64 0,.int .i64 0,.int .i64 0]):=rfl
@[go_sem]theorem jzM:vcs T123.zero=[.d (.int .i64 0),.d (.int .i64 0),.d (.int .i64 0),.d (.int .i64 0)]:=rfl
@[go_sem]theorem yj5:T129.size=5:=rfl
@[go_sem]theorem yzg:T129.bytes=48:=rfl
@[go_sem]theorem jzL:T129.agg=true:=rfl
@[go_sem]theorem jzJ:T129.str=true:=rfl
@[go_sem]theorem jzK:T129.cmp=false:=rfl
@[go_sem]theorem wvN:T129.fields=[(0,9),(1,124)]:=rfl
@[go_sem]theorem yj6:T129.desc=.st [(0,9),(1,124)]:=rfl
@[go_sem]theorem jwN:cv T129.zero=.d (.ag [.st [],.int .i64 0,.int .i64 0,.int .i64 0,.int .i64 0]):=rfl
@[go_sem]theorem jzI:vcs T129.zero=[.d (.st []),.d (.int .i64 0),.d (.int .i64 0),.d (.int .i64 0),.d (.int .i64 0)]:=rfl
@[go_sem]theorem yj1:T144.size=2:=rfl
@[go_sem]theorem yze:T144.bytes=16:=rfl
@[go_sem]theorem jzD:T144.agg=true:=rfl
@[go_sem]theorem jzB:T144.str=true:=rfl
@[go_sem]theorem jzC:T144.cmp=true:=rfl
@[go_sem]theorem wvM:T144.fields=[(0,3),(1,40)]:=rfl
@[go_sem]theorem yj2:T144.desc=.st [(0,3),(1,40)]:=rfl
@[go_sem]theorem jwE:cv T144.zero=.d (.ag [.int .i64 0,.int .i64 0]):=rfl
@[go_sem]theorem jzA:vcs T144.zero=[.d (.int .i64 0),.d (.int .i64 0)]:=rfl
@[go_sem]theorem yjz:T148.size=2:=rfl
@[go_sem]theorem yzd:T148.bytes=32:=rfl
@[go_sem]theorem jz9:T148.agg=true:=rfl
@[go_sem]theorem jz7:T148.str=true:=rfl
@[go_sem]theorem jz8:T148.cmp=false:=rfl
@[go_sem]theorem wvL:T148.fields=[(0,141),(1,3)]:=rfl
@[go_sem]theorem yj0:T148.desc=.st [(0,141),(1,3)]:=rfl
@[go_sem]theorem jwD:cv T148.zero=.d (.ag [.imm (.slice none 0 0),.int .i64 0]):=rfl
@[go_sem]theorem jz6:vcs T148.zero=[.d (.imm (.slice none 0 0)),.d (.int .i64 0)]:=rfl
@[go_sem]theorem yjx:T151.size=4:=rfl
@[go_sem]theorem yzc:T151.bytes=40:=rfl
@[go_sem]theorem jz5:T151.agg=true:=rfl
@[go_sem]theorem jz3:T151.str=true:=rfl
@[go_sem]theorem jz4:T151.cmp=true:=rfl
@[go_sem]theorem wvK:T151.fields=[(0,150),(1,9),(2,2),(3,3)]:=rfl
@[go_sem]theorem yjy:T151.desc=.st [(0,150),(1,9),(2,2),(3,3)]:=rfl
@[go_sem]theorem jwC:cv T151.zero=.d (.ag [.int .i64 0,.st [],.int .i64 0,.int .i64 0]):=rfl
@[go_sem]theorem jz2:vcs T151.zero=[.d (.int .i64 0),.d (.st []),.d (.int .i64 0),.d (.int .i64 0)]:=rfl
@[go_sem]theorem yjv:T167.size=5:=rfl
@[go_sem]theorem yzb:T167.bytes=56:=rfl
@[go_sem]theorem jz1:T167.agg=true:=rfl
@[go_sem]theorem jzz:T167.str=true:=rfl
@[go_sem]theorem jz0:T167.cmp=false:=rfl
@[go_sem]theorem wvJ:T167.fields=[(0,163),(1,3),(2,3),(3,3),(4,3)]:=rfl
@[go_sem]theorem yjw:T167.desc=.st [(0,163),(1,3),(2,3),(3,3),(4,3)]:=rfl
@[go_sem]theorem jwB:cv T167.zero=.d (.ag [.imm (.slice none 0 0),.int .i64 0,.int .i64 0,.int .i64 0,.int .i64 0]):=rfl
@[go_sem]theorem jzy:vcs T167.zero=[.d (.imm (.slice none 0 0)),.d (.int .i64 0),.d (.int .i64 0),.d (.int .i64 0),.d (.int .i64 0)]:=rfl
@[go_sem]theorem yjt:T169.size=4:=rfl
@[go_sem]theorem yza:T169.bytes=40:=rfl
@[go_sem]theorem jzx:T169.agg=true:=rfl
@[go_sem]theorem jzv:T169.str=true:=rfl
@[go_sem]theorem jzw:T169.cmp=true:=rfl
@[go_sem]theorem wvI:T169.fields=[(0,3),(1,9),(2,2),(3,3)]:=rfl
@[go_sem]theorem yju:T169.desc=.st [(0,3),(1,9),(2,2),(3,3)]:=rfl
@[go_sem]theorem jwA:cv T169.zero=.d (.ag [.int .i64 0,.st [],.int .i64 0,.int .i64 0]):=rfl
@[go_sem]theorem jzu:vcs T169.zero=[.d (.int .i64 0),.d (.st []),.d (.int .i64 0),.d (.int .i64 0)]:=rfl
@[go_sem]theorem yjr:T176.size=5:=rfl
@[go_sem]theorem wwZ:T176.bytes=80:=rfl
@[go_sem]theorem jzt:T176.agg=true:=rfl
@[go_sem]theorem jzr:T176.str=true:=rfl
@[go_sem]theorem jzs:T176.cmp=false:=rfl
@[go_sem]theorem wvH:T176.fields=[(0,9),(1,3),(2,3),(3,175),(4,116)]:=rfl
@[go_sem]theorem yjs:T176.desc=.st [(0,9),(1,3),(2,3),(3,175),(4,116)]:=rfl
@[go_sem]theorem jw9:cv T176.zero=.d (.ag [.st [],.int .i64 0,.int .i64 0,.imm (.slice none 0 0),.imm (.slice none 0 0)]):=rfl
@[go_sem]theorem jzq:vcs T176.zero=[.d (.st []),.d (.int .i64 0),.d (.int .i64 0),.d (.imm (.slice none 0 0)),.d (.imm (.slice none 0 0))]:=rfl
@[go_sem]theorem yjp:T191.size=11:=rfl
@[go_sem]theorem wwY:T191.bytes=88:=rfl
@[go_sem]theorem jzp:T191.agg=true:=rfl
@[go_sem]theorem jzn:T191.str=true:=rfl
@[go_sem]theorem jzo:T191.cmp=false:=rfl
@[go_sem]theorem wvG:T191.fields=[(0,3),(1,3),(2,3),(3,4),(4,4),(5,4),(6,124),(10,120)]:=rfl
@[go_sem]theorem yjq:T191.desc=.st [(0,3),(1,3),(2,3),(3,4),(4,4),(5,4),(6,124),(10,120)]:=rfl
@[go_sem]theorem jw8:cv T191.zero=.d (.ag [.int .i64 0,.int .i64 0,.int .i64 0,.bool false,.bool false,.bool false,.int .i64 0,.int .i64 0,.int .i64 0,.int .i64 0,.imm (.slice none 0 0)]):=rfl
@[go_sem]theorem jzm:vcs T191.zero=[.d (.int .i64 0),.d (.int .i64 0),.d (.int .i64 0),.d (.bool false),.d (.bool false),.d (.bool false),.d (.int .i64 0),.d (.int .i64 0),.d (.int .i64 0),.d (.int .i64 0),.d (.imm (.slice none 0 0))]:=rfl
@[go_sem]theorem yjl:T239.size=3:=rfl
@[go_sem]theorem wwX:T239.bytes=48:=rfl
@[go_sem]theorem jzh:T239.agg=true:=rfl
@[go_sem]theorem jzf:T239.str=false:=rfl
@[go_sem]theorem jzg:T239.cmp=false:=rfl
@[go_sem]theorem yjm:T239.desc=.arr 3 9:=rfl
@[go_sem]theorem jwz:cv T239.zero=.d (.ag [.st [],.st [],.st []]):=rfl
@[go_sem]theorem jze:vcs T239.zero=[.d (.st []),.d (.st []),.d (.st [])]:=rfl
@[go_sem]theorem yjj:T251.size=2:=rfl
@[go_sem]theorem wwW:T251.bytes=16:=rfl
@[go_sem]theorem jzd:T251.agg=true:=rfl
@[go_sem]theorem jzb:T251.str=false:=rfl
@[go_sem]theorem jzc:T251.cmp=false:=rfl
@[go_sem]theorem yjk:T251.desc=.arr 2 3:=rfl
@[go_sem]theorem jwy:cv T251.zero=.d (.ag [.int .i64 0,.int .i64 0]):=rfl
@[go_sem]theorem jza:vcs T251.zero=[.d (.int .i64 0),.d (.int .i64 0)]:=rfl
@[go_sem]theorem yjh:T290.size=1:=rfl
@[go_sem]theorem wwV:T290.bytes=16:=rfl
@[go_sem]theorem ywZ:T290.agg=true:=rfl
@[go_sem]theorem ywX:T290.str=true:=rfl
@[go_sem]theorem ywY:T290.cmp=true:=rfl
@[go_sem]theorem wvF:T290.fields=[(0,9)]:=rfl
@[go_sem]theorem yji:T290.desc=.st [(0,9)]:=rfl
@[go_sem]theorem jwx:cv T290.zero=.d (.ag [.st []]):=rfl
@[go_sem]theorem ywW:vcs T290.zero=[.d (.st [])]:=rfl
@[go_sem]theorem yje:T301.size=1:=rfl
@[go_sem]theorem wwT:T301.bytes=4:=rfl
@[go_sem]theorem ywS:T301.agg=false:=rfl
@[go_sem]theorem ywQ:T301.str=false:=rfl
@[go_sem]theorem ywR:T301.cmp=true:=rfl
@[go_sem]theorem yjf:T301.desc=.int .u32:=rfl
@[go_sem]theorem jwq:cv T301.zero=.d (.int .u32 0):=rfl
@[go_sem]theorem ywP:vcs T301.zero=[.d (.int .u32 0)]:=rfl
end Lx
