import Derived.Test.YtkknljojdgpdaaaGreatDoorA07
import Derived.Test.YtkknljojdgpdaaaGreatDoorProg
import Derived.KernelRfl
set_option maxHeartbeats 32000000
set_option linter.unusedSimpArgs false
namespace Lx
open Go
open Go.Proofs (Tryz.prog)
def T2:TI:=⟨.int .i64,1,8,.int .i64 0,true⟩
def T4:TI:=⟨.boo,1,1,.bool false,true⟩
def T5:TI:=⟨.int .u8,1,1,.int .u8 0,true⟩
def T9:TI:=⟨.str,1,16,.string ⟨#[]⟩,true⟩
def T12:TI:=⟨.int .u64,1,8,.int .u64 0,true⟩
def T13:TI:=⟨.st [(0,9),(1,12)],2,24,.agg #[.string ⟨#[]⟩,.int .u64 0],false⟩
def T20:TI:=⟨.ifc,1,16,.nilIface,false⟩
def T21:TI:=⟨.int .i32,1,4,.int .i32 0,true⟩
def Tsli (e:Nat):TI:=⟨.sli e,1,24,.slice none 0 0,false⟩
def T29:TI:=⟨.st [(0,22),(1,24),(2,25),(3,26),(4,27),(5,28)],6,144,.agg #[.slice none 0 0,.slice none 0 0,.slice none 0 0,.slice none 0 0,.slice none 0 0,.slice none 0 0],false⟩
def Tptr (e:Nat):TI:=⟨.ptr e,1,8,.pointer none,false⟩
def T38:TI:=⟨.st [(0,34),(1,35),(2,36),(3,37)],4,80,.agg #[.pointer none,.slice none 0 0,.slice none 0 0,.slice none 0 0],false⟩
def T45:TI:=⟨.st [(0,9),(1,44),(2,3)],3,32,.agg #[.string ⟨#[]⟩,.int .i64 0,.int .i64 0],true⟩
def T47:TI:=⟨.st [(0,9),(1,43),(2,46)],5,72,.agg #[.string ⟨#[]⟩,.slice none 0 0,.string ⟨#[]⟩,.int .i64 0,.int .i64 0],false⟩
def Tmap (e f:Nat):TI:=⟨.map e f,1,8,.map none,false⟩
def T51:TI:=⟨.st [(0,50),(1,3),(2,2),(3,3)],4,32,.agg #[.int .i64 0,.int .i64 0,.int .i64 0,.int .i64 0],true⟩
def T54:TI:=⟨.st [(0,9),(1,52)],5,48,.agg #[.string ⟨#[]⟩,.int .i64 0,.int .i64 0,.int .i64 0,.int .i64 0],false⟩
def T58:TI:=⟨.st [(0,56),(1,3),(2,57)],3,56,.agg #[.slice none 0 0,.int .i64 0,.slice none 0 0],false⟩
def T61:TI:=⟨.st [(0,60),(1,3),(2,3),(3,4),(4,4),(5,4),(6,52),(10,37)],11,88,.agg #[.int .i64 0,.int .i64 0,.int .i64 0,.bool false,.bool false,.bool false,.int .i64 0,.int .i64 0,.int .i64 0,.int .i64 0,.slice none 0 0],false⟩
def T68:TI:=⟨.st [(0,9),(1,66),(2,3),(3,67),(4,57)],5,80,.agg #[.string ⟨#[]⟩,.int .i64 0,.int .i64 0,.slice none 0 0,.slice none 0 0],false⟩
def T70:TI:=⟨.st [(0,3),(1,3),(2,2)],3,24,.agg #[.int .i64 0,.int .i64 0,.int .i64 0],true⟩
def T72:TI:=⟨.st [(0,9),(1,3)],2,24,.agg #[.string ⟨#[]⟩,.int .i64 0],true⟩
def T82:TI:=⟨.st [(0,9),(1,3),(2,3)],3,32,.agg #[.string ⟨#[]⟩,.int .i64 0,.int .i64 0],true⟩
def T84:TI:=⟨.st [(0,9),(1,81),(2,83)],5,72,.agg #[.string ⟨#[]⟩,.slice none 0 0,.string ⟨#[]⟩,.int .i64 0,.int .i64 0],false⟩
def T91:TI:=⟨.st [(0,90),(1,9),(2,2),(3,3),(4,22)],5,64,.agg #[.int .i64 0,.string ⟨#[]⟩,.int .i64 0,.int .i64 0,.slice none 0 0],false⟩
def T99:TI:=⟨.st [(0,3),(1,9),(2,2),(3,3),(4,26)],5,64,.agg #[.int .i64 0,.string ⟨#[]⟩,.int .i64 0,.int .i64 0,.slice none 0 0],false⟩
def T107:TI:=⟨.st [(0,40)],1,8,.agg #[.int .i64 0],true⟩
def T117:TI:=⟨.st [(0,115),(1,3),(2,116)],3,56,.agg #[.slice none 0 0,.int .i64 0,.slice none 0 0],false⟩
def T121:TI:=⟨.st [(0,114),(1,119),(2,36),(3,120)],4,80,.agg #[.pointer none,.slice none 0 0,.slice none 0 0,.slice none 0 0],false⟩
def T123:TI:=⟨.st [(0,3),(1,3),(2,2),(3,3)],4,32,.agg #[.int .i64 0,.int .i64 0,.int .i64 0,.int .i64 0],true⟩
def T129:TI:=⟨.st [(0,9),(1,124)],5,48,.agg #[.string ⟨#[]⟩,.int .i64 0,.int .i64 0,.int .i64 0,.int .i64 0],false⟩
def T144:TI:=⟨.st [(0,3),(1,40)],2,16,.agg #[.int .i64 0,.int .i64 0],true⟩
def T148:TI:=⟨.st [(0,141),(1,3)],2,32,.agg #[.slice none 0 0,.int .i64 0],false⟩
def T151:TI:=⟨.st [(0,150),(1,9),(2,2),(3,3)],4,40,.agg #[.int .i64 0,.string ⟨#[]⟩,.int .i64 0,.int .i64 0],true⟩
def T167:TI:=⟨.st [(0,163),(1,3),(2,3),(3,3),(4,3)],5,56,.agg #[.slice none 0 0,.int .i64 0,.int .i64 0,.int .i64 0,.int .i64 0],false⟩
def T169:TI:=⟨.st [(0,3),(1,9),(2,2),(3,3)],4,40,.agg #[.int .i64 0,.string ⟨#[]⟩,.int .i64 0,.int .i64 0],true⟩
def T176:TI:=⟨.st [(0,9),(1,3),(2,3),(3,175),(4,116)],5,80,.agg #[.string ⟨#[]⟩,.int .i64 0,.int .i64 0,.slice none 0 0,.slice none 0 0],false⟩
def T191:TI:=⟨.st [(0,3),(1,3),(2,3),(3,4),(4,4),(5,4),(6,124),(10,120)],11,88,.agg #[.int .i64 0,.int .i64 0,.int .i64 0,.bool false,.bool false,.bool false,.int .i64 0,.int .i64 0,.int .i64 0,.int .i64 0,.slice none 0 0],false⟩
def T239:TI:=⟨.arr 3 9,3,48,.agg #[.string ⟨#[]⟩,.string ⟨#[]⟩,.string ⟨#[]⟩],false⟩
def T251:TI:=⟨.arr 2 3,2,16,.agg #[.int .i64 0,.int .i64 0],false⟩
def T290:TI:=⟨.st [(0,9)],1,16,.agg #[.string ⟨#[]⟩],true⟩
def T301:TI:=⟨.int .u32,1,4,.int .u32 0,true⟩
set_option maxRecDepth 100000 in
def tl:List (Nat×TI):=[(2,T2),(3,T2),(4,T4),(5,T5),(9,T9),(12,T12),(13,T13),(20,T20),(21,T21),(22,(Tsli 92)),(23,(Tsli 69)),(24,(Tsli 69)),(25,(Tsli 48)),(26,(Tsli 100)),(27,(Tsli 177)),(28,(Tsli 85)),(29,T29),(30,T29),(34,(Tptr 59)),(35,(Tsli 55)),(36,(Tsli 3)),(37,(Tsli 52)),(38,T38),(39,T38),(40,T2),(43,(Tsli 46)),(44,T2),(45,T45),(46,T45),(47,T47),(48,T47),(49,(Tmap 3 3)),(50,T2),(51,T51),(52,T51),(54,T54),(55,T54),(56,(Tsli 62)),(57,(Tsli 71)),(58,T58),(59,T58),(60,T2),(61,T61),(62,T61),(64,(Tsli 2)),(66,T2),(67,(Tsli 73)),(68,T68),(69,T68),(70,T70),(71,T70),(72,T72),(73,T72),(78,(Tptr 122)),(81,(Tsli 83)),(82,T82),(83,T82),(84,T84),(85,T84),(90,T2),(91,T91),(92,T91),(99,T99),(100,T99),(107,T107),(108,T107),(114,(Tptr 118)),(115,(Tsli 192)),(116,(Tsli 189)),(117,T117),(118,T117),(119,(Tsli 130)),(120,(Tsli 124)),(121,T121),(122,T121),(123,T123),(124,T123),(129,T129),(130,T129),(136,(Tptr 62)),(141,(Tsli 152)),(144,T144),(145,T144),(147,(Tptr 149)),(148,T148),(149,T148),(150,T2),(151,T151),(152,T151),(157,T144),(158,T144),(163,(Tsli 170)),(166,(Tptr 168)),(167,T167),(168,T167),(169,T169),(170,T169),(175,(Tsli 193)),(176,T176),(177,T176),(182,(Tptr 39)),(189,T70),(191,T191),(192,T191),(193,T72),(213,(Tptr 69)),(230,(Tmap 44 60)),(236,T20),(239,T239),(250,(Tsli 9)),(251,T251),(272,T12),(275,T12),(281,(Tsli 5)),(286,(Tmap 9 90)),(288,(Tptr 5)),(290,T290),(301,T301)]
theorem tk {P:Program}{t:TypeId}{i:TI}{a:TypeInfo}{d:TypeDesc}(h:P.info? t=some a)(k:P.underlying t=some d)(e:a.size=i.size/\a.bytes=i.bytes/\a.zero=some i.zero/\dk d=i.desc/\i.zero.cells.size=i.size/\(!i.cmp||(a.comparable&&plainEq P t i.desc))=true:=by exact⟨rfl,rfl,rfl,rfl,rfl,by kernel_rfl⟩):TOK1 P t i:=⟨a,d,h,e.1,e.2.1,e.2.2.1,k,e.2.2.2.1,e.2.2.2.2.1,e.2.2.2.2.2⟩
set_option maxRecDepth 100000 in
open Go.Proofs.Tryz in
theorem tl_oks:TOKs Go.Proofs.Tryz.prog tl:=
 ⟨tk type2 underlying2,tk type3 underlying3,tk type4 underlying4,tk type5 underlying5,tk type9 underlying9,tk type12 underlying12,tk type13 underlying13,tk type20 underlying20,tk type21 underlying21,tk type22 underlying22,tk type23 underlying23,tk type24 underlying24,tk type25 underlying25,tk type26 underlying26,tk type27 underlying27,tk type28 underlying28,tk type29 underlying29,tk type30 underlying30,tk type34 underlying34,tk type35 underlying35,tk type36 underlying36,tk type37 underlying37,tk type38 underlying38,tk type39 underlying39,tk type40 underlying40,tk type43 underlying43,tk type44 underlying44,tk type45 underlying45,tk type46 underlying46,tk type47 underlying47,tk type48 underlying48,tk type49 underlying49,tk type50 underlying50,tk type51 underlying51,tk type52 underlying52,tk type54 underlying54,tk type55 underlying55,tk type56 underlying56,tk type57 underlying57,tk type58 underlying58,tk type59 underlying59,tk type60 underlying60,tk type61 underlying61,tk type62 underlying62,tk type64 underlying64,tk type66 underlying66,tk type67 underlying67,tk type68 underlying68,tk type69 underlying69,tk type70 underlying70,tk type71 underlying71,tk type72 underlying72,tk type73 underlying73,tk type78 underlying78,tk type81 underlying81,tk type82 underlying82,tk type83 underlying83,tk type84 underlying84,tk type85 underlying85,tk type90 underlying90,tk type91 underlying91,tk type92 underlying92,tk type99 underlying99,tk type100 underlying100,tk type107 underlying107,tk type108 underlying108,tk type114 underlying114,tk type115 underlying115,tk type116 underlying116,tk type117 underlying117,tk type118 underlying118,tk type119 underlying119,tk type120 underlying120,tk type121 underlying121,tk type122 underlying122,tk type123 underlying123,tk type124 underlying124,tk type129 underlying129,tk type130 underlying130,tk type136 underlying136,tk type141 underlying141,tk type144 underlying144,tk type145 underlying145,tk type147 underlying147,tk type148 underlying148,tk type149 underlying149,tk type150 underlying150,tk type151 underlying151,tk type152 underlying152,tk type157 underlying157,tk type158 underlying158,tk type163 underlying163,tk type166 underlying166,tk type167 underlying167,tk type168 underlying168,tk type169 underlying169,tk type170 underlying170,tk type175 underlying175,tk type176 underlying176,tk type177 underlying177,tk type182 underlying182,tk type189 underlying189,tk type191 underlying191,tk type192 underlying192,tk type193 underlying193,tk type213 underlying213,tk type230 underlying230,tk type236 underlying236,tk type239 underlying239,tk type250 underlying250,tk type251 underlying251,tk type272 underlying272,tk type275 underlying275,tk type281 underlying281,tk type286 underlying286,tk type288 underlying288,tk type290 underlying290,tk type301 underlying301,trivial⟩
theorem qzt:TOK Go.Proofs.Tryz.prog tl:=tl_oks.ok
set_option maxRecDepth 100000 in
theorem tl_zoks:ZOKs tl:=by
 repeat refine⟨rfl,?_⟩
 exact trivial
theorem qzl:ZOK tl:=tl_zoks.ok
def mkG (w:Bool)(own vis:Nat->Bool)(hp:Bool)(st:Nat->Bool):Env:={tl:=tl,wrap:=w,own:=own,vis:=vis,hp:=hp,st:=st}
abbrev mkE (w:Bool)(own vis:Nat->Bool):Env:=mkG w own vis false (fun _=>false)
abbrev mkH (w:Bool)(own vis st:Nat->Bool):Env:=mkG w own vis true st
section
variable (w:Bool)(own vis:Nat->Bool)(hp:Bool)(st:Nat->Bool)
@[go_sem]theorem mkG_wrap:(mkG w own vis hp st).wrap=w:=rfl
@[go_sem]theorem mkG_own:(mkG w own vis hp st).own=own:=rfl
@[go_sem]theorem mkG_vis:(mkG w own vis hp st).vis=vis:=rfl
@[go_sem]theorem mkG_hp:(mkG w own vis hp st).hp=hp:=rfl
@[go_sem]theorem mkG_st:(mkG w own vis hp st).st=st:=rfl
@[go_sem]theorem ti2:(mkG w own vis hp st).ti 2=some T2:=by kernel_rfl
@[go_sem]theorem ti3:(mkG w own vis hp st).ti 3=some T2:=by kernel_rfl
@[go_sem]theorem ti4:(mkG w own vis hp st).ti 4=some T4:=by kernel_rfl
@[go_sem]theorem ti5:(mkG w own vis hp st).ti 5=some T5:=by kernel_rfl
@[go_sem]theorem ti9:(mkG w own vis hp st).ti 9=some T9:=by kernel_rfl
@[go_sem]theorem ti12:(mkG w own vis hp st).ti 12=some T12:=by kernel_rfl
@[go_sem]theorem ti13:(mkG w own vis hp st).ti 13=some T13:=by kernel_rfl
@[go_sem]theorem ti20:(mkG w own vis hp st).ti 20=some T20:=by kernel_rfl
@[go_sem]theorem ti21:(mkG w own vis hp st).ti 21=some T21:=by kernel_rfl
@[go_sem]theorem ti22:(mkG w own vis hp st).ti 22=some (Tsli 92):=by kernel_rfl
@[go_sem]theorem ti23:(mkG w own vis hp st).ti 23=some (Tsli 69):=by kernel_rfl
@[go_sem]theorem ti24:(mkG w own vis hp st).ti 24=some (Tsli 69):=by kernel_rfl
@[go_sem]theorem ti25:(mkG w own vis hp st).ti 25=some (Tsli 48):=by kernel_rfl
@[go_sem]theorem ti26:(mkG w own vis hp st).ti 26=some (Tsli 100):=by kernel_rfl
@[go_sem]theorem ti27:(mkG w own vis hp st).ti 27=some (Tsli 177):=by kernel_rfl
@[go_sem]theorem ti28:(mkG w own vis hp st).ti 28=some (Tsli 85):=by kernel_rfl
@[go_sem]theorem ti29:(mkG w own vis hp st).ti 29=some T29:=by kernel_rfl
@[go_sem]theorem ti30:(mkG w own vis hp st).ti 30=some T29:=by kernel_rfl
@[go_sem]theorem ti34:(mkG w own vis hp st).ti 34=some (Tptr 59):=by kernel_rfl
@[go_sem]theorem ti35:(mkG w own vis hp st).ti 35=some (Tsli 55):=by kernel_rfl
@[go_sem]theorem ti36:(mkG w own vis hp st).ti 36=some (Tsli 3):=by kernel_rfl
@[go_sem]theorem ti37:(mkG w own vis hp st).ti 37=some (Tsli 52):=by kernel_rfl
@[go_sem]theorem ti38:(mkG w own vis hp st).ti 38=some T38:=by kernel_rfl
@[go_sem]theorem ti39:(mkG w own vis hp st).ti 39=some T38:=by kernel_rfl
@[go_sem]theorem ti40:(mkG w own vis hp st).ti 40=some T2:=by kernel_rfl
@[go_sem]theorem ti43:(mkG w own vis hp st).ti 43=some (Tsli 46):=by kernel_rfl
@[go_sem]theorem ti44:(mkG w own vis hp st).ti 44=some T2:=by kernel_rfl
@[go_sem]theorem ti45:(mkG w own vis hp st).ti 45=some T45:=by kernel_rfl
@[go_sem]theorem ti46:(mkG w own vis hp st).ti 46=some T45:=by kernel_rfl
@[go_sem]theorem ti47:(mkG w own vis hp st).ti 47=some T47:=by kernel_rfl
@[go_sem]theorem ti48:(mkG w own vis hp st).ti 48=some T47:=by kernel_rfl
@[go_sem]theorem ti49:(mkG w own vis hp st).ti 49=some (Tmap 3 3):=by kernel_rfl
@[go_sem]theorem ti50:(mkG w own vis hp st).ti 50=some T2:=by kernel_rfl
@[go_sem]theorem ti51:(mkG w own vis hp st).ti 51=some T51:=by kernel_rfl
@[go_sem]theorem ti52:(mkG w own vis hp st).ti 52=some T51:=by kernel_rfl
@[go_sem]theorem ti54:(mkG w own vis hp st).ti 54=some T54:=by kernel_rfl
@[go_sem]theorem ti55:(mkG w own vis hp st).ti 55=some T54:=by kernel_rfl
@[go_sem]theorem ti56:(mkG w own vis hp st).ti 56=some (Tsli 62):=by kernel_rfl
@[go_sem]theorem ti57:(mkG w own vis hp st).ti 57=some (Tsli 71):=by kernel_rfl
@[go_sem]theorem ti58:(mkG w own vis hp st).ti 58=some T58:=by kernel_rfl
@[go_sem]theorem ti59:(mkG w own vis hp st).ti 59=some T58:=by kernel_rfl
@[go_sem]theorem ti60:(mkG w own vis hp st).ti 60=some T2:=by kernel_rfl
@[go_sem]theorem ti61:(mkG w own vis hp st).ti 61=some T61:=by kernel_rfl
@[go_sem]theorem ti62:(mkG w own vis hp st).ti 62=some T61:=by kernel_rfl
@[go_sem]theorem ti64:(mkG w own vis hp st).ti 64=some (Tsli 2):=by kernel_rfl
@[go_sem]theorem ti66:(mkG w own vis hp st).ti 66=some T2:=by kernel_rfl
@[go_sem]theorem ti67:(mkG w own vis hp st).ti 67=some (Tsli 73):=by kernel_rfl
@[go_sem]theorem ti68:(mkG w own vis hp st).ti 68=some T68:=by kernel_rfl
@[go_sem]theorem ti69:(mkG w own vis hp st).ti 69=some T68:=by kernel_rfl
@[go_sem]theorem ti70:(mkG w own vis hp st).ti 70=some T70:=by kernel_rfl
@[go_sem]theorem ti71:(mkG w own vis hp st).ti 71=some T70:=by kernel_rfl
@[go_sem]theorem ti72:(mkG w own vis hp st).ti 72=some T72:=by kernel_rfl
@[go_sem]theorem ti73:(mkG w own vis hp st).ti 73=some T72:=by kernel_rfl
@[go_sem]theorem ti78:(mkG w own vis hp st).ti 78=some (Tptr 122):=by kernel_rfl
@[go_sem]theorem ti81:(mkG w own vis hp st).ti 81=some (Tsli 83):=by kernel_rfl
@[go_sem]theorem ti82:(mkG w own vis hp st).ti 82=some T82:=by kernel_rfl
@[go_sem]theorem ti83:(mkG w own vis hp st).ti 83=some T82:=by kernel_rfl
@[go_sem]theorem ti84:(mkG w own vis hp st).ti 84=some T84:=by kernel_rfl
@[go_sem]theorem ti85:(mkG w own vis hp st).ti 85=some T84:=by kernel_rfl
@[go_sem]theorem ti90:(mkG w own vis hp st).ti 90=some T2:=by kernel_rfl
@[go_sem]theorem ti91:(mkG w own vis hp st).ti 91=some T91:=by kernel_rfl
@[go_sem]theorem ti92:(mkG w own vis hp st).ti 92=some T91:=by kernel_rfl
@[go_sem]theorem ti99:(mkG w own vis hp st).ti 99=some T99:=by kernel_rfl
@[go_sem]theorem ti100:(mkG w own vis hp st).ti 100=some T99:=by kernel_rfl
@[go_sem]theorem ti107:(mkG w own vis hp st).ti 107=some T107:=by kernel_rfl
@[go_sem]theorem ti108:(mkG w own vis hp st).ti 108=some T107:=by kernel_rfl
@[go_sem]theorem ti114:(mkG w own vis hp st).ti 114=some (Tptr 118):=by kernel_rfl
@[go_sem]theorem ti115:(mkG w own vis hp st).ti 115=some (Tsli 192):=by kernel_rfl
@[go_sem]theorem ti116:(mkG w own vis hp st).ti 116=some (Tsli 189):=by kernel_rfl
@[go_sem]theorem ti117:(mkG w own vis hp st).ti 117=some T117:=by kernel_rfl
@[go_sem]theorem ti118:(mkG w own vis hp st).ti 118=some T117:=by kernel_rfl
@[go_sem]theorem ti119:(mkG w own vis hp st).ti 119=some (Tsli 130):=by kernel_rfl
@[go_sem]theorem ti120:(mkG w own vis hp st).ti 120=some (Tsli 124):=by kernel_rfl
@[go_sem]theorem ti121:(mkG w own vis hp st).ti 121=some T121:=by kernel_rfl
@[go_sem]theorem ti122:(mkG w own vis hp st).ti 122=some T121:=by kernel_rfl
@[go_sem]theorem ti123:(mkG w own vis hp st).ti 123=some T123:=by kernel_rfl
@[go_sem]theorem ti124:(mkG w own vis hp st).ti 124=some T123:=by kernel_rfl
@[go_sem]theorem ti129:(mkG w own vis hp st).ti 129=some T129:=by kernel_rfl
@[go_sem]theorem ti130:(mkG w own vis hp st).ti 130=some T129:=by kernel_rfl
@[go_sem]theorem ti136:(mkG w own vis hp st).ti 136=some (Tptr 62):=by kernel_rfl
@[go_sem]theorem ti141:(mkG w own vis hp st).ti 141=some (Tsli 152):=by kernel_rfl
@[go_sem]theorem ti144:(mkG w own vis hp st).ti 144=some T144:=by kernel_rfl
@[go_sem]theorem ti145:(mkG w own vis hp st).ti 145=some T144:=by kernel_rfl
@[go_sem]theorem ti147:(mkG w own vis hp st).ti 147=some (Tptr 149):=by kernel_rfl
@[go_sem]theorem ti148:(mkG w own vis hp st).ti 148=some T148:=by kernel_rfl
@[go_sem]theorem ti149:(mkG w own vis hp st).ti 149=some T148:=by kernel_rfl
@[go_sem]theorem ti150:(mkG w own vis hp st).ti 150=some T2:=by kernel_rfl
@[go_sem]theorem ti151:(mkG w own vis hp st).ti 151=some T151:=by kernel_rfl
@[go_sem]theorem ti152:(mkG w own vis hp st).ti 152=some T151:=by kernel_rfl
@[go_sem]theorem ti157:(mkG w own vis hp st).ti 157=some T144:=by kernel_rfl
@[go_sem]theorem ti158:(mkG w own vis hp st).ti 158=some T144:=by kernel_rfl
@[go_sem]theorem ti163:(mkG w own vis hp st).ti 163=some (Tsli 170):=by kernel_rfl
@[go_sem]theorem ti166:(mkG w own vis hp st).ti 166=some (Tptr 168):=by kernel_rfl
@[go_sem]theorem ti167:(mkG w own vis hp st).ti 167=some T167:=by kernel_rfl
@[go_sem]theorem ti168:(mkG w own vis hp st).ti 168=some T167:=by kernel_rfl
@[go_sem]theorem ti169:(mkG w own vis hp st).ti 169=some T169:=by kernel_rfl
@[go_sem]theorem ti170:(mkG w own vis hp st).ti 170=some T169:=by kernel_rfl
@[go_sem]theorem ti175:(mkG w own vis hp st).ti 175=some (Tsli 193):=by kernel_rfl
@[go_sem]theorem ti176:(mkG w own vis hp st).ti 176=some T176:=by kernel_rfl
@[go_sem]theorem ti177:(mkG w own vis hp st).ti 177=some T176:=by kernel_rfl
@[go_sem]theorem ti182:(mkG w own vis hp st).ti 182=some (Tptr 39):=by kernel_rfl
@[go_sem]theorem ti189:(mkG w own vis hp st).ti 189=some T70:=by kernel_rfl
@[go_sem]theorem ti191:(mkG w own vis hp st).ti 191=some T191:=by kernel_rfl
@[go_sem]theorem ti192:(mkG w own vis hp st).ti 192=some T191:=by kernel_rfl
@[go_sem]theorem ti193:(mkG w own vis hp st).ti 193=some T72:=by kernel_rfl
@[go_sem]theorem ti213:(mkG w own vis hp st).ti 213=some (Tptr 69):=by kernel_rfl
@[go_sem]theorem ti230:(mkG w own vis hp st).ti 230=some (Tmap 44 60):=by kernel_rfl
@[go_sem]theorem ti236:(mkG w own vis hp st).ti 236=some T20:=by kernel_rfl
@[go_sem]theorem ti239:(mkG w own vis hp st).ti 239=some T239:=by kernel_rfl
@[go_sem]theorem ti250:(mkG w own vis hp st).ti 250=some (Tsli 9):=by kernel_rfl
@[go_sem]theorem ti251:(mkG w own vis hp st).ti 251=some T251:=by kernel_rfl
@[go_sem]theorem ti272:(mkG w own vis hp st).ti 272=some T12:=by kernel_rfl
@[go_sem]theorem ti275:(mkG w own vis hp st).ti 275=some T12:=by kernel_rfl
@[go_sem]theorem ti281:(mkG w own vis hp st).ti 281=some (Tsli 5):=by kernel_rfl
@[go_sem]theorem ti286:(mkG w own vis hp st).ti 286=some (Tmap 9 90):=by kernel_rfl
@[go_sem]theorem ti288:(mkG w own vis hp st).ti 288=some (Tptr 5):=by kernel_rfl
@[go_sem]theorem ti290:(mkG w own vis hp st).ti 290=some T290:=by kernel_rfl
@[go_sem]theorem ti301:(mkG w own vis hp st).ti 301=some T301:=by kernel_rfl
end
@[go_sem]theorem T2_size:T2.size=1:=rfl
@[go_sem]theorem T2_bytes:T2.bytes=8:=rfl
@[go_sem]theorem T2_agg:T2.agg=false:=rfl
@[go_sem]theorem T2_str:T2.str=false:=rfl
@[go_sem]theorem T2_cmp:T2.cmp=true:=rfl
@[go_sem]theorem T2_desc:T2.desc=.int .i64:=rfl
@[go_sem]theorem T2_cv:cv T2.zero=.d (.int .i64 0):=rfl
@[go_sem]theorem T2_vcs:vcs T2.zero=[.d (.int .i64 0)]:=rfl
@[go_sem]theorem T4_size:T4.size=1:=rfl
@[go_sem]theorem T4_bytes:T4.bytes=1:=rfl
@[go_sem]theorem T4_agg:T4.agg=false:=rfl
@[go_sem]theorem T4_str:T4.str=false:=rfl
@[go_sem]theorem T4_cmp:T4.cmp=true:=rfl
@[go_sem]theorem T4_desc:T4.desc=.boo:=rfl
@[go_sem]theorem T4_cv:cv T4.zero=.d (.bool false):=rfl
@[go_sem]theorem T4_vcs:vcs T4.zero=[.d (.bool false)]:=rfl
@[go_sem]theorem T5_size:T5.size=1:=rfl
@[go_sem]theorem T5_bytes:T5.bytes=1:=rfl
@[go_sem]theorem T5_agg:T5.agg=false:=rfl
@[go_sem]theorem T5_str:T5.str=false:=rfl
@[go_sem]theorem T5_cmp:T5.cmp=true:=rfl
@[go_sem]theorem T5_desc:T5.desc=.int .u8:=rfl
@[go_sem]theorem T5_cv:cv T5.zero=.d (.int .u8 0):=rfl
@[go_sem]theorem T5_vcs:vcs T5.zero=[.d (.int .u8 0)]:=rfl
@[go_sem]theorem T9_size:T9.size=1:=rfl
@[go_sem]theorem T9_bytes:T9.bytes=16:=rfl
@[go_sem]theorem T9_agg:T9.agg=false:=rfl
@[go_sem]theorem T9_str:T9.str=false:=rfl
@[go_sem]theorem T9_cmp:T9.cmp=true:=rfl
@[go_sem]theorem T9_desc:T9.desc=.str:=rfl
@[go_sem]theorem T9_cv:cv T9.zero=.d (.st []):=rfl
@[go_sem]theorem T9_vcs:vcs T9.zero=[.d (.st [])]:=rfl
@[go_sem]theorem T12_size:T12.size=1:=rfl
@[go_sem]theorem T12_bytes:T12.bytes=8:=rfl
@[go_sem]theorem T12_agg:T12.agg=false:=rfl
@[go_sem]theorem T12_str:T12.str=false:=rfl
@[go_sem]theorem T12_cmp:T12.cmp=true:=rfl
@[go_sem]theorem T12_desc:T12.desc=.int .u64:=rfl
@[go_sem]theorem T12_cv:cv T12.zero=.d (.int .u64 0):=rfl
@[go_sem]theorem T12_vcs:vcs T12.zero=[.d (.int .u64 0)]:=rfl
@[go_sem]theorem T13_size:T13.size=2:=rfl
@[go_sem]theorem T13_bytes:T13.bytes=24:=rfl
@[go_sem]theorem T13_agg:T13.agg=true:=rfl
@[go_sem]theorem T13_str:T13.str=true:=rfl
@[go_sem]theorem T13_cmp:T13.cmp=false:=rfl
@[go_sem]theorem T13_fields:T13.fields=[(0,9),(1,12)]:=rfl
@[go_sem]theorem T13_desc:T13.desc=.st [(0,9),(1,12)]:=rfl
@[go_sem]theorem T13_cv:cv T13.zero=.d (.ag [.st [],.int .u64 0]):=rfl
@[go_sem]theorem T13_vcs:vcs T13.zero=[.d (.st []),.d (.int .u64 0)]:=rfl
@[go_sem]theorem T20_size:T20.size=1:=rfl
@[go_sem]theorem T20_bytes:T20.bytes=16:=rfl
@[go_sem]theorem T20_agg:T20.agg=false:=rfl
@[go_sem]theorem T20_str:T20.str=false:=rfl
@[go_sem]theorem T20_cmp:T20.cmp=false:=rfl
@[go_sem]theorem T20_desc:T20.desc=.ifc:=rfl
@[go_sem]theorem T20_cv:cv T20.zero=.d (.imm (.nilIface)):=rfl
@[go_sem]theorem T20_vcs:vcs T20.zero=[.d (.imm (.nilIface))]:=rfl
@[go_sem]theorem T21_size:T21.size=1:=rfl
@[go_sem]theorem T21_bytes:T21.bytes=4:=rfl
@[go_sem]theorem T21_agg:T21.agg=false:=rfl
@[go_sem]theorem T21_str:T21.str=false:=rfl
@[go_sem]theorem T21_cmp:T21.cmp=true:=rfl
@[go_sem]theorem T21_desc:T21.desc=.int .i32:=rfl
@[go_sem]theorem T21_cv:cv T21.zero=.d (.int .i32 0):=rfl
@[go_sem]theorem T21_vcs:vcs T21.zero=[.d (.int .i32 0)]:=rfl
@[go_sem]theorem Tsli_size (e:Nat):(Tsli e).size=1:=rfl
@[go_sem]theorem Tsli_bytes (e:Nat):(Tsli e).bytes=24:=rfl
@[go_sem]theorem Tsli_agg (e:Nat):(Tsli e).agg=false:=rfl
@[go_sem]theorem Tsli_str (e:Nat):(Tsli e).str=false:=rfl
@[go_sem]theorem Tsli_cmp (e:Nat):(Tsli e).cmp=false:=rfl
@[go_sem]theorem Tsli_desc (e:Nat):(Tsli e).desc=.sli e:=rfl
@[go_sem]theorem Tsli_cv (e:Nat):cv (Tsli e).zero=.d (.imm (.slice none 0 0)):=rfl
@[go_sem]theorem Tsli_vcs (e:Nat):vcs (Tsli e).zero=[.d (.imm (.slice none 0 0))]:=rfl
@[go_sem]theorem T29_size:T29.size=6:=rfl
@[go_sem]theorem T29_bytes:T29.bytes=144:=rfl
@[go_sem]theorem T29_agg:T29.agg=true:=rfl
@[go_sem]theorem T29_str:T29.str=true:=rfl
@[go_sem]theorem T29_cmp:T29.cmp=false:=rfl
@[go_sem]theorem T29_fields:T29.fields=[(0,22),(1,24),(2,25),(3,26),(4,27),(5,28)]:=rfl
@[go_sem]theorem T29_desc:T29.desc=.st [(0,22),(1,24),(2,25),(3,26),(4,27),(5,28)]:=rfl
@[go_sem]theorem T29_cv:cv T29.zero=.d (.ag [.imm (.slice none 0 0),.imm (.slice none 0 0),.imm (.slice none 0 0),.imm (.slice none 0 0),.imm (.slice none 0 0),.imm (.slice none 0 0)]):=rfl
@[go_sem]theorem T29_vcs:vcs T29.zero=[.d (.imm (.slice none 0 0)),.d (.imm (.slice none 0 0)),.d (.imm (.slice none 0 0)),.d (.imm (.slice none 0 0)),.d (.imm (.slice none 0 0)),.d (.imm (.slice none 0 0))]:=rfl
@[go_sem]theorem Tptr_size (e:Nat):(Tptr e).size=1:=rfl
@[go_sem]theorem Tptr_bytes (e:Nat):(Tptr e).bytes=8:=rfl
@[go_sem]theorem Tptr_agg (e:Nat):(Tptr e).agg=false:=rfl
@[go_sem]theorem Tptr_str (e:Nat):(Tptr e).str=false:=rfl
@[go_sem]theorem Tptr_cmp (e:Nat):(Tptr e).cmp=false:=rfl
@[go_sem]theorem Tptr_desc (e:Nat):(Tptr e).desc=.ptr e:=rfl
@[go_sem]theorem Tptr_cv (e:Nat):cv (Tptr e).zero=.d (.imm (.pointer none)):=rfl
@[go_sem]theorem Tptr_vcs (e:Nat):vcs (Tptr e).zero=[.d (.imm (.pointer none))]:=rfl
@[go_sem]theorem T38_size:T38.size=4:=rfl
@[go_sem]theorem T38_bytes:T38.bytes=80:=rfl
@[go_sem]theorem T38_agg:T38.agg=true:=rfl
@[go_sem]theorem T38_str:T38.str=true:=rfl
@[go_sem]theorem T38_cmp:T38.cmp=false:=rfl
@[go_sem]theorem T38_fields:T38.fields=[(0,34),(1,35),(2,36),(3,37)]:=rfl
@[go_sem]theorem T38_desc:T38.desc=.st [(0,34),(1,35),(2,36),(3,37)]:=rfl
@[go_sem]theorem T38_cv:cv T38.zero=.d (.ag [.imm (.pointer none),.imm (.slice none 0 0),.imm (.slice none 0 0),.imm (.slice none 0 0)]):=rfl
@[go_sem]theorem T38_vcs:vcs T38.zero=[.d (.imm (.pointer none)),.d (.imm (.slice none 0 0)),.d (.imm (.slice none 0 0)),.d (.imm (.slice none 0 0))]:=rfl
@[go_sem]theorem T45_size:T45.size=3:=rfl
@[go_sem]theorem T45_bytes:T45.bytes=32:=rfl
@[go_sem]theorem T45_agg:T45.agg=true:=rfl
@[go_sem]theorem T45_str:T45.str=true:=rfl
@[go_sem]theorem T45_cmp:T45.cmp=true:=rfl
@[go_sem]theorem T45_fields:T45.fields=[(0,9),(1,44),(2,3)]:=rfl
@[go_sem]theorem T45_desc:T45.desc=.st [(0,9),(1,44),(2,3)]:=rfl
@[go_sem]theorem T45_cv:cv T45.zero=.d (.ag [.st [],.int .i64 0,.int .i64 0]):=rfl
@[go_sem]theorem T45_vcs:vcs T45.zero=[.d (.st []),.d (.int .i64 0),.d (.int .i64 0)]:=rfl
@[go_sem]theorem T47_size:T47.size=5:=rfl
@[go_sem]theorem T47_bytes:T47.bytes=72:=rfl
@[go_sem]theorem T47_agg:T47.agg=true:=rfl
@[go_sem]theorem T47_str:T47.str=true:=rfl
@[go_sem]theorem T47_cmp:T47.cmp=false:=rfl
@[go_sem]theorem T47_fields:T47.fields=[(0,9),(1,43),(2,46)]:=rfl
@[go_sem]theorem T47_desc:T47.desc=.st [(0,9),(1,43),(2,46)]:=rfl
@[go_sem]theorem T47_cv:cv T47.zero=.d (.ag [.st [],.imm (.slice none 0 0),.st [],.int .i64 0,.int .i64 0]):=rfl
@[go_sem]theorem T47_vcs:vcs T47.zero=[.d (.st []),.d (.imm (.slice none 0 0)),.d (.st []),.d (.int .i64 0),.d (.int .i64 0)]:=rfl
@[go_sem]theorem Tmap_size (e f:Nat):(Tmap e f).size=1:=rfl
@[go_sem]theorem Tmap_bytes (e f:Nat):(Tmap e f).bytes=8:=rfl
@[go_sem]theorem Tmap_agg (e f:Nat):(Tmap e f).agg=false:=rfl
@[go_sem]theorem Tmap_str (e f:Nat):(Tmap e f).str=false:=rfl
@[go_sem]theorem Tmap_cmp (e f:Nat):(Tmap e f).cmp=false:=rfl
@[go_sem]theorem Tmap_desc (e f:Nat):(Tmap e f).desc=.map e f:=rfl
@[go_sem]theorem Tmap_cv (e f:Nat):cv (Tmap e f).zero=.d (.imm (.map none)):=rfl
@[go_sem]theorem Tmap_vcs (e f:Nat):vcs (Tmap e f).zero=[.d (.imm (.map none))]:=rfl
@[go_sem]theorem T51_size:T51.size=4:=rfl
@[go_sem]theorem T51_bytes:T51.bytes=32:=rfl
@[go_sem]theorem T51_agg:T51.agg=true:=rfl
@[go_sem]theorem T51_str:T51.str=true:=rfl
@[go_sem]theorem T51_cmp:T51.cmp=true:=rfl
@[go_sem]theorem T51_fields:T51.fields=[(0,50),(1,3),(2,2),(3,3)]:=rfl
@[go_sem]theorem T51_desc:T51.desc=.st [(0,50),(1,3),(2,2),(3,3)]:=rfl
@[go_sem]theorem T51_cv:cv T51.zero=.d (.ag [.int .i64 0,.int .i64 0,.int .i64 0,.int .i64 0]):=rfl
@[go_sem]theorem T51_vcs:vcs T51.zero=[.d (.int .i64 0),.d (.int .i64 0),.d (.int .i64 0),.d (.int .i64 0)]:=rfl
@[go_sem]theorem T54_size:T54.size=5:=rfl
@[go_sem]theorem T54_bytes:T54.bytes=48:=rfl
@[go_sem]theorem T54_agg:T54.agg=true:=rfl
@[go_sem]theorem T54_str:T54.str=true:=rfl
@[go_sem]theorem T54_cmp:T54.cmp=false:=rfl
@[go_sem]theorem T54_fields:T54.fields=[(0,9),(1,52)]:=rfl
@[go_sem]theorem T54_desc:T54.desc=.st [(0,9),(1,52)]:=rfl
@[go_sem]theorem T54_cv:cv T54.zero=.d (.ag [.st [],.int .i64 0,.int .i64 0,.int .i64 0,.int .i64 0]):=rfl
@[go_sem]theorem T54_vcs:vcs T54.zero=[.d (.st []),.d (.int .i64 0),.d (.int .i64 0),.d (.int .i64 0),.d (.int .i64 0)]:=rfl
@[go_sem]theorem T58_size:T58.size=3:=rfl
@[go_sem]theorem T58_bytes:T58.bytes=56:=rfl
@[go_sem]theorem T58_agg:T58.agg=true:=rfl
@[go_sem]theorem T58_str:T58.str=true:=rfl
@[go_sem]theorem T58_cmp:T58.cmp=false:=rfl
@[go_sem]theorem T58_fields:T58.fields=[(0,56),(1,3),(2,57)]:=rfl
@[go_sem]theorem T58_desc:T58.desc=.st [(0,56),(1,3),(2,57)]:=rfl
@[go_sem]theorem T58_cv:cv T58.zero=.d (.ag [.imm (.slice none 0 0),.int .i64 0,.imm (.slice none 0 0)]):=rfl
@[go_sem]theorem T58_vcs:vcs T58.zero=[.d (.imm (.slice none 0 0)),.d (.int .i64 0),.d (.imm (.slice none 0 0))]:=rfl
@[go_sem]theorem T61_size:T61.size=11:=rfl
@[go_sem]theorem T61_bytes:T61.bytes=88:=rfl
@[go_sem]theorem T61_agg:T61.agg=true:=rfl
@[go_sem]theorem T61_str:T61.str=true:=rfl
@[go_sem]theorem T61_cmp:T61.cmp=false:=rfl
@[go_sem]theorem T61_fields:T61.fields=[(0,60),(1,3),(2,3),(3,4),(4,4),(5,4),(6,52),(10,37)]:=rfl
@[go_sem]theorem T61_desc:T61.desc=.st [(0,60),(1,3),(2,3),(3,4),(4,4),(5,4),(6,52),(10,37)]:=rfl
@[go_sem]theorem T61_cv:cv T61.zero=.d (.ag [.int .i64 0,.int .i64 0,.int .i64 0,.bool false,.bool false,.bool false,.int .i64 0,.int .i64 0,.int .i64 0,.int .i64 0,.imm (.slice none 0 0)]):=rfl
@[go_sem]theorem T61_vcs:vcs T61.zero=[.d (.int .i64 0),.d (.int .i64 0),.d (.int .i64 0),.d (.bool false),.d (.bool false),.d (.bool false),.d (.int .i64 0),.d (.int .i64 0),.d (.int .i64 0),.d (.int .i64 0),.d (.imm (.slice none 0 0))]:=rfl
@[go_sem]theorem T68_size:T68.size=5:=rfl
@[go_sem]theorem T68_bytes:T68.bytes=80:=rfl
@[go_sem]theorem T68_agg:T68.agg=true:=rfl
@[go_sem]theorem T68_str:T68.str=true:=rfl
@[go_sem]theorem T68_cmp:T68.cmp=false:=rfl
@[go_sem]theorem T68_fields:T68.fields=[(0,9),(1,66),(2,3),(3,67),(4,57)]:=rfl
@[go_sem]theorem T68_desc:T68.desc=.st [(0,9),(1,66),(2,3),(3,67),(4,57)]:=rfl
@[go_sem]theorem T68_cv:cv T68.zero=.d (.ag [.st [],.int .i64 0,.int .i64 0,.imm (.slice none 0 0),.imm (.slice none 0 0)]):=rfl
@[go_sem]theorem T68_vcs:vcs T68.zero=[.d (.st []),.d (.int .i64 0),.d (.int .i64 0),.d (.imm (.slice none 0 0)),.d (.imm (.slice none 0 0))]:=rfl
@[go_sem]theorem T70_size:T70.size=3:=rfl
@[go_sem]theorem T70_bytes:T70.bytes=24:=rfl
@[go_sem]theorem T70_agg:T70.agg=true:=rfl
@[go_sem]theorem T70_str:T70.str=true:=rfl
@[go_sem]theorem T70_cmp:T70.cmp=true:=rfl
@[go_sem]theorem T70_fields:T70.fields=[(0,3),(1,3),(2,2)]:=rfl
@[go_sem]theorem T70_desc:T70.desc=.st [(0,3),(1,3),(2,2)]:=rfl
@[go_sem]theorem T70_cv:cv T70.zero=.d (.ag [.int .i64 0,.int .i64 0,.int .i64 0]):=rfl
@[go_sem]theorem T70_vcs:vcs T70.zero=[.d (.int .i64 0),.d (.int .i64 0),.d (.int .i64 0)]:=rfl
@[go_sem]theorem T72_size:T72.size=2:=rfl
@[go_sem]theorem T72_bytes:T72.bytes=24:=rfl
@[go_sem]theorem T72_agg:T72.agg=true:=rfl
@[go_sem]theorem T72_str:T72.str=true:=rfl
@[go_sem]theorem T72_cmp:T72.cmp=true:=rfl
@[go_sem]theorem T72_fields:T72.fields=[(0,9),(1,3)]:=rfl
@[go_sem]theorem T72_desc:T72.desc=.st [(0,9),(1,3)]:=rfl
@[go_sem]theorem T72_cv:cv T72.zero=.d (.ag [.st [],.int .i64 0]):=rfl
@[go_sem]theorem T72_vcs:vcs T72.zero=[.d (.st []),.d (.int .i64 0)]:=rfl
@[go_sem]theorem T82_size:T82.size=3:=rfl
@[go_sem]theorem T82_bytes:T82.bytes=32:=rfl
@[go_sem]theorem T82_agg:T82.agg=true:=rfl
@[go_sem]theorem T82_str:T82.str=true:=rfl
@[go_sem]theorem T82_cmp:T82.cmp=true:=rfl
@[go_sem]theorem T82_fields:T82.fields=[(0,9),(1,3),(2,3)]:=rfl
@[go_sem]theorem T82_desc:T82.desc=.st [(0,9),(1,3),(2,3)]:=rfl
@[go_sem]theorem T82_cv:cv T82.zero=.d (.ag [.st [],.int .i64 0,.int .i64 0]):=rfl
@[go_sem]theorem T82_vcs:vcs T82.zero=[.d (.st []),.d (.int .i64 0),.d (.int .i64 0)]:=rfl
@[go_sem]theorem T84_size:T84.size=5:=rfl
@[go_sem]theorem T84_bytes:T84.bytes=72:=rfl
@[go_sem]theorem T84_agg:T84.agg=true:=rfl
@[go_sem]theorem T84_str:T84.str=true:=rfl
@[go_sem]theorem T84_cmp:T84.cmp=false:=rfl
@[go_sem]theorem T84_fields:T84.fields=[(0,9),(1,81),(2,83)]:=rfl
@[go_sem]theorem T84_desc:T84.desc=.st [(0,9),(1,81),(2,83)]:=rfl
@[go_sem]theorem T84_cv:cv T84.zero=.d (.ag [.st [],.imm (.slice none 0 0),.st [],.int .i64 0,.int .i64 0]):=rfl
@[go_sem]theorem T84_vcs:vcs T84.zero=[.d (.st []),.d (.imm (.slice none 0 0)),.d (.st []),.d (.int .i64 0),.d (.int .i64 0)]:=rfl
@[go_sem]theorem T91_size:T91.size=5:=rfl
@[go_sem]theorem T91_bytes:T91.bytes=64:=rfl
@[go_sem]theorem T91_agg:T91.agg=true:=rfl
@[go_sem]theorem T91_str:T91.str=true:=rfl
@[go_sem]theorem T91_cmp:T91.cmp=false:=rfl
@[go_sem]theorem T91_fields:T91.fields=[(0,90),(1,9),(2,2),(3,3),(4,22)]:=rfl
@[go_sem]theorem T91_desc:T91.desc=.st [(0,90),(1,9),(2,2),(3,3),(4,22)]:=rfl
@[go_sem]theorem T91_cv:cv T91.zero=.d (.ag [.int .i64 0,.st [],.int .i64 0,.int .i64 0,.imm (.slice none 0 0)]):=rfl
@[go_sem]theorem T91_vcs:vcs T91.zero=[.d (.int .i64 0),.d (.st []),.d (.int .i64 0),.d (.int .i64 0),.d (.imm (.slice none 0 0))]:=rfl
@[go_sem]theorem T99_size:T99.size=5:=rfl
@[go_sem]theorem T99_bytes:T99.bytes=64:=rfl
@[go_sem]theorem T99_agg:T99.agg=true:=rfl
@[go_sem]theorem T99_str:T99.str=true:=rfl
@[go_sem]theorem T99_cmp:T99.cmp=false:=rfl
@[go_sem]theorem T99_fields:T99.fields=[(0,3),(1,9),(2,2),(3,3),(4,26)]:=rfl
@[go_sem]theorem T99_desc:T99.desc=.st [(0,3),(1,9),(2,2),(3,3),(4,26)]:=rfl
@[go_sem]theorem T99_cv:cv T99.zero=.d (.ag [.int .i64 0,.st [],.int .i64 0,.int .i64 0,.imm (.slice none 0 0)]):=rfl
@[go_sem]theorem T99_vcs:vcs T99.zero=[.d (.int .i64 0),.d (.st []),.d (.int .i64 0),.d (.int .i64 0),.d (.imm (.slice none 0 0))]:=rfl
@[go_sem]theorem T107_size:T107.size=1:=rfl
@[go_sem]theorem T107_bytes:T107.bytes=8:=rfl
@[go_sem]theorem T107_agg:T107.agg=true:=rfl
@[go_sem]theorem T107_str:T107.str=true:=rfl
@[go_sem]theorem T107_cmp:T107.cmp=true:=rfl
@[go_sem]theorem T107_fields:T107.fields=[(0,40)]:=rfl
@[go_sem]theorem T107_desc:T107.desc=.st [(0,40)]:=rfl
@[go_sem]theorem T107_cv:cv T107.zero=.d (.ag [.int .i64 0]):=rfl
@[go_sem]theorem T107_vcs:vcs T107.zero=[.d (.int .i64 0)]:=rfl
@[go_sem]theorem T117_size:T117.size=3:=rfl
@[go_sem]theorem T117_bytes:T117.bytes=56:=rfl
@[go_sem]theorem T117_agg:T117.agg=true:=rfl
@[go_sem]theorem T117_str:T117.str=true:=rfl
@[go_sem]theorem T117_cmp:T117.cmp=false:=rfl
@[go_sem]theorem T117_fields:T117.fields=[(0,115),(1,3),(2,116)]:=rfl
@[go_sem]theorem T117_desc:T117.desc=.st [(0,115),(1,3),(2,116)]:=rfl
@[go_sem]theorem T117_cv:cv T117.zero=.d (.ag [.imm (.slice none 0 0),.int .i64 0,.imm (.slice none 0 0)]):=rfl
@[go_sem]theorem T117_vcs:vcs T117.zero=[.d (.imm (.slice none 0 0)),.d (.int .i64 0),.d (.imm (.slice none 0 0))]:=rfl
@[go_sem]theorem T121_size:T121.size=4:=rfl
@[go_sem]theorem T121_bytes:T121.bytes=80:=rfl
@[go_sem]theorem T121_agg:T121.agg=true:=rfl
@[go_sem]theorem T121_str:T121.str=true:=rfl
@[go_sem]theorem T121_cmp:T121.cmp=false:=rfl
@[go_sem]theorem T121_fields:T121.fields=[(0,114),(1,119),(2,36),(3,120)]:=rfl
@[go_sem]theorem T121_desc:T121.desc=.st [(0,114),(1,119),(2,36),(3,120)]:=rfl
@[go_sem]theorem T121_cv:cv T121.zero=.d (.ag [.imm (.pointer none),.imm (.slice none 0 0),.imm (.slice none 0 0),.imm (.slice none 0 0)]):=rfl
@[go_sem]theorem T121_vcs:vcs T121.zero=[.d (.imm (.pointer none)),.d (.imm (.slice none 0 0)),.d (.imm (.slice none 0 0)),.d (.imm (.slice none 0 0))]:=rfl
@[go_sem]theorem T123_size:T123.size=4:=rfl
@[go_sem]theorem T123_bytes:T123.bytes=32:=rfl
@[go_sem]theorem T123_agg:T123.agg=true:=rfl
@[go_sem]theorem T123_str:T123.str=true:=rfl
@[go_sem]theorem T123_cmp:T123.cmp=true:=rfl
@[go_sem]theorem T123_fields:T123.fields=[(0,3),(1,3),(2,2),(3,3)]:=rfl
@[go_sem]theorem T123_desc:T123.desc=.st [(0,3),(1,3),(2,2),(3,3)]:=rfl
@[go_sem]theorem T123_cv:cv T123.zero=.d (.ag [.int .i64 0,.int .i64 0,.int .i64 0,.int .i64 0]):=rfl
@[go_sem]theorem T123_vcs:vcs T123.zero=[.d (.int .i64 0),.d (.int .i64 0),.d (.int .i64 0),.d (.int .i64 0)]:=rfl
@[go_sem]theorem T129_size:T129.size=5:=rfl
@[go_sem]theorem T129_bytes:T129.bytes=48:=rfl
@[go_sem]theorem T129_agg:T129.agg=true:=rfl
@[go_sem]theorem T129_str:T129.str=true:=rfl
@[go_sem]theorem T129_cmp:T129.cmp=false:=rfl
@[go_sem]theorem T129_fields:T129.fields=[(0,9),(1,124)]:=rfl
@[go_sem]theorem T129_desc:T129.desc=.st [(0,9),(1,124)]:=rfl
@[go_sem]theorem T129_cv:cv T129.zero=.d (.ag [.st [],.int .i64 0,.int .i64 0,.int .i64 0,.int .i64 0]):=rfl
@[go_sem]theorem T129_vcs:vcs T129.zero=[.d (.st []),.d (.int .i64 0),.d (.int .i64 0),.d (.int .i64 0),.d (.int .i64 0)]:=rfl
@[go_sem]theorem T144_size:T144.size=2:=rfl
@[go_sem]theorem T144_bytes:T144.bytes=16:=rfl
@[go_sem]theorem T144_agg:T144.agg=true:=rfl
@[go_sem]theorem T144_str:T144.str=true:=rfl
@[go_sem]theorem T144_cmp:T144.cmp=true:=rfl
@[go_sem]theorem T144_fields:T144.fields=[(0,3),(1,40)]:=rfl
@[go_sem]theorem T144_desc:T144.desc=.st [(0,3),(1,40)]:=rfl
@[go_sem]theorem T144_cv:cv T144.zero=.d (.ag [.int .i64 0,.int .i64 0]):=rfl
@[go_sem]theorem T144_vcs:vcs T144.zero=[.d (.int .i64 0),.d (.int .i64 0)]:=rfl
@[go_sem]theorem T148_size:T148.size=2:=rfl
@[go_sem]theorem T148_bytes:T148.bytes=32:=rfl
@[go_sem]theorem T148_agg:T148.agg=true:=rfl
@[go_sem]theorem T148_str:T148.str=true:=rfl
@[go_sem]theorem T148_cmp:T148.cmp=false:=rfl
@[go_sem]theorem T148_fields:T148.fields=[(0,141),(1,3)]:=rfl
@[go_sem]theorem T148_desc:T148.desc=.st [(0,141),(1,3)]:=rfl
@[go_sem]theorem T148_cv:cv T148.zero=.d (.ag [.imm (.slice none 0 0),.int .i64 0]):=rfl
@[go_sem]theorem T148_vcs:vcs T148.zero=[.d (.imm (.slice none 0 0)),.d (.int .i64 0)]:=rfl
@[go_sem]theorem T151_size:T151.size=4:=rfl
@[go_sem]theorem T151_bytes:T151.bytes=40:=rfl
@[go_sem]theorem T151_agg:T151.agg=true:=rfl
@[go_sem]theorem T151_str:T151.str=true:=rfl
@[go_sem]theorem T151_cmp:T151.cmp=true:=rfl
@[go_sem]theorem T151_fields:T151.fields=[(0,150),(1,9),(2,2),(3,3)]:=rfl
@[go_sem]theorem T151_desc:T151.desc=.st [(0,150),(1,9),(2,2),(3,3)]:=rfl
@[go_sem]theorem T151_cv:cv T151.zero=.d (.ag [.int .i64 0,.st [],.int .i64 0,.int .i64 0]):=rfl
@[go_sem]theorem T151_vcs:vcs T151.zero=[.d (.int .i64 0),.d (.st []),.d (.int .i64 0),.d (.int .i64 0)]:=rfl
@[go_sem]theorem T167_size:T167.size=5:=rfl
@[go_sem]theorem T167_bytes:T167.bytes=56:=rfl
@[go_sem]theorem T167_agg:T167.agg=true:=rfl
@[go_sem]theorem T167_str:T167.str=true:=rfl
@[go_sem]theorem T167_cmp:T167.cmp=false:=rfl
@[go_sem]theorem T167_fields:T167.fields=[(0,163),(1,3),(2,3),(3,3),(4,3)]:=rfl
@[go_sem]theorem T167_desc:T167.desc=.st [(0,163),(1,3),(2,3),(3,3),(4,3)]:=rfl
@[go_sem]theorem T167_cv:cv T167.zero=.d (.ag [.imm (.slice none 0 0),.int .i64 0,.int .i64 0,.int .i64 0,.int .i64 0]):=rfl
@[go_sem]theorem T167_vcs:vcs T167.zero=[.d (.imm (.slice none 0 0)),.d (.int .i64 0),.d (.int .i64 0),.d (.int .i64 0),.d (.int .i64 0)]:=rfl
@[go_sem]theorem T169_size:T169.size=4:=rfl
@[go_sem]theorem T169_bytes:T169.bytes=40:=rfl
@[go_sem]theorem T169_agg:T169.agg=true:=rfl
@[go_sem]theorem T169_str:T169.str=true:=rfl
@[go_sem]theorem T169_cmp:T169.cmp=true:=rfl
@[go_sem]theorem T169_fields:T169.fields=[(0,3),(1,9),(2,2),(3,3)]:=rfl
@[go_sem]theorem T169_desc:T169.desc=.st [(0,3),(1,9),(2,2),(3,3)]:=rfl
@[go_sem]theorem T169_cv:cv T169.zero=.d (.ag [.int .i64 0,.st [],.int .i64 0,.int .i64 0]):=rfl
@[go_sem]theorem T169_vcs:vcs T169.zero=[.d (.int .i64 0),.d (.st []),.d (.int .i64 0),.d (.int .i64 0)]:=rfl
@[go_sem]theorem T176_size:T176.size=5:=rfl
@[go_sem]theorem T176_bytes:T176.bytes=80:=rfl
@[go_sem]theorem T176_agg:T176.agg=true:=rfl
@[go_sem]theorem T176_str:T176.str=true:=rfl
@[go_sem]theorem T176_cmp:T176.cmp=false:=rfl
@[go_sem]theorem T176_fields:T176.fields=[(0,9),(1,3),(2,3),(3,175),(4,116)]:=rfl
@[go_sem]theorem T176_desc:T176.desc=.st [(0,9),(1,3),(2,3),(3,175),(4,116)]:=rfl
@[go_sem]theorem T176_cv:cv T176.zero=.d (.ag [.st [],.int .i64 0,.int .i64 0,.imm (.slice none 0 0),.imm (.slice none 0 0)]):=rfl
@[go_sem]theorem T176_vcs:vcs T176.zero=[.d (.st []),.d (.int .i64 0),.d (.int .i64 0),.d (.imm (.slice none 0 0)),.d (.imm (.slice none 0 0))]:=rfl
@[go_sem]theorem T191_size:T191.size=11:=rfl
@[go_sem]theorem T191_bytes:T191.bytes=88:=rfl
@[go_sem]theorem T191_agg:T191.agg=true:=rfl
@[go_sem]theorem T191_str:T191.str=true:=rfl
@[go_sem]theorem T191_cmp:T191.cmp=false:=rfl
@[go_sem]theorem T191_fields:T191.fields=[(0,3),(1,3),(2,3),(3,4),(4,4),(5,4),(6,124),(10,120)]:=rfl
@[go_sem]theorem T191_desc:T191.desc=.st [(0,3),(1,3),(2,3),(3,4),(4,4),(5,4),(6,124),(10,120)]:=rfl
@[go_sem]theorem T191_cv:cv T191.zero=.d (.ag [.int .i64 0,.int .i64 0,.int .i64 0,.bool false,.bool false,.bool false,.int .i64 0,.int .i64 0,.int .i64 0,.int .i64 0,.imm (.slice none 0 0)]):=rfl
@[go_sem]theorem T191_vcs:vcs T191.zero=[.d (.int .i64 0),.d (.int .i64 0),.d (.int .i64 0),.d (.bool false),.d (.bool false),.d (.bool false),.d (.int .i64 0),.d (.int .i64 0),.d (.int .i64 0),.d (.int .i64 0),.d (.imm (.slice none 0 0))]:=rfl
@[go_sem]theorem T239_size:T239.size=3:=rfl
@[go_sem]theorem T239_bytes:T239.bytes=48:=rfl
@[go_sem]theorem T239_agg:T239.agg=true:=rfl
@[go_sem]theorem T239_str:T239.str=false:=rfl
@[go_sem]theorem T239_cmp:T239.cmp=false:=rfl
@[go_sem]theorem T239_desc:T239.desc=.arr 3 9:=rfl
@[go_sem]theorem T239_cv:cv T239.zero=.d (.ag [.st [],.st [],.st []]):=rfl
@[go_sem]theorem T239_vcs:vcs T239.zero=[.d (.st []),.d (.st []),.d (.st [])]:=rfl
@[go_sem]theorem T251_size:T251.size=2:=rfl
@[go_sem]theorem T251_bytes:T251.bytes=16:=rfl
@[go_sem]theorem T251_agg:T251.agg=true:=rfl
@[go_sem]theorem T251_str:T251.str=false:=rfl
@[go_sem]theorem T251_cmp:T251.cmp=false:=rfl
@[go_sem]theorem T251_desc:T251.desc=.arr 2 3:=rfl
@[go_sem]theorem T251_cv:cv T251.zero=.d (.ag [.int .i64 0,.int .i64 0]):=rfl
@[go_sem]theorem T251_vcs:vcs T251.zero=[.d (.int .i64 0),.d (.int .i64 0)]:=rfl
@[go_sem]theorem T290_size:T290.size=1:=rfl
@[go_sem]theorem T290_bytes:T290.bytes=16:=rfl
@[go_sem]theorem T290_agg:T290.agg=true:=rfl
@[go_sem]theorem T290_str:T290.str=true:=rfl
@[go_sem]theorem T290_cmp:T290.cmp=true:=rfl
@[go_sem]theorem T290_fields:T290.fields=[(0,9)]:=rfl
@[go_sem]theorem T290_desc:T290.desc=.st [(0,9)]:=rfl
@[go_sem]theorem T290_cv:cv T290.zero=.d (.ag [.st []]):=rfl
@[go_sem]theorem T290_vcs:vcs T290.zero=[.d (.st [])]:=rfl
@[go_sem]theorem T301_size:T301.size=1:=rfl
@[go_sem]theorem T301_bytes:T301.bytes=4:=rfl
@[go_sem]theorem T301_agg:T301.agg=false:=rfl
@[go_sem]theorem T301_str:T301.str=false:=rfl
@[go_sem]theorem T301_cmp:T301.cmp=true:=rfl
@[go_sem]theorem T301_desc:T301.desc=.int .u32:=rfl
@[go_sem]theorem T301_cv:cv T301.zero=.d (.int .u32 0):=rfl
@[go_sem]theorem T301_vcs:vcs T301.zero=[.d (.int .u32 0)]:=rfl
end Lx
