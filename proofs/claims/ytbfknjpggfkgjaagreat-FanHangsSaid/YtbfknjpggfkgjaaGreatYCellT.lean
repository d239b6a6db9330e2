
import Derived.Test.YtbfknjpggfkgjaaGreatEngMW
import Derived.Test.YtbfknjpggfkgjaaGreatProg
set_option linter.all false
set_option exponentiation.threshold 3000
set_option maxRecDepth 100000
namespace Go.Eng
open Go.Proofs
def Sb:TI:=⟨true,false,1, .s (.lit .i64 0),[],none,none,some (.int .i64)⟩
theorem ST:fP Tryz.prog 3 Sb:= {}
def Sa:TI:=⟨true,false,1, .s (.lit .i64 0),[],none,none,some (.int .i64)⟩
theorem SS:fP Tryz.prog 2 Sa:= {}
def Se:TI:=⟨true,false,1, .s (.lit .u8 0),[],none,none,some (.int .u8)⟩
theorem SZ:fP Tryz.prog 5 Se:= {}
def alB:TI:=⟨true,false,1, .s (.lit .u32 0),[],none,none,some (.int .u32)⟩
theorem alS:fP Tryz.prog 41 alB:= {}
def adZ:TI:=⟨true,false,1, .s (.lit .u64 0),[],none,none,some (.int .u64)⟩
theorem aeQ:fP Tryz.prog 147 adZ:= {}
def aj8:TI:=⟨true,false,1, .s (.lit .u64 0),[],none,none,some (.int .u64)⟩
theorem akX:fP Tryz.prog 142 aj8:= {}
def O1:TI:=⟨true,false,1, .s (.lit .i32 0),[],none,none,some (.int .i32)⟩
theorem Qd:fP Tryz.prog 21 O1:= {}
def Sd:TI:=⟨true,false,1, .s (.tt false),[],none,none,some .bool⟩
theorem SY:fP Tryz.prog 4 Sd:= {}
def Sf:TI:=⟨false,false,1, .s (.str ByteArray.empty),[],none,none,some .str⟩
theorem S0:fP Tryz.prog 9 Sf:= {}
def apB:TI:=⟨false,false,1, .s .nilf,[],none,none,none⟩
theorem aqR:fP Tryz.prog 136 apB:= {}
def T7:TI:=⟨true,true,3, .g [.s (.lit .i64 0), .s (.lit .i64 0), .s (.lit .i64 0)],[(0,1),(1,1),(2,1)],none,none,none⟩
theorem Uj:fP Tryz.prog 37 T7:= { fields:= .inr ⟨Tryz.prog.fieldsOf 37,by kernel_rfl,by kernel_rfl⟩ }
def apA:TI:=⟨true,true,3, .g [.s (.lit .i64 0), .s (.lit .i64 0), .s (.lit .i64 0)],[(0,1),(1,1),(2,1)],none,none,none⟩
theorem aqQ:fP Tryz.prog 135 apA:= { fields:= .inr ⟨Tryz.prog.fieldsOf 135,by kernel_rfl,by kernel_rfl⟩ }
def ao9:TI:=⟨true,true,3, .g [.s (.lit .i64 0), .s (.lit .i64 0), .s (.lit .i64 0)],[(0,1),(1,1),(2,1)],none,none,none⟩
theorem aqP:fP Tryz.prog 120 ao9:= { fields:= .inr ⟨Tryz.prog.fieldsOf 120,by kernel_rfl,by kernel_rfl⟩ }
def arM:TI:=⟨true,true,3, .g [.s (.lit .i64 0), .s (.lit .i64 0), .s (.lit .i64 0)],[(0,1),(1,1),(2,1)],none,none,none⟩
theorem asC:fP Tryz.prog 98 arM:= { fields:= .inr ⟨Tryz.prog.fieldsOf 98,by kernel_rfl,by kernel_rfl⟩ }
def TW:TI:=⟨true,true,33, .g [.W ⟨false,Dg.zero⟩],[(0,1),(1,32)],none,none,none⟩
theorem Un:fP Tryz.prog 44 TW:= { fields:= .inr ⟨Tryz.prog.fieldsOf 44,by kernel_rfl,by kernel_rfl⟩ }
def O7:TI:=⟨true,true,66, .g [.R ⟨⟨false,Dg.zero⟩,⟨false,Dg.zero⟩⟩],[(0,33),(33,33)],none,none,none⟩
theorem Qn:fP Tryz.prog 46 O7:= { fields:= .inr ⟨Tryz.prog.fieldsOf 46,by kernel_rfl,by kernel_rfl⟩ }
def arH:TI:=⟨true,true,132, .g [.P ⟨⟨⟨false,Dg.zero⟩,⟨false,Dg.zero⟩⟩,⟨⟨false,Dg.zero⟩,⟨false,Dg.zero⟩⟩⟩],[(0,66),(66,66)],none,none,none⟩
theorem ar7:fP Tryz.prog 51 arH:= { fields:= .inr ⟨Tryz.prog.fieldsOf 51,by kernel_rfl,by kernel_rfl⟩ }
def TV:TI:=⟨true,true,32, .g [.D Dg.zero],[],some (32,41,1),none,none⟩
theorem Um:fP Tryz.prog 42 TV:= {}
def apG:TI:=⟨true,true,32, .g [.D Dg.zero],[],some (32,41,1),none,none⟩
theorem aqW:fP Tryz.prog 237 apG:= {}
def ao8:TI:=⟨true,true,528, .g [.P ⟨⟨⟨false,Dg.zero⟩,⟨false,Dg.zero⟩⟩,⟨⟨false,Dg.zero⟩,⟨false,Dg.zero⟩⟩⟩, .P ⟨⟨⟨false,Dg.zero⟩,⟨false,Dg.zero⟩⟩,⟨⟨false,Dg.zero⟩,⟨false,Dg.zero⟩⟩⟩, .P ⟨⟨⟨false,Dg.zero⟩,⟨false,Dg.zero⟩⟩,⟨⟨false,Dg.zero⟩,⟨false,Dg.zero⟩⟩⟩, .P ⟨⟨⟨false,Dg.zero⟩,⟨false,Dg.zero⟩⟩,⟨⟨false,Dg.zero⟩,⟨false,Dg.zero⟩⟩⟩],[],some (4,51,132),none,none⟩
theorem aqO:fP Tryz.prog 117 ao8:= {}
def LV:TI:=⟨true,true,396, .g [.R ⟨⟨false,Dg.zero⟩,⟨false,Dg.zero⟩⟩, .R ⟨⟨false,Dg.zero⟩,⟨false,Dg.zero⟩⟩, .R ⟨⟨false,Dg.zero⟩,⟨false,Dg.zero⟩⟩, .R ⟨⟨false,Dg.zero⟩,⟨false,Dg.zero⟩⟩, .R ⟨⟨false,Dg.zero⟩,⟨false,Dg.zero⟩⟩, .R ⟨⟨false,Dg.zero⟩,⟨false,Dg.zero⟩⟩],[(0,66),(66,66),(132,66),(198,66),(264,66),(330,66)],none,none,none⟩
theorem Qo:fP Tryz.prog 48 LV:= { fields:= .inr ⟨Tryz.prog.fieldsOf 48,by kernel_rfl,by kernel_rfl⟩ }
def apF:TI:=⟨true,true,2, .g [.s (.lit .i64 0), .s (.lit .i64 0)],[(0,1),(1,1)],none,none,none⟩
theorem aqV:fP Tryz.prog 211 apF:= { fields:= .inr ⟨Tryz.prog.fieldsOf 211,by kernel_rfl,by kernel_rfl⟩ }
def apC:TI:=⟨true,true,1, .g [.s (.tt false)],[(0,1)],none,none,none⟩
theorem aqS:fP Tryz.prog 179 apC:= { fields:= .inr ⟨Tryz.prog.fieldsOf 179,by kernel_rfl,by kernel_rfl⟩ }
def apJ:TI:=⟨true,true,64, .g [.D Dg.zero, .D Dg.zero],[],some (64,41,1),none,none⟩
theorem aqZ:fP Tryz.prog 262 apJ:= {}
def apH:TI:=⟨true,true,264, .g [.P ⟨⟨⟨false,Dg.zero⟩,⟨false,Dg.zero⟩⟩,⟨⟨false,Dg.zero⟩,⟨false,Dg.zero⟩⟩⟩, .P ⟨⟨⟨false,Dg.zero⟩,⟨false,Dg.zero⟩⟩,⟨⟨false,Dg.zero⟩,⟨false,Dg.zero⟩⟩⟩],[(0,132),(132,132)],none,none,none⟩
theorem aqX:fP Tryz.prog 241 apH:= { fields:= .inr ⟨Tryz.prog.fieldsOf 241,by kernel_rfl,by kernel_rfl⟩ }
def apI:TI:=⟨true,true,264, .g [.P ⟨⟨⟨false,Dg.zero⟩,⟨false,Dg.zero⟩⟩,⟨⟨false,Dg.zero⟩,⟨false,Dg.zero⟩⟩⟩, .P ⟨⟨⟨false,Dg.zero⟩,⟨false,Dg.zero⟩⟩,⟨⟨false,Dg.zero⟩,⟨false,Dg.zero⟩⟩⟩],[(0,264)],none,none,none⟩
theorem aqY:fP Tryz.prog 243 apI:= { fields:= .inr ⟨Tryz.prog.fieldsOf 243,by kernel_rfl,by kernel_rfl⟩ }
def arI:TI:=⟨true,true,396, .g [.P ⟨⟨⟨false,Dg.zero⟩,⟨false,Dg.zero⟩⟩,⟨⟨false,Dg.zero⟩,⟨false,Dg.zero⟩⟩⟩, .P ⟨⟨⟨false,Dg.zero⟩,⟨false,Dg.zero⟩⟩,⟨⟨false,Dg.zero⟩,⟨false,Dg.zero⟩⟩⟩, .P ⟨⟨⟨false,Dg.zero⟩,⟨false,Dg.zero⟩⟩,⟨⟨false,Dg.zero⟩,⟨false,Dg.zero⟩⟩⟩],[],some (3,51,132),none,none⟩
theorem ar8:fP Tryz.prog 52 arI:= {}
def EP:TI:=⟨true,true,2, .g [.s (.lit .i64 0), .s (.lit .i64 0)],[],some (2,3,1),none,none⟩
theorem NP:fP Tryz.prog 167 EP:= {}
def arJ:TI:=⟨true,true,3, .g [.s (.lit .i64 0), .s (.lit .i64 0), .s (.lit .i64 0)],[],some (3,3,1),none,none⟩
theorem ar9:fP Tryz.prog 70 arJ:= {}
def apD:TI:=⟨true,true,264, .g [.P ⟨⟨⟨false,Dg.zero⟩,⟨false,Dg.zero⟩⟩,⟨⟨false,Dg.zero⟩,⟨false,Dg.zero⟩⟩⟩, .P ⟨⟨⟨false,Dg.zero⟩,⟨false,Dg.zero⟩⟩,⟨⟨false,Dg.zero⟩,⟨false,Dg.zero⟩⟩⟩],[(0,132),(132,132)],none,none,none⟩
theorem aqT:fP Tryz.prog 183 apD:= { fields:= .inr ⟨Tryz.prog.fieldsOf 183,by kernel_rfl,by kernel_rfl⟩ }
def apE:TI:=⟨false,true,265, .g [.P ⟨⟨⟨false,Dg.zero⟩,⟨false,Dg.zero⟩⟩,⟨⟨false,Dg.zero⟩,⟨false,Dg.zero⟩⟩⟩, .P ⟨⟨⟨false,Dg.zero⟩,⟨false,Dg.zero⟩⟩,⟨⟨false,Dg.zero⟩,⟨false,Dg.zero⟩⟩⟩, .s .nils],[(0,264),(264,1)],none,none,none⟩
theorem aqU:fP Tryz.prog 185 apE:= { fields:= .inr ⟨Tryz.prog.fieldsOf 185,by kernel_rfl,by kernel_rfl⟩ }
def arF:TI:=⟨false,true,3, .g [.s .nils, .s .nils, .s .nils],[(0,1),(1,1),(2,1)],none,none,none⟩
theorem ar5:fP Tryz.prog 26 arF:= { fields:= .inr ⟨Tryz.prog.fieldsOf 26,by kernel_rfl,by kernel_rfl⟩ }
def Pb:TI:=⟨true,true,399, .g [.s (.lit .i64 0), .s (.lit .i64 0), .s (.lit .i64 0), .R ⟨⟨false,Dg.zero⟩,⟨false,Dg.zero⟩⟩, .R ⟨⟨false,Dg.zero⟩,⟨false,Dg.zero⟩⟩, .R ⟨⟨false,Dg.zero⟩,⟨false,Dg.zero⟩⟩, .R ⟨⟨false,Dg.zero⟩,⟨false,Dg.zero⟩⟩, .R ⟨⟨false,Dg.zero⟩,⟨false,Dg.zero⟩⟩, .R ⟨⟨false,Dg.zero⟩,⟨false,Dg.zero⟩⟩],[(0,3),(3,396)],none,none,none⟩
theorem Qv:fP Tryz.prog 69 Pb:= { fields:= .inr ⟨Tryz.prog.fieldsOf 69,by kernel_rfl,by kernel_rfl⟩ }
def T9:TI:=⟨false,true,3, .g [.s .nils, .s .nils, .s .nils],[(0,1),(1,1),(2,1)],none,none,none⟩
theorem Up:fP Tryz.prog 57 T9:= { fields:= .inr ⟨Tryz.prog.fieldsOf 57,by kernel_rfl,by kernel_rfl⟩ }
def arK:TI:=⟨false,false,1, .s .nils,[],none,some (3,1, .int .i64),none⟩
theorem asA:fP Tryz.prog 83 arK:= {}
def ao7:TI:=⟨false,false,1, .s .nils,[],none,some (41,1, .int .u32),none⟩
theorem aqN:fP Tryz.prog 111 ao7:= {}
def Xl:TI:=⟨false,false,1, .s .nils,[],none,some (41,1, .int .u32),none⟩
theorem Yc:fP Tryz.prog 112 Xl:= {}
def adX:TI:=⟨false,false,1, .s .nils,[],none,some (46,66, .rt),none⟩
theorem aeO:fP Tryz.prog 127 adX:= {}
def T5:TI:=⟨false,false,1, .s .nils,[],none,some (51,132, .pt),none⟩
theorem Ug:fP Tryz.prog 24 T5:= {}
def LT:TI:=⟨false,false,1, .s .nils,[],none,some (37,3, .i3),none⟩
theorem Qh:fP Tryz.prog 27 LT:= {}
def O3:TI:=⟨false,false,1, .s .nils,[],none,some (135,3, .i3),none⟩
theorem Qf:fP Tryz.prog 23 O3:= {}
def O2:TI:=⟨false,false,1, .s .nils,[],none,some (120,3, .i3),none⟩
theorem Qe:fP Tryz.prog 22 O2:= {}
def Yw:TI:=⟨false,false,1, .s .nils,[],none,some (69,399,(.row [.int .i64, .int .i64, .int .i64, .P, .P, .P])),none⟩
theorem Y3:fP Tryz.prog 34 Yw:= {}
def arL:TI:=⟨false,false,1, .s .nils,[],none,some (48,396,(.row [.P, .P, .P])),none⟩
theorem asB:fP Tryz.prog 92 arL:= {}
def arG:TI:=⟨false,false,1, .s .nils,[],none,some (52,396,(.row [.P, .P, .P])),none⟩
theorem ar6:fP Tryz.prog 39 arG:= {}
def YA:TI:=⟨false,false,1, .s .nils,[],none,some (70,3, .i3),none⟩
theorem Y7:fP Tryz.prog 54 YA:= {}
def TX:TI:=⟨false,false,1, .s .nils,[],none,some (98,3, .i3),none⟩
theorem Uo:fP Tryz.prog 55 TX:= {}
def tT:Nat→Option TI
 | 3=>some Sb
 | 2=>some Sa
 | 5=>some Se
 | 41=>some alB
 | 147=>some adZ
 | 142=>some aj8
 | 21=>some O1
 | 4=>some Sd
 | 9=>some Sf
 | 136=>some apB
 | 37=>some T7
 | 135=>some apA
 | 120=>some ao9
 | 98=>some arM
 | 44=>some TW
 | 46=>some O7
 | 51=>some arH
 | 42=>some TV
 | 237=>some apG
 | 117=>some ao8
 | 48=>some LV
 | 211=>some apF
 | 179=>some apC
 | 262=>some apJ
 | 241=>some apH
 | 243=>some apI
 | 52=>some arI
 | 167=>some EP
 | 70=>some arJ
 | 183=>some apD
 | 185=>some apE
 | 26=>some arF
 | 69=>some Pb
 | 57=>some T9
 | 83=>some arK
 | 111=>some ao7
 | 112=>some Xl
 | 127=>some adX
 | 24=>some T5
 | 27=>some LT
 | 23=>some O3
 | 22=>some O2
 | 34=>some Yw
 | 92=>some arL
 | 39=>some arG
 | 54=>some YA
 | 55=>some TX
 | _=>none
theorem tok:TOK Tryz.prog tT:=fun t i h=>by
 unfold tT at h
 split at h
 ·cases h;exact ST
 ·cases h;exact SS
 ·cases h;exact SZ
 ·cases h;exact alS
 ·cases h;exact aeQ
 ·cases h;exact akX
 ·cases h;exact Qd
 ·cases h;exact SY
 ·cases h;exact S0
 ·cases h;exact aqR
 ·cases h;exact Uj
 ·cases h;exact aqQ
 ·cases h;exact aqP
 ·cases h;exact asC
 ·cases h;exact Un
 ·cases h;exact Qn
 ·cases h;exact ar7
 ·cases h;exact Um
 ·cases h;exact aqW
 ·cases h;exact aqO
 ·cases h;exact Qo
 ·cases h;exact aqV
 ·cases h;exact aqS
 ·cases h;exact aqZ
 ·cases h;exact aqX
 ·cases h;exact aqY
 ·cases h;exact ar8
 ·cases h;exact NP
 ·cases h;exact ar9
 ·cases h;exact aqT
 ·cases h;exact aqU
 ·cases h;exact ar5
 ·cases h;exact Qv
 ·cases h;exact Up
 ·cases h;exact asA
 ·cases h;exact aqN
 ·cases h;exact Yc
 ·cases h;exact aeO
 ·cases h;exact Ug
 ·cases h;exact Qh
 ·cases h;exact Qf
 ·cases h;exact Qe
 ·cases h;exact Y3
 ·cases h;exact asB
 ·cases h;exact ar6
 ·cases h;exact Y7
 ·cases h;exact Uo
 ·cases h
theorem aL:Tryz.prog.follows .mixedOrders=true:=by kernel_rfl
end Go.Eng
