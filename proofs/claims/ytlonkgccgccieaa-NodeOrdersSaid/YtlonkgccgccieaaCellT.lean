
import Derived.Test.YtlonkgccgccieaaEngMW
import Derived.Test.YtlonkgccgccieaaProg
set_option linter.all false
set_option exponentiation.threshold 3000
set_option maxRecDepth 100000
namespace Go.Eng
open Go.Proofs
def Sb:TI:=⟨true,false,1, .s (.lit .i64 0),[],none,none,some (.int .i64)⟩
theorem ST:fP Try.prog 3 Sb:= {}
def Sa:TI:=⟨true,false,1, .s (.lit .i64 0),[],none,none,some (.int .i64)⟩
theorem SS:fP Try.prog 2 Sa:= {}
def Se:TI:=⟨true,false,1, .s (.lit .u8 0),[],none,none,some (.int .u8)⟩
theorem SZ:fP Try.prog 5 Se:= {}
def alB:TI:=⟨true,false,1, .s (.lit .u16 0),[],none,none,some (.int .u16)⟩
theorem alS:fP Try.prog 41 alB:= {}
def T9:TI:=⟨true,false,1, .s (.lit .u32 0),[],none,none,some (.int .u32)⟩
theorem Up:fP Try.prog 57 T9:= {}
def EL:TI:=⟨true,false,1, .s (.lit .u64 0),[],none,none,some (.int .u64)⟩
theorem NG:fP Try.prog 113 EL:= {}
def TN:TI:=⟨true,false,1, .s (.lit .u64 0),[],none,none,some (.int .u64)⟩
theorem T3:fP Try.prog 114 TN:= {}
def O1:TI:=⟨true,false,1, .s (.lit .i32 0),[],none,none,some (.int .i32)⟩
theorem Qd:fP Try.prog 21 O1:= {}
def Sd:TI:=⟨true,false,1, .s (.tt false),[],none,none,some .bool⟩
theorem SY:fP Try.prog 4 Sd:= {}
def Sf:TI:=⟨false,false,1, .s (.str ByteArray.empty),[],none,none,some .str⟩
theorem S0:fP Try.prog 9 Sf:= {}
def Xo:TI:=⟨false,false,1, .s .nilf,[],none,none,none⟩
theorem Yf:fP Try.prog 146 Xo:= {}
def T5:TI:=⟨true,true,3, .g [.s (.lit .i64 0), .s (.lit .i64 0), .s (.lit .i64 0)],[(0,1),(1,1),(2,1)],none,none,none⟩
theorem Ug:fP Try.prog 24 T5:= { fields:= .inr ⟨Try.prog.fieldsOf 24,by kernel_rfl,by kernel_rfl⟩ }
def Ua:TI:=⟨true,true,33, .g [.W ⟨false,Dg.zero⟩],[(0,1),(1,32)],none,none,none⟩
theorem Uq:fP Try.prog 60 Ua:= { fields:= .inr ⟨Try.prog.fieldsOf 60,by kernel_rfl,by kernel_rfl⟩ }
def LZ:TI:=⟨true,true,66, .g [.R ⟨⟨false,Dg.zero⟩,⟨false,Dg.zero⟩⟩],[(0,33),(33,33)],none,none,none⟩
theorem Qt:fP Try.prog 62 LZ:= { fields:= .inr ⟨Try.prog.fieldsOf 62,by kernel_rfl,by kernel_rfl⟩ }
def Pa:TI:=⟨true,true,132, .g [.P ⟨⟨⟨false,Dg.zero⟩,⟨false,Dg.zero⟩⟩,⟨⟨false,Dg.zero⟩,⟨false,Dg.zero⟩⟩⟩],[(0,66),(66,66)],none,none,none⟩
theorem Qu:fP Try.prog 64 Pa:= { fields:= .inr ⟨Try.prog.fieldsOf 64,by kernel_rfl,by kernel_rfl⟩ }
def LY:TI:=⟨true,true,32, .g [.D Dg.zero],[],some (32,57,1),none,none⟩
theorem Qr:fP Try.prog 58 LY:= {}
def akB:TI:=⟨true,true,32, .g [.D Dg.zero],[],some (32,57,1),none,none⟩
theorem ak0:fP Try.prog 201 akB:= {}
def Ue:TI:=⟨true,true,12, .g [.s (.lit .i64 0), .s (.lit .i64 0), .s (.lit .i64 0), .s (.lit .i64 0), .s (.lit .i64 0), .s (.lit .i64 0), .s (.lit .i64 0), .s (.lit .i64 0), .s (.lit .i64 0), .s (.lit .i64 0), .s (.lit .i64 0), .s (.lit .i64 0)],[],some (4,24,3),none,none⟩
theorem Uw:fP Try.prog 86 Ue:= {}
def aj8:TI:=⟨true,true,528, .g [.P ⟨⟨⟨false,Dg.zero⟩,⟨false,Dg.zero⟩⟩,⟨⟨false,Dg.zero⟩,⟨false,Dg.zero⟩⟩⟩, .P ⟨⟨⟨false,Dg.zero⟩,⟨false,Dg.zero⟩⟩,⟨⟨false,Dg.zero⟩,⟨false,Dg.zero⟩⟩⟩, .P ⟨⟨⟨false,Dg.zero⟩,⟨false,Dg.zero⟩⟩,⟨⟨false,Dg.zero⟩,⟨false,Dg.zero⟩⟩⟩, .P ⟨⟨⟨false,Dg.zero⟩,⟨false,Dg.zero⟩⟩,⟨⟨false,Dg.zero⟩,⟨false,Dg.zero⟩⟩⟩],[],some (4,64,132),none,none⟩
theorem akX:fP Try.prog 142 aj8:= {}
def Ij:TI:=⟨true,true,2, .g [.s (.lit .i64 0), .s (.lit .i64 0)],[(0,1),(1,1)],none,none,none⟩
theorem NJ:fP Try.prog 122 Ij:= { fields:= .inr ⟨Try.prog.fieldsOf 122,by kernel_rfl,by kernel_rfl⟩ }
def EN:TI:=⟨true,true,2, .g [.s (.lit .i64 0), .s (.lit .i64 0)],[(0,2)],none,none,none⟩
theorem NK:fP Try.prog 124 EN:= { fields:= .inr ⟨Try.prog.fieldsOf 124,by kernel_rfl,by kernel_rfl⟩ }
def aj7:TI:=⟨true,true,4, .g [.s (.lit .i64 0), .s (.lit .i64 0), .s (.lit .i64 0), .s (.lit .i64 0)],[(0,2),(2,2)],none,none,none⟩
theorem akW:fP Try.prog 126 aj7:= { fields:= .inr ⟨Try.prog.fieldsOf 126,by kernel_rfl,by kernel_rfl⟩ }
def Pc:TI:=⟨true,true,396, .g [.R ⟨⟨false,Dg.zero⟩,⟨false,Dg.zero⟩⟩, .R ⟨⟨false,Dg.zero⟩,⟨false,Dg.zero⟩⟩, .R ⟨⟨false,Dg.zero⟩,⟨false,Dg.zero⟩⟩, .R ⟨⟨false,Dg.zero⟩,⟨false,Dg.zero⟩⟩, .R ⟨⟨false,Dg.zero⟩,⟨false,Dg.zero⟩⟩, .R ⟨⟨false,Dg.zero⟩,⟨false,Dg.zero⟩⟩],[(0,66),(66,66),(132,66),(198,66),(264,66),(330,66)],none,none,none⟩
theorem Qw:fP Try.prog 71 Pc:= { fields:= .inr ⟨Try.prog.fieldsOf 71,by kernel_rfl,by kernel_rfl⟩ }
def akA:TI:=⟨true,true,2, .g [.s (.lit .i64 0), .s (.lit .i64 0)],[(0,1),(1,1)],none,none,none⟩
theorem akZ:fP Try.prog 178 akA:= { fields:= .inr ⟨Try.prog.fieldsOf 178,by kernel_rfl,by kernel_rfl⟩ }
def akC:TI:=⟨true,true,64, .g [.D Dg.zero, .D Dg.zero],[],some (64,57,1),none,none⟩
theorem ak1:fP Try.prog 209 akC:= {}
def alC:TI:=⟨true,true,4, .g [.s (.tt false), .s (.tt false), .s (.tt false), .s (.tt false)],[],some (4,4,1),none,none⟩
theorem alT:fP Try.prog 43 alC:= {}
def ae4:TI:=⟨true,true,2, .g [.s (.lit .i64 0), .s (.lit .i64 0)],[],some (2,3,1),none,none⟩
theorem afQ:fP Try.prog 95 ae4:= {}
def ae2:TI:=⟨true,true,399, .g [.s (.lit .i64 0), .s (.lit .i64 0), .s (.lit .i64 0), .R ⟨⟨false,Dg.zero⟩,⟨false,Dg.zero⟩⟩, .R ⟨⟨false,Dg.zero⟩,⟨false,Dg.zero⟩⟩, .R ⟨⟨false,Dg.zero⟩,⟨false,Dg.zero⟩⟩, .R ⟨⟨false,Dg.zero⟩,⟨false,Dg.zero⟩⟩, .R ⟨⟨false,Dg.zero⟩,⟨false,Dg.zero⟩⟩, .R ⟨⟨false,Dg.zero⟩,⟨false,Dg.zero⟩⟩],[(0,3),(3,396)],none,none,none⟩
theorem afO:fP Try.prog 73 ae2:= { fields:= .inr ⟨Try.prog.fieldsOf 73,by kernel_rfl,by kernel_rfl⟩ }
def aj9:TI:=⟨false,false,1, .s .nils,[],none,some (3,1, .int .i64),none⟩
theorem akY:fP Try.prog 145 aj9:= {}
def TM:TI:=⟨false,false,1, .s .nils,[],none,some (57,1, .int .u32),none⟩
theorem T2:fP Try.prog 109 TM:= {}
def EK:TI:=⟨false,false,1, .s .nils,[],none,some (57,1, .int .u32),none⟩
theorem NF:fP Try.prog 110 EK:= {}
def Xv:TI:=⟨false,false,1, .s .nils,[],none,some (62,66, .rt),none⟩
theorem Ym:fP Try.prog 199 Xv:= {}
def alD:TI:=⟨false,false,1, .s .nils,[],none,some (64,132, .pt),none⟩
theorem alU:fP Try.prog 53 alD:= {}
def O2:TI:=⟨false,false,1, .s .nils,[],none,some (24,3, .i3),none⟩
theorem Qe:fP Try.prog 22 O2:= {}
def alE:TI:=⟨false,false,1, .s .nils,[],none,some (73,399,(.row [.int .i64, .int .i64, .int .i64, .P, .P, .P])),none⟩
theorem alV:fP Try.prog 68 alE:= {}
def alF:TI:=⟨false,false,1, .s .nils,[],none,some (95,2,(.row [.int .i64, .int .i64])),none⟩
theorem alW:fP Try.prog 93 alF:= {}
def TU:TI:=⟨false,false,1, .s .nils,[],none,some (41,1, .int .u16),none⟩
theorem Ul:fP Try.prog 40 TU:= {}
def tT:Nat→Option TI
 | 3=>some Sb
 | 2=>some Sa
 | 5=>some Se
 | 41=>some alB
 | 57=>some T9
 | 113=>some EL
 | 114=>some TN
 | 21=>some O1
 | 4=>some Sd
 | 9=>some Sf
 | 146=>some Xo
 | 24=>some T5
 | 60=>some Ua
 | 62=>some LZ
 | 64=>some Pa
 | 58=>some LY
 | 201=>some akB
 | 86=>some Ue
 | 142=>some aj8
 | 122=>some Ij
 | 124=>some EN
 | 126=>some aj7
 | 71=>some Pc
 | 178=>some akA
 | 209=>some akC
 | 43=>some alC
 | 95=>some ae4
 | 73=>some ae2
 | 145=>some aj9
 | 109=>some TM
 | 110=>some EK
 | 199=>some Xv
 | 53=>some alD
 | 22=>some O2
 | 68=>some alE
 | 93=>some alF
 | 40=>some TU
 | _=>none
theorem tok:TOK Try.prog tT:=fun t i h=>by
 unfold tT at h
 split at h
 ·cases h;exact ST
 ·cases h;exact SS
 ·cases h;exact SZ
 ·cases h;exact alS
 ·cases h;exact Up
 ·cases h;exact NG
 ·cases h;exact T3
 ·cases h;exact Qd
 ·cases h;exact SY
 ·cases h;exact S0
 ·cases h;exact Yf
 ·cases h;exact Ug
 ·cases h;exact Uq
 ·cases h;exact Qt
 ·cases h;exact Qu
 ·cases h;exact Qr
 ·cases h;exact ak0
 ·cases h;exact Uw
 ·cases h;exact akX
 ·cases h;exact NJ
 ·cases h;exact NK
 ·cases h;exact akW
 ·cases h;exact Qw
 ·cases h;exact akZ
 ·cases h;exact ak1
 ·cases h;exact alT
 ·cases h;exact afQ
 ·cases h;exact afO
 ·cases h;exact akY
 ·cases h;exact T2
 ·cases h;exact NF
 ·cases h;exact Ym
 ·cases h;exact alU
 ·cases h;exact Qe
 ·cases h;exact alV
 ·cases h;exact alW
 ·cases h;exact Ul
 ·cases h
theorem aL:Try.prog.follows .mixedOrders=true:=by kernel_rfl
end Go.Eng
