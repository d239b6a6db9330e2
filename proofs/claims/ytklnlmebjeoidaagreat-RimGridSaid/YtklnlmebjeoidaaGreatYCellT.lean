
import Derived.Test.YtklnlmebjeoidaaGreatEngMW
import Derived.Test.YtklnlmebjeoidaaGreatProg
set_option linter.all false
set_option exponentiation.threshold 3000
set_option maxRecDepth 100000
namespace Go.Eng
open Go.Proofs
def Sb:TI:=⟨true,false,1, .s (.lit .i64 0),[],none,none,some (.int .i64)⟩
theorem ST:fP Tryz.prog 3 Sb:= {}
def Sa:TI:=⟨true,false,1, .s (.lit .i64 0),[],none,none,some (.int .i64)⟩
theorem SS:fP Tryz.prog 2 Sa:= {}
def Se:TI:=⟨true,false,1, .s (.lit .u8 0),[],none,none,some (.int .u8)⟩
theorem SZ:fP Tryz.prog 5 Se:= {}
def O2:TI:=⟨true,false,1, .s (.lit .u32 0),[],none,none,some (.int .u32)⟩
theorem Qe:fP Tryz.prog 22 O2:= {}
def L0:TI:=⟨true,false,1, .s (.lit .u64 0),[],none,none,some (.int .u64)⟩
theorem Qy:fP Tryz.prog 77 L0:= {}
def ae3:TI:=⟨true,false,1, .s (.lit .u64 0),[],none,none,some (.int .u64)⟩
theorem afP:fP Tryz.prog 79 ae3:= {}
def O1:TI:=⟨true,false,1, .s (.lit .i32 0),[],none,none,some (.int .i32)⟩
theorem Qd:fP Tryz.prog 21 O1:= {}
def Sd:TI:=⟨true,false,1, .s (.tt false),[],none,none,some .bool⟩
theorem SY:fP Tryz.prog 4 Sd:= {}
def Sf:TI:=⟨false,false,1, .s (.str ByteArray.empty),[],none,none,some .str⟩
theorem S0:fP Tryz.prog 9 Sf:= {}
def LS:TI:=⟨true,true,33, .g [.W ⟨false,Dg.zero⟩],[(0,1),(1,32)],none,none,none⟩
theorem Qg:fP Tryz.prog 25 LS:= { fields:= .inr ⟨Tryz.prog.fieldsOf 25,by kernel_rfl,by kernel_rfl⟩ }
def LT:TI:=⟨true,true,66, .g [.R ⟨⟨false,Dg.zero⟩,⟨false,Dg.zero⟩⟩],[(0,33),(33,33)],none,none,none⟩
theorem Qh:fP Tryz.prog 27 LT:= { fields:= .inr ⟨Tryz.prog.fieldsOf 27,by kernel_rfl,by kernel_rfl⟩ }
def TT:TI:=⟨true,true,132, .g [.P ⟨⟨⟨false,Dg.zero⟩,⟨false,Dg.zero⟩⟩,⟨⟨false,Dg.zero⟩,⟨false,Dg.zero⟩⟩⟩],[(0,66),(66,66)],none,none,none⟩
theorem Uh:fP Tryz.prog 32 TT:= { fields:= .inr ⟨Tryz.prog.fieldsOf 32,by kernel_rfl,by kernel_rfl⟩ }
def O3:TI:=⟨true,true,32, .g [.D Dg.zero],[],some (32,22,1),none,none⟩
theorem Qf:fP Tryz.prog 23 O3:= {}
def adX:TI:=⟨true,true,32, .g [.D Dg.zero],[],some (32,22,1),none,none⟩
theorem aeO:fP Tryz.prog 127 adX:= {}
def ae2:TI:=⟨true,true,528, .g [.P ⟨⟨⟨false,Dg.zero⟩,⟨false,Dg.zero⟩⟩,⟨⟨false,Dg.zero⟩,⟨false,Dg.zero⟩⟩⟩, .P ⟨⟨⟨false,Dg.zero⟩,⟨false,Dg.zero⟩⟩,⟨⟨false,Dg.zero⟩,⟨false,Dg.zero⟩⟩⟩, .P ⟨⟨⟨false,Dg.zero⟩,⟨false,Dg.zero⟩⟩,⟨⟨false,Dg.zero⟩,⟨false,Dg.zero⟩⟩⟩, .P ⟨⟨⟨false,Dg.zero⟩,⟨false,Dg.zero⟩⟩,⟨⟨false,Dg.zero⟩,⟨false,Dg.zero⟩⟩⟩],[],some (4,32,132),none,none⟩
theorem afO:fP Tryz.prog 73 ae2:= {}
def LU:TI:=⟨true,true,396, .g [.R ⟨⟨false,Dg.zero⟩,⟨false,Dg.zero⟩⟩, .R ⟨⟨false,Dg.zero⟩,⟨false,Dg.zero⟩⟩, .R ⟨⟨false,Dg.zero⟩,⟨false,Dg.zero⟩⟩, .R ⟨⟨false,Dg.zero⟩,⟨false,Dg.zero⟩⟩, .R ⟨⟨false,Dg.zero⟩,⟨false,Dg.zero⟩⟩, .R ⟨⟨false,Dg.zero⟩,⟨false,Dg.zero⟩⟩],[(0,66),(66,66),(132,66),(198,66),(264,66),(330,66)],none,none,none⟩
theorem Qi:fP Tryz.prog 29 LU:= { fields:= .inr ⟨Tryz.prog.fieldsOf 29,by kernel_rfl,by kernel_rfl⟩ }
def Ii:TI:=⟨true,true,2, .g [.s (.lit .i64 0), .s (.lit .i64 0)],[(0,1),(1,1)],none,none,none⟩
theorem NI:fP Tryz.prog 116 Ii:= { fields:= .inr ⟨Tryz.prog.fieldsOf 116,by kernel_rfl,by kernel_rfl⟩ }
def Il:TI:=⟨true,true,1, .g [.s (.tt false)],[(0,1)],none,none,none⟩
theorem NN:fP Tryz.prog 140 Il:= { fields:= .inr ⟨Tryz.prog.fieldsOf 140,by kernel_rfl,by kernel_rfl⟩ }
def adZ:TI:=⟨true,true,64, .g [.D Dg.zero, .D Dg.zero],[],some (64,22,1),none,none⟩
theorem aeQ:fP Tryz.prog 147 adZ:= {}
def ae4:TI:=⟨true,true,264, .g [.P ⟨⟨⟨false,Dg.zero⟩,⟨false,Dg.zero⟩⟩,⟨⟨false,Dg.zero⟩,⟨false,Dg.zero⟩⟩⟩, .P ⟨⟨⟨false,Dg.zero⟩,⟨false,Dg.zero⟩⟩,⟨⟨false,Dg.zero⟩,⟨false,Dg.zero⟩⟩⟩],[(0,132),(132,132)],none,none,none⟩
theorem afQ:fP Tryz.prog 95 ae4:= { fields:= .inr ⟨Tryz.prog.fieldsOf 95,by kernel_rfl,by kernel_rfl⟩ }
def ae5:TI:=⟨true,true,264, .g [.P ⟨⟨⟨false,Dg.zero⟩,⟨false,Dg.zero⟩⟩,⟨⟨false,Dg.zero⟩,⟨false,Dg.zero⟩⟩⟩, .P ⟨⟨⟨false,Dg.zero⟩,⟨false,Dg.zero⟩⟩,⟨⟨false,Dg.zero⟩,⟨false,Dg.zero⟩⟩⟩],[(0,264)],none,none,none⟩
theorem afR:fP Tryz.prog 97 ae5:= { fields:= .inr ⟨Tryz.prog.fieldsOf 97,by kernel_rfl,by kernel_rfl⟩ }
def YA:TI:=⟨true,true,396, .g [.R ⟨⟨false,Dg.zero⟩,⟨false,Dg.zero⟩⟩, .R ⟨⟨false,Dg.zero⟩,⟨false,Dg.zero⟩⟩, .R ⟨⟨false,Dg.zero⟩,⟨false,Dg.zero⟩⟩, .R ⟨⟨false,Dg.zero⟩,⟨false,Dg.zero⟩⟩, .R ⟨⟨false,Dg.zero⟩,⟨false,Dg.zero⟩⟩, .R ⟨⟨false,Dg.zero⟩,⟨false,Dg.zero⟩⟩],[],some (6,27,66),none,none⟩
theorem Y7:fP Tryz.prog 54 YA:= {}
def LY:TI:=⟨true,true,264, .g [.P ⟨⟨⟨false,Dg.zero⟩,⟨false,Dg.zero⟩⟩,⟨⟨false,Dg.zero⟩,⟨false,Dg.zero⟩⟩⟩, .P ⟨⟨⟨false,Dg.zero⟩,⟨false,Dg.zero⟩⟩,⟨⟨false,Dg.zero⟩,⟨false,Dg.zero⟩⟩⟩],[(0,132),(132,132)],none,none,none⟩
theorem Qr:fP Tryz.prog 58 LY:= { fields:= .inr ⟨Tryz.prog.fieldsOf 58,by kernel_rfl,by kernel_rfl⟩ }
def Ua:TI:=⟨false,true,265, .g [.P ⟨⟨⟨false,Dg.zero⟩,⟨false,Dg.zero⟩⟩,⟨⟨false,Dg.zero⟩,⟨false,Dg.zero⟩⟩⟩, .P ⟨⟨⟨false,Dg.zero⟩,⟨false,Dg.zero⟩⟩,⟨⟨false,Dg.zero⟩,⟨false,Dg.zero⟩⟩⟩, .s .nils],[(0,264),(264,1)],none,none,none⟩
theorem Uq:fP Tryz.prog 60 Ua:= { fields:= .inr ⟨Tryz.prog.fieldsOf 60,by kernel_rfl,by kernel_rfl⟩ }
def TZ:TI:=⟨false,false,1, .s .nils,[],none,some (22,1, .int .u32),none⟩
theorem Us:fP Tryz.prog 80 TZ:= {}
def Ub:TI:=⟨false,false,1, .s .nils,[],none,some (22,1, .int .u32),none⟩
theorem Ut:fP Tryz.prog 81 Ub:= {}
def adY:TI:=⟨false,false,1, .s .nils,[],none,some (27,66, .rt),none⟩
theorem aeP:fP Tryz.prog 137 adY:= {}
def O4:TI:=⟨false,false,1, .s .nils,[],none,some (32,132, .pt),none⟩
theorem Qj:fP Tryz.prog 30 O4:= {}
def tT:Nat→Option TI
 | 3=>some Sb
 | 2=>some Sa
 | 5=>some Se
 | 22=>some O2
 | 77=>some L0
 | 79=>some ae3
 | 21=>some O1
 | 4=>some Sd
 | 9=>some Sf
 | 25=>some LS
 | 27=>some LT
 | 32=>some TT
 | 23=>some O3
 | 127=>some adX
 | 73=>some ae2
 | 29=>some LU
 | 116=>some Ii
 | 140=>some Il
 | 147=>some adZ
 | 95=>some ae4
 | 97=>some ae5
 | 54=>some YA
 | 58=>some LY
 | 60=>some Ua
 | 80=>some TZ
 | 81=>some Ub
 | 137=>some adY
 | 30=>some O4
 | _=>none
theorem tok:TOK Tryz.prog tT:=fun t i h=>by
 unfold tT at h
 split at h
 ·cases h;exact ST
 ·cases h;exact SS
 ·cases h;exact SZ
 ·cases h;exact Qe
 ·cases h;exact Qy
 ·cases h;exact afP
 ·cases h;exact Qd
 ·cases h;exact SY
 ·cases h;exact S0
 ·cases h;exact Qg
 ·cases h;exact Qh
 ·cases h;exact Uh
 ·cases h;exact Qf
 ·cases h;exact aeO
 ·cases h;exact afO
 ·cases h;exact Qi
 ·cases h;exact NI
 ·cases h;exact NN
 ·cases h;exact aeQ
 ·cases h;exact afQ
 ·cases h;exact afR
 ·cases h;exact Y7
 ·cases h;exact Qr
 ·cases h;exact Uq
 ·cases h;exact Us
 ·cases h;exact Ut
 ·cases h;exact aeP
 ·cases h;exact Qj
 ·cases h
theorem aL:Tryz.prog.follows .mixedOrders=true:=by kernel_rfl
end Go.Eng
