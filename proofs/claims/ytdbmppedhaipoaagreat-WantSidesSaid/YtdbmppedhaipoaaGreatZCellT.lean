
import Derived.Test.YtdbmppedhaipoaaGreatEngMW
import Derived.Test.YtdbmppedhaipoaaGreatProg
set_option linter.all false
set_option exponentiation.threshold 3000
set_option maxRecDepth 100000
namespace Go.Eng
open Go.Proofs
def Ue:TI:=⟨true,false,1, .s (.lit .i64 0),[],none,none,some (.int .i64)⟩
theorem Uw:fP Tryz.prog 86 Ue:= {}
def Sb:TI:=⟨true,false,1, .s (.lit .i64 0),[],none,none,some (.int .i64)⟩
theorem ST:fP Tryz.prog 3 Sb:= {}
def Sa:TI:=⟨true,false,1, .s (.lit .i64 0),[],none,none,some (.int .i64)⟩
theorem SS:fP Tryz.prog 2 Sa:= {}
def Se:TI:=⟨true,false,1, .s (.lit .u8 0),[],none,none,some (.int .u8)⟩
theorem SZ:fP Tryz.prog 5 Se:= {}
def Yz:TI:=⟨true,false,1, .s (.lit .i8 0),[],none,none,some (.int .i8)⟩
theorem Y6:fP Tryz.prog 49 Yz:= {}
def T5:TI:=⟨true,false,1, .s (.lit .u32 0),[],none,none,some (.int .u32)⟩
theorem Ug:fP Tryz.prog 24 T5:= {}
def Ik:TI:=⟨true,false,1, .s (.lit .u64 0),[],none,none,some (.int .u64)⟩
theorem NM:fP Tryz.prog 139 Ik:= {}
def O9:TI:=⟨true,false,1, .s (.lit .u64 0),[],none,none,some (.int .u64)⟩
theorem Qs:fP Tryz.prog 59 O9:= {}
def O1:TI:=⟨true,false,1, .s (.lit .i32 0),[],none,none,some (.int .i32)⟩
theorem Qd:fP Tryz.prog 21 O1:= {}
def Sd:TI:=⟨true,false,1, .s (.tt false),[],none,none,some .bool⟩
theorem SY:fP Tryz.prog 4 Sd:= {}
def Sf:TI:=⟨false,false,1, .s (.str ByteArray.empty),[],none,none,some .str⟩
theorem S0:fP Tryz.prog 9 Sf:= {}
def TZ:TI:=⟨false,false,1, .s .nilf,[],none,none,none⟩
theorem Us:fP Tryz.prog 80 TZ:= {}
def O3:TI:=⟨true,true,3, .g [.s (.lit .i64 0), .s (.lit .i64 0), .s (.lit .i64 0)],[(0,1),(1,1),(2,1)],none,none,none⟩
theorem Qf:fP Tryz.prog 23 O3:= { fields:= .inr ⟨Tryz.prog.fieldsOf 23,by kernel_rfl,by kernel_rfl⟩ }
def TY:TI:=⟨true,true,3, .g [.s (.lit .i64 0), .s (.lit .i64 0), .s (.lit .i64 0)],[(0,1),(1,1),(2,1)],none,none,none⟩
theorem Ur:fP Tryz.prog 78 TY:= { fields:= .inr ⟨Tryz.prog.fieldsOf 78,by kernel_rfl,by kernel_rfl⟩ }
def YE:TI:=⟨true,true,3, .g [.s (.lit .i64 0), .s (.lit .i64 0), .s (.lit .i64 0)],[(0,1),(1,1),(2,1)],none,none,none⟩
theorem Zb:fP Tryz.prog 72 YE:= { fields:= .inr ⟨Tryz.prog.fieldsOf 72,by kernel_rfl,by kernel_rfl⟩ }
def Uc:TI:=⟨true,true,3, .g [.s (.lit .i64 0), .s (.lit .i64 0), .s (.lit .i64 0)],[(0,1),(1,1),(2,1)],none,none,none⟩
theorem Uu:fP Tryz.prog 84 Uc:= { fields:= .inr ⟨Tryz.prog.fieldsOf 84,by kernel_rfl,by kernel_rfl⟩ }
def LT:TI:=⟨true,true,33, .g [.W ⟨false,Dg.zero⟩],[(0,1),(1,32)],none,none,none⟩
theorem Qh:fP Tryz.prog 27 LT:= { fields:= .inr ⟨Tryz.prog.fieldsOf 27,by kernel_rfl,by kernel_rfl⟩ }
def LU:TI:=⟨true,true,66, .g [.R ⟨⟨false,Dg.zero⟩,⟨false,Dg.zero⟩⟩],[(0,33),(33,33)],none,none,none⟩
theorem Qi:fP Tryz.prog 29 LU:= { fields:= .inr ⟨Tryz.prog.fieldsOf 29,by kernel_rfl,by kernel_rfl⟩ }
def O5:TI:=⟨true,true,132, .g [.P ⟨⟨⟨false,Dg.zero⟩,⟨false,Dg.zero⟩⟩,⟨⟨false,Dg.zero⟩,⟨false,Dg.zero⟩⟩⟩],[(0,66),(66,66)],none,none,none⟩
theorem Ql:fP Tryz.prog 31 O5:= { fields:= .inr ⟨Tryz.prog.fieldsOf 31,by kernel_rfl,by kernel_rfl⟩ }
def LS:TI:=⟨true,true,32, .g [.D Dg.zero],[],some (32,24,1),none,none⟩
theorem Qg:fP Tryz.prog 25 LS:= {}
def Xu:TI:=⟨true,true,32, .g [.D Dg.zero],[],some (32,24,1),none,none⟩
theorem Yl:fP Tryz.prog 194 Xu:= {}
def Yy:TI:=⟨true,true,12, .g [.s (.lit .i64 0), .s (.lit .i64 0), .s (.lit .i64 0), .s (.lit .i64 0), .s (.lit .i64 0), .s (.lit .i64 0), .s (.lit .i64 0), .s (.lit .i64 0), .s (.lit .i64 0), .s (.lit .i64 0), .s (.lit .i64 0), .s (.lit .i64 0)],[],some (4,23,3),none,none⟩
theorem Y5:fP Tryz.prog 47 Yy:= {}
def YD:TI:=⟨true,true,528, .g [.P ⟨⟨⟨false,Dg.zero⟩,⟨false,Dg.zero⟩⟩,⟨⟨false,Dg.zero⟩,⟨false,Dg.zero⟩⟩⟩, .P ⟨⟨⟨false,Dg.zero⟩,⟨false,Dg.zero⟩⟩,⟨⟨false,Dg.zero⟩,⟨false,Dg.zero⟩⟩⟩, .P ⟨⟨⟨false,Dg.zero⟩,⟨false,Dg.zero⟩⟩,⟨⟨false,Dg.zero⟩,⟨false,Dg.zero⟩⟩⟩, .P ⟨⟨⟨false,Dg.zero⟩,⟨false,Dg.zero⟩⟩,⟨⟨false,Dg.zero⟩,⟨false,Dg.zero⟩⟩⟩],[],some (4,31,132),none,none⟩
theorem Za:fP Tryz.prog 66 YD:= {}
def Xl:TI:=⟨true,true,2, .g [.s (.lit .i64 0), .s (.lit .i64 0)],[(0,1),(1,1)],none,none,none⟩
theorem Yc:fP Tryz.prog 112 Xl:= { fields:= .inr ⟨Tryz.prog.fieldsOf 112,by kernel_rfl,by kernel_rfl⟩ }
def TN:TI:=⟨true,true,2, .g [.s (.lit .i64 0), .s (.lit .i64 0)],[(0,2)],none,none,none⟩
theorem T3:fP Tryz.prog 114 TN:= { fields:= .inr ⟨Tryz.prog.fieldsOf 114,by kernel_rfl,by kernel_rfl⟩ }
def Ii:TI:=⟨true,true,4, .g [.s (.lit .i64 0), .s (.lit .i64 0), .s (.lit .i64 0), .s (.lit .i64 0)],[(0,2),(2,2)],none,none,none⟩
theorem NI:fP Tryz.prog 116 Ii:= { fields:= .inr ⟨Tryz.prog.fieldsOf 116,by kernel_rfl,by kernel_rfl⟩ }
def Xp:TI:=⟨true,true,2, .g [.s (.lit .i64 0), .s (.lit .i64 0)],[(0,1),(1,1)],none,none,none⟩
theorem Yg:fP Tryz.prog 151 Xp:= { fields:= .inr ⟨Tryz.prog.fieldsOf 151,by kernel_rfl,by kernel_rfl⟩ }
def Xt:TI:=⟨true,true,1, .g [.s (.tt false)],[(0,1)],none,none,none⟩
theorem Yk:fP Tryz.prog 181 Xt:= { fields:= .inr ⟨Tryz.prog.fieldsOf 181,by kernel_rfl,by kernel_rfl⟩ }
def Xv:TI:=⟨true,true,64, .g [.D Dg.zero, .D Dg.zero],[],some (64,24,1),none,none⟩
theorem Ym:fP Tryz.prog 199 Xv:= {}
def Xq:TI:=⟨true,true,264, .g [.P ⟨⟨⟨false,Dg.zero⟩,⟨false,Dg.zero⟩⟩,⟨⟨false,Dg.zero⟩,⟨false,Dg.zero⟩⟩⟩, .P ⟨⟨⟨false,Dg.zero⟩,⟨false,Dg.zero⟩⟩,⟨⟨false,Dg.zero⟩,⟨false,Dg.zero⟩⟩⟩],[(0,132),(132,132)],none,none,none⟩
theorem Yh:fP Tryz.prog 168 Xq:= { fields:= .inr ⟨Tryz.prog.fieldsOf 168,by kernel_rfl,by kernel_rfl⟩ }
def Xr:TI:=⟨true,true,264, .g [.P ⟨⟨⟨false,Dg.zero⟩,⟨false,Dg.zero⟩⟩,⟨⟨false,Dg.zero⟩,⟨false,Dg.zero⟩⟩⟩, .P ⟨⟨⟨false,Dg.zero⟩,⟨false,Dg.zero⟩⟩,⟨⟨false,Dg.zero⟩,⟨false,Dg.zero⟩⟩⟩],[(0,264)],none,none,none⟩
theorem Yi:fP Tryz.prog 170 Xr:= { fields:= .inr ⟨Tryz.prog.fieldsOf 170,by kernel_rfl,by kernel_rfl⟩ }
def Xo:TI:=⟨true,true,132, .g [.R ⟨⟨false,Dg.zero⟩,⟨false,Dg.zero⟩⟩, .R ⟨⟨false,Dg.zero⟩,⟨false,Dg.zero⟩⟩],[],some (2,29,66),none,none⟩
theorem Yf:fP Tryz.prog 146 Xo:= {}
def YB:TI:=⟨true,true,264, .g [.P ⟨⟨⟨false,Dg.zero⟩,⟨false,Dg.zero⟩⟩,⟨⟨false,Dg.zero⟩,⟨false,Dg.zero⟩⟩⟩, .P ⟨⟨⟨false,Dg.zero⟩,⟨false,Dg.zero⟩⟩,⟨⟨false,Dg.zero⟩,⟨false,Dg.zero⟩⟩⟩],[(0,132),(132,132)],none,none,none⟩
theorem Y8:fP Tryz.prog 63 YB:= { fields:= .inr ⟨Tryz.prog.fieldsOf 63,by kernel_rfl,by kernel_rfl⟩ }
def YC:TI:=⟨true,true,264, .g [.P ⟨⟨⟨false,Dg.zero⟩,⟨false,Dg.zero⟩⟩,⟨⟨false,Dg.zero⟩,⟨false,Dg.zero⟩⟩⟩, .P ⟨⟨⟨false,Dg.zero⟩,⟨false,Dg.zero⟩⟩,⟨⟨false,Dg.zero⟩,⟨false,Dg.zero⟩⟩⟩],[(0,264)],none,none,none⟩
theorem Y9:fP Tryz.prog 65 YC:= { fields:= .inr ⟨Tryz.prog.fieldsOf 65,by kernel_rfl,by kernel_rfl⟩ }
def Xn:TI:=⟨true,true,2, .g [.s (.lit .i64 0), .s (.lit .i64 0)],[(0,1),(1,1)],none,none,none⟩
theorem Ye:fP Tryz.prog 131 Xn:= { fields:= .inr ⟨Tryz.prog.fieldsOf 131,by kernel_rfl,by kernel_rfl⟩ }
def Yx:TI:=⟨false,true,3, .g [.s .nils, .s .nils, .s .nils],[(0,1),(1,1),(2,1)],none,none,none⟩
theorem Y4:fP Tryz.prog 36 Yx:= { fields:= .inr ⟨Tryz.prog.fieldsOf 36,by kernel_rfl,by kernel_rfl⟩ }
def Xj:TI:=⟨false,true,3, .g [.s .nils, .s .nils, .s .nils],[(0,3)],none,none,none⟩
theorem Ya:fP Tryz.prog 106 Xj:= { fields:= .inr ⟨Tryz.prog.fieldsOf 106,by kernel_rfl,by kernel_rfl⟩ }
def Xk:TI:=⟨false,true,3, .g [.s .nils, .s .nils, .s .nils],[(0,3)],none,none,none⟩
theorem Yb:fP Tryz.prog 108 Xk:= { fields:= .inr ⟨Tryz.prog.fieldsOf 108,by kernel_rfl,by kernel_rfl⟩ }
def LX:TI:=⟨false,true,3, .g [.s (.lit .i64 0), .s (.lit .i64 0), .s .nils],[(0,1),(1,1),(2,1)],none,none,none⟩
theorem Qq:fP Tryz.prog 56 LX:= { fields:= .inr ⟨Tryz.prog.fieldsOf 56,by kernel_rfl,by kernel_rfl⟩ }
def TU:TI:=⟨false,false,1, .s .nils,[],none,some (3,1, .int .i64),none⟩
theorem Ul:fP Tryz.prog 40 TU:= {}
def Xm:TI:=⟨false,false,1, .s .nils,[],none,some (24,1, .int .u32),none⟩
theorem Yd:fP Tryz.prog 121 Xm:= {}
def Ij:TI:=⟨false,false,1, .s .nils,[],none,some (24,1, .int .u32),none⟩
theorem NJ:fP Tryz.prog 122 Ij:= {}
def Xs:TI:=⟨false,false,1, .s .nils,[],none,some (29,66, .rt),none⟩
theorem Yj:fP Tryz.prog 175 Xs:= {}
def Yw:TI:=⟨false,false,1, .s .nils,[],none,some (31,132, .pt),none⟩
theorem Y3:fP Tryz.prog 34 Yw:= {}
def T6:TI:=⟨false,false,1, .s .nils,[],none,some (78,3, .i3),none⟩
theorem Ui:fP Tryz.prog 33 T6:= {}
def TT:TI:=⟨false,false,1, .s .nils,[],none,some (72,3, .i3),none⟩
theorem Uh:fP Tryz.prog 32 TT:= {}
def YA:TI:=⟨false,false,1, .s .nils,[],none,some (84,3, .i3),none⟩
theorem Y7:fP Tryz.prog 54 YA:= {}
def tT:Nat→Option TI
 | 86=>some Ue
 | 3=>some Sb
 | 2=>some Sa
 | 5=>some Se
 | 49=>some Yz
 | 24=>some T5
 | 139=>some Ik
 | 59=>some O9
 | 21=>some O1
 | 4=>some Sd
 | 9=>some Sf
 | 80=>some TZ
 | 23=>some O3
 | 78=>some TY
 | 72=>some YE
 | 84=>some Uc
 | 27=>some LT
 | 29=>some LU
 | 31=>some O5
 | 25=>some LS
 | 194=>some Xu
 | 47=>some Yy
 | 66=>some YD
 | 112=>some Xl
 | 114=>some TN
 | 116=>some Ii
 | 151=>some Xp
 | 181=>some Xt
 | 199=>some Xv
 | 168=>some Xq
 | 170=>some Xr
 | 146=>some Xo
 | 63=>some YB
 | 65=>some YC
 | 131=>some Xn
 | 36=>some Yx
 | 106=>some Xj
 | 108=>some Xk
 | 56=>some LX
 | 40=>some TU
 | 121=>some Xm
 | 122=>some Ij
 | 175=>some Xs
 | 34=>some Yw
 | 33=>some T6
 | 32=>some TT
 | 54=>some YA
 | _=>none
theorem tok:TOK Tryz.prog tT:=fun t i h=>by
 unfold tT at h
 split at h
 ·cases h;exact Uw
 ·cases h;exact ST
 ·cases h;exact SS
 ·cases h;exact SZ
 ·cases h;exact Y6
 ·cases h;exact Ug
 ·cases h;exact NM
 ·cases h;exact Qs
 ·cases h;exact Qd
 ·cases h;exact SY
 ·cases h;exact S0
 ·cases h;exact Us
 ·cases h;exact Qf
 ·cases h;exact Ur
 ·cases h;exact Zb
 ·cases h;exact Uu
 ·cases h;exact Qh
 ·cases h;exact Qi
 ·cases h;exact Ql
 ·cases h;exact Qg
 ·cases h;exact Yl
 ·cases h;exact Y5
 ·cases h;exact Za
 ·cases h;exact Yc
 ·cases h;exact T3
 ·cases h;exact NI
 ·cases h;exact Yg
 ·cases h;exact Yk
 ·cases h;exact Ym
 ·cases h;exact Yh
 ·cases h;exact Yi
 ·cases h;exact Yf
 ·cases h;exact Y8
 ·cases h;exact Y9
 ·cases h;exact Ye
 ·cases h;exact Y4
 ·cases h;exact Ya
 ·cases h;exact Yb
 ·cases h;exact Qq
 ·cases h;exact Ul
 ·cases h;exact Yd
 ·cases h;exact NJ
 ·cases h;exact Yj
 ·cases h;exact Y3
 ·cases h;exact Ui
 ·cases h;exact Uh
 ·cases h;exact Y7
 ·cases h
theorem aL:Tryz.prog.follows .mixedOrders=true:=by kernel_rfl
end Go.Eng
