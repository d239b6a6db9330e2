
import Derived.Test.YtekohdfjkmdlpaaGreatEngMW
import Derived.Test.YtekohdfjkmdlpaaGreatProg
set_option linter.all false
set_option exponentiation.threshold 3000
namespace Go.Eng
open Go.Proofs
set_option maxRecDepth 100000
def O8:TI:=⟨true,false,1, .s (.lit .i64 0),[],none,none,some (.int .i64)⟩
theorem Qp:fP Tryz.prog 50 O8 where
 agg:=by kernel_rfl
 size:=by kernel_rfl
 zero:=by kernel_rfl
 zst:=fun _=>rfl
 zsize:=by kernel_rfl
 zagg:=fun h=>by cases h
 fields:= .inl rfl
 fsize:=fun _ _ h=>by cases h
 arr:=fun _ _ _ h=>by cases h
 elem:=fun _ _ _ h=>by cases h
 ints:=fun _ _ _ h=>by cases h
 int:=fun _ h=>by cases h;kernel_rfl
 bool:=fun h=>by cases h
 str:=fun h=>by cases h
 eq:=fun _=>⟨by kernel_rfl,by kernel_rfl⟩
def Sb:TI:=⟨true,false,1, .s (.lit .i64 0),[],none,none,some (.int .i64)⟩
theorem ST:fP Tryz.prog 3 Sb where
 agg:=by kernel_rfl
 size:=by kernel_rfl
 zero:=by kernel_rfl
 zst:=fun _=>rfl
 zsize:=by kernel_rfl
 zagg:=fun h=>by cases h
 fields:= .inl rfl
 fsize:=fun _ _ h=>by cases h
 arr:=fun _ _ _ h=>by cases h
 elem:=fun _ _ _ h=>by cases h
 ints:=fun _ _ _ h=>by cases h
 int:=fun _ h=>by cases h;kernel_rfl
 bool:=fun h=>by cases h
 str:=fun h=>by cases h
 eq:=fun _=>⟨by kernel_rfl,by kernel_rfl⟩
def Sa:TI:=⟨true,false,1, .s (.lit .i64 0),[],none,none,some (.int .i64)⟩
theorem SS:fP Tryz.prog 2 Sa where
 agg:=by kernel_rfl
 size:=by kernel_rfl
 zero:=by kernel_rfl
 zst:=fun _=>rfl
 zsize:=by kernel_rfl
 zagg:=fun h=>by cases h
 fields:= .inl rfl
 fsize:=fun _ _ h=>by cases h
 arr:=fun _ _ _ h=>by cases h
 elem:=fun _ _ _ h=>by cases h
 ints:=fun _ _ _ h=>by cases h
 int:=fun _ h=>by cases h;kernel_rfl
 bool:=fun h=>by cases h
 str:=fun h=>by cases h
 eq:=fun _=>⟨by kernel_rfl,by kernel_rfl⟩
def Se:TI:=⟨true,false,1, .s (.lit .u8 0),[],none,none,some (.int .u8)⟩
theorem SZ:fP Tryz.prog 5 Se where
 agg:=by kernel_rfl
 size:=by kernel_rfl
 zero:=by kernel_rfl
 zst:=fun _=>rfl
 zsize:=by kernel_rfl
 zagg:=fun h=>by cases h
 fields:= .inl rfl
 fsize:=fun _ _ h=>by cases h
 arr:=fun _ _ _ h=>by cases h
 elem:=fun _ _ _ h=>by cases h
 ints:=fun _ _ _ h=>by cases h
 int:=fun _ h=>by cases h;kernel_rfl
 bool:=fun h=>by cases h
 str:=fun h=>by cases h
 eq:=fun _=>⟨by kernel_rfl,by kernel_rfl⟩
def O5:TI:=⟨true,false,1, .s (.lit .i16 0),[],none,none,some (.int .i16)⟩
theorem Ql:fP Tryz.prog 31 O5 where
 agg:=by kernel_rfl
 size:=by kernel_rfl
 zero:=by kernel_rfl
 zst:=fun _=>rfl
 zsize:=by kernel_rfl
 zagg:=fun h=>by cases h
 fields:= .inl rfl
 fsize:=fun _ _ h=>by cases h
 arr:=fun _ _ _ h=>by cases h
 elem:=fun _ _ _ h=>by cases h
 ints:=fun _ _ _ h=>by cases h
 int:=fun _ h=>by cases h;kernel_rfl
 bool:=fun h=>by cases h
 str:=fun h=>by cases h
 eq:=fun _=>⟨by kernel_rfl,by kernel_rfl⟩
def Pc:TI:=⟨true,false,1, .s (.lit .i8 0),[],none,none,some (.int .i8)⟩
theorem Qw:fP Tryz.prog 71 Pc where
 agg:=by kernel_rfl
 size:=by kernel_rfl
 zero:=by kernel_rfl
 zst:=fun _=>rfl
 zsize:=by kernel_rfl
 zagg:=fun h=>by cases h
 fields:= .inl rfl
 fsize:=fun _ _ h=>by cases h
 arr:=fun _ _ _ h=>by cases h
 elem:=fun _ _ _ h=>by cases h
 ints:=fun _ _ _ h=>by cases h
 int:=fun _ h=>by cases h;kernel_rfl
 bool:=fun h=>by cases h
 str:=fun h=>by cases h
 eq:=fun _=>⟨by kernel_rfl,by kernel_rfl⟩
def O2:TI:=⟨true,false,1, .s (.lit .u32 0),[],none,none,some (.int .u32)⟩
theorem Qe:fP Tryz.prog 22 O2 where
 agg:=by kernel_rfl
 size:=by kernel_rfl
 zero:=by kernel_rfl
 zst:=fun _=>rfl
 zsize:=by kernel_rfl
 zagg:=fun h=>by cases h
 fields:= .inl rfl
 fsize:=fun _ _ h=>by cases h
 arr:=fun _ _ _ h=>by cases h
 elem:=fun _ _ _ h=>by cases h
 ints:=fun _ _ _ h=>by cases h
 int:=fun _ h=>by cases h;kernel_rfl
 bool:=fun h=>by cases h
 str:=fun h=>by cases h
 eq:=fun _=>⟨by kernel_rfl,by kernel_rfl⟩
def Io:TI:=⟨true,false,1, .s (.lit .u64 0),[],none,none,some (.int .u64)⟩
theorem NS:fP Tryz.prog 173 Io where
 agg:=by kernel_rfl
 size:=by kernel_rfl
 zero:=by kernel_rfl
 zst:=fun _=>rfl
 zsize:=by kernel_rfl
 zagg:=fun h=>by cases h
 fields:= .inl rfl
 fsize:=fun _ _ h=>by cases h
 arr:=fun _ _ _ h=>by cases h
 elem:=fun _ _ _ h=>by cases h
 ints:=fun _ _ _ h=>by cases h
 int:=fun _ h=>by cases h;kernel_rfl
 bool:=fun h=>by cases h
 str:=fun h=>by cases h
 eq:=fun _=>⟨by kernel_rfl,by kernel_rfl⟩
def O9:TI:=⟨true,false,1, .s (.lit .u64 0),[],none,none,some (.int .u64)⟩
theorem Qs:fP Tryz.prog 59 O9 where
 agg:=by kernel_rfl
 size:=by kernel_rfl
 zero:=by kernel_rfl
 zst:=fun _=>rfl
 zsize:=by kernel_rfl
 zagg:=fun h=>by cases h
 fields:= .inl rfl
 fsize:=fun _ _ h=>by cases h
 arr:=fun _ _ _ h=>by cases h
 elem:=fun _ _ _ h=>by cases h
 ints:=fun _ _ _ h=>by cases h
 int:=fun _ h=>by cases h;kernel_rfl
 bool:=fun h=>by cases h
 str:=fun h=>by cases h
 eq:=fun _=>⟨by kernel_rfl,by kernel_rfl⟩
def O1:TI:=⟨true,false,1, .s (.lit .i32 0),[],none,none,some (.int .i32)⟩
theorem Qd:fP Tryz.prog 21 O1 where
 agg:=by kernel_rfl
 size:=by kernel_rfl
 zero:=by kernel_rfl
 zst:=fun _=>rfl
 zsize:=by kernel_rfl
 zagg:=fun h=>by cases h
 fields:= .inl rfl
 fsize:=fun _ _ h=>by cases h
 arr:=fun _ _ _ h=>by cases h
 elem:=fun _ _ _ h=>by cases h
 ints:=fun _ _ _ h=>by cases h
 int:=fun _ h=>by cases h;kernel_rfl
 bool:=fun h=>by cases h
 str:=fun h=>by cases h
 eq:=fun _=>⟨by kernel_rfl,by kernel_rfl⟩
def Sd:TI:=⟨true,false,1, .s (.tt false),[],none,none,some .bool⟩
theorem SY:fP Tryz.prog 4 Sd where
 agg:=by kernel_rfl
 size:=by kernel_rfl
 zero:=by kernel_rfl
 zst:=fun _=>rfl
 zsize:=by kernel_rfl
 zagg:=fun h=>by cases h
 fields:= .inl rfl
 fsize:=fun _ _ h=>by cases h
 arr:=fun _ _ _ h=>by cases h
 elem:=fun _ _ _ h=>by cases h
 ints:=fun _ _ _ h=>by cases h
 int:=fun _ h=>by cases h
 bool:=fun _=>by kernel_rfl
 str:=fun h=>by cases h
 eq:=fun _=>⟨by kernel_rfl,by kernel_rfl⟩
def Sf:TI:=⟨false,false,1, .s (.str ByteArray.empty),[],none,none,some .str⟩
theorem S0:fP Tryz.prog 9 Sf where
 agg:=by kernel_rfl
 size:=by kernel_rfl
 zero:=by kernel_rfl
 zst:=fun _=>rfl
 zsize:=by kernel_rfl
 zagg:=fun h=>by cases h
 fields:= .inl rfl
 fsize:=fun _ _ h=>by cases h
 arr:=fun _ _ _ h=>by cases h
 elem:=fun _ _ _ h=>by cases h
 ints:=fun _ _ _ h=>by cases h
 int:=fun _ h=>by cases h
 bool:=fun h=>by cases h
 str:=fun _=>by kernel_rfl
 eq:=fun h=>by cases h
def Ij:TI:=⟨false,false,1, .s .nilf,[],none,none,none⟩
theorem NJ:fP Tryz.prog 122 Ij where
 agg:=by kernel_rfl
 size:=by kernel_rfl
 zero:=by kernel_rfl
 zst:=fun _=>rfl
 zsize:=by kernel_rfl
 zagg:=fun h=>by cases h
 fields:= .inl rfl
 fsize:=fun _ _ h=>by cases h
 arr:=fun _ _ _ h=>by cases h
 elem:=fun _ _ _ h=>by cases h
 ints:=fun _ _ _ h=>by cases h
 int:=fun _ h=>by cases h
 bool:=fun h=>by cases h
 str:=fun h=>by cases h
 eq:=fun h=>by cases h
def LZ:TI:=⟨true,true,3, .g [.s (.lit .i64 0), .s (.lit .i64 0), .s (.lit .i64 0)],[(0,1),(1,1),(2,1)],none,none,none⟩
theorem Qt:fP Tryz.prog 62 LZ where
 agg:=by kernel_rfl
 size:=by kernel_rfl
 zero:=by kernel_rfl
 zst:=fun _=>rfl
 zsize:=by kernel_rfl
 zagg:=fun _=>⟨_,rfl⟩
 fields:= .inr ⟨Tryz.prog.fieldsOf 62,by kernel_rfl,by kernel_rfl⟩
 fsize:=fun o z h=>by simp[LZ] at h;omega
 arr:=fun _ _ _ h=>by cases h
 elem:=fun _ _ _ h=>by cases h
 ints:=fun _ _ _ h=>by cases h
 int:=fun _ h=>by cases h
 bool:=fun h=>by cases h
 str:=fun h=>by cases h
 eq:=fun _=>⟨by kernel_rfl,by kernel_rfl⟩
def LY:TI:=⟨true,true,3, .g [.s (.lit .i64 0), .s (.lit .i64 0), .s (.lit .i64 0)],[(0,1),(1,1),(2,1)],none,none,none⟩
theorem Qr:fP Tryz.prog 58 LY where
 agg:=by kernel_rfl
 size:=by kernel_rfl
 zero:=by kernel_rfl
 zst:=fun _=>rfl
 zsize:=by kernel_rfl
 zagg:=fun _=>⟨_,rfl⟩
 fields:= .inr ⟨Tryz.prog.fieldsOf 58,by kernel_rfl,by kernel_rfl⟩
 fsize:=fun o z h=>by simp[LY] at h;omega
 arr:=fun _ _ _ h=>by cases h
 elem:=fun _ _ _ h=>by cases h
 ints:=fun _ _ _ h=>by cases h
 int:=fun _ h=>by cases h
 bool:=fun h=>by cases h
 str:=fun h=>by cases h
 eq:=fun _=>⟨by kernel_rfl,by kernel_rfl⟩
def LX:TI:=⟨true,true,3, .g [.s (.lit .i64 0), .s (.lit .i64 0), .s (.lit .i64 0)],[(0,1),(1,1),(2,1)],none,none,none⟩
theorem Qq:fP Tryz.prog 56 LX where
 agg:=by kernel_rfl
 size:=by kernel_rfl
 zero:=by kernel_rfl
 zst:=fun _=>rfl
 zsize:=by kernel_rfl
 zagg:=fun _=>⟨_,rfl⟩
 fields:= .inr ⟨Tryz.prog.fieldsOf 56,by kernel_rfl,by kernel_rfl⟩
 fsize:=fun o z h=>by simp[LX] at h;omega
 arr:=fun _ _ _ h=>by cases h
 elem:=fun _ _ _ h=>by cases h
 ints:=fun _ _ _ h=>by cases h
 int:=fun _ h=>by cases h
 bool:=fun h=>by cases h
 str:=fun h=>by cases h
 eq:=fun _=>⟨by kernel_rfl,by kernel_rfl⟩
def EN:TI:=⟨true,true,3, .g [.s (.lit .i64 0), .s (.lit .i64 0), .s (.lit .i64 0)],[(0,1),(1,1),(2,1)],none,none,none⟩
theorem NK:fP Tryz.prog 124 EN where
 agg:=by kernel_rfl
 size:=by kernel_rfl
 zero:=by kernel_rfl
 zst:=fun _=>rfl
 zsize:=by kernel_rfl
 zagg:=fun _=>⟨_,rfl⟩
 fields:= .inr ⟨Tryz.prog.fieldsOf 124,by kernel_rfl,by kernel_rfl⟩
 fsize:=fun o z h=>by simp[EN] at h;omega
 arr:=fun _ _ _ h=>by cases h
 elem:=fun _ _ _ h=>by cases h
 ints:=fun _ _ _ h=>by cases h
 int:=fun _ h=>by cases h
 bool:=fun h=>by cases h
 str:=fun h=>by cases h
 eq:=fun _=>⟨by kernel_rfl,by kernel_rfl⟩
def LS:TI:=⟨true,true,33, .g [.W ⟨false,Dg.zero⟩],[(0,1),(1,32)],none,none,none⟩
theorem Qg:fP Tryz.prog 25 LS where
 agg:=by kernel_rfl
 size:=by kernel_rfl
 zero:=by kernel_rfl
 zst:=fun _=>rfl
 zsize:=by kernel_rfl
 zagg:=fun _=>⟨_,rfl⟩
 fields:= .inr ⟨Tryz.prog.fieldsOf 25,by kernel_rfl,by kernel_rfl⟩
 fsize:=fun o z h=>by simp[LS] at h;omega
 arr:=fun _ _ _ h=>by cases h
 elem:=fun _ _ _ h=>by cases h
 ints:=fun _ _ _ h=>by cases h
 int:=fun _ h=>by cases h
 bool:=fun h=>by cases h
 str:=fun h=>by cases h
 eq:=fun _=>⟨by kernel_rfl,by kernel_rfl⟩
def LT:TI:=⟨true,true,66, .g [.R ⟨⟨false,Dg.zero⟩,⟨false,Dg.zero⟩⟩],[(0,33),(33,33)],none,none,none⟩
theorem Qh:fP Tryz.prog 27 LT where
 agg:=by kernel_rfl
 size:=by kernel_rfl
 zero:=by kernel_rfl
 zst:=fun _=>rfl
 zsize:=by kernel_rfl
 zagg:=fun _=>⟨_,rfl⟩
 fields:= .inr ⟨Tryz.prog.fieldsOf 27,by kernel_rfl,by kernel_rfl⟩
 fsize:=fun o z h=>by simp[LT] at h;omega
 arr:=fun _ _ _ h=>by cases h
 elem:=fun _ _ _ h=>by cases h
 ints:=fun _ _ _ h=>by cases h
 int:=fun _ h=>by cases h
 bool:=fun h=>by cases h
 str:=fun h=>by cases h
 eq:=fun _=>⟨by kernel_rfl,by kernel_rfl⟩
def LU:TI:=⟨true,true,132, .g [.P ⟨⟨⟨false,Dg.zero⟩,⟨false,Dg.zero⟩⟩,⟨⟨false,Dg.zero⟩,⟨false,Dg.zero⟩⟩⟩],[(0,66),(66,66)],none,none,none⟩
theorem Qi:fP Tryz.prog 29 LU where
 agg:=by kernel_rfl
 size:=by kernel_rfl
 zero:=by kernel_rfl
 zst:=fun _=>rfl
 zsize:=by kernel_rfl
 zagg:=fun _=>⟨_,rfl⟩
 fields:= .inr ⟨Tryz.prog.fieldsOf 29,by kernel_rfl,by kernel_rfl⟩
 fsize:=fun o z h=>by simp[LU] at h;omega
 arr:=fun _ _ _ h=>by cases h
 elem:=fun _ _ _ h=>by cases h
 ints:=fun _ _ _ h=>by cases h
 int:=fun _ h=>by cases h
 bool:=fun h=>by cases h
 str:=fun h=>by cases h
 eq:=fun _=>⟨by kernel_rfl,by kernel_rfl⟩
def O3:TI:=⟨true,true,32, .g [.D Dg.zero],[],some (32,22,1),none,none⟩
theorem Qf:fP Tryz.prog 23 O3 where
 agg:=by kernel_rfl
 size:=by kernel_rfl
 zero:=by kernel_rfl
 zst:=fun _=>rfl
 zsize:=by kernel_rfl
 zagg:=fun _=>⟨_,rfl⟩
 fields:= .inl rfl
 fsize:=fun _ _ h=>by cases h
 arr:=fun _ _ _ h=>by cases h;exact⟨by kernel_rfl,by kernel_rfl⟩
 elem:=fun _ _ _ h=>by cases h
 ints:=fun _ _ _ h=>by cases h
 int:=fun _ h=>by cases h
 bool:=fun h=>by cases h
 str:=fun h=>by cases h
 eq:=fun _=>⟨by kernel_rfl,by kernel_rfl⟩
def Ip:TI:=⟨true,true,32, .g [.D Dg.zero],[],some (32,22,1),none,none⟩
theorem NT:fP Tryz.prog 191 Ip where
 agg:=by kernel_rfl
 size:=by kernel_rfl
 zero:=by kernel_rfl
 zst:=fun _=>rfl
 zsize:=by kernel_rfl
 zagg:=fun _=>⟨_,rfl⟩
 fields:= .inl rfl
 fsize:=fun _ _ h=>by cases h
 arr:=fun _ _ _ h=>by cases h;exact⟨by kernel_rfl,by kernel_rfl⟩
 elem:=fun _ _ _ h=>by cases h
 ints:=fun _ _ _ h=>by cases h
 int:=fun _ h=>by cases h
 bool:=fun h=>by cases h
 str:=fun h=>by cases h
 eq:=fun _=>⟨by kernel_rfl,by kernel_rfl⟩
def Pb:TI:=⟨true,true,12, .g [.s (.lit .i64 0), .s (.lit .i64 0), .s (.lit .i64 0), .s (.lit .i64 0), .s (.lit .i64 0), .s (.lit .i64 0), .s (.lit .i64 0), .s (.lit .i64 0), .s (.lit .i64 0), .s (.lit .i64 0), .s (.lit .i64 0), .s (.lit .i64 0)],[],some (4,62,3),none,none⟩
theorem Qv:fP Tryz.prog 69 Pb where
 agg:=by kernel_rfl
 size:=by kernel_rfl
 zero:=by kernel_rfl
 zst:=fun _=>rfl
 zsize:=by kernel_rfl
 zagg:=fun _=>⟨_,rfl⟩
 fields:= .inl rfl
 fsize:=fun _ _ h=>by cases h
 arr:=fun _ _ _ h=>by cases h;exact⟨by kernel_rfl,by kernel_rfl⟩
 elem:=fun _ _ _ h=>by cases h
 ints:=fun _ _ _ h=>by cases h
 int:=fun _ h=>by cases h
 bool:=fun h=>by cases h
 str:=fun h=>by cases h
 eq:=fun _=>⟨by kernel_rfl,by kernel_rfl⟩
def Ii:TI:=⟨true,true,528, .g [.P ⟨⟨⟨false,Dg.zero⟩,⟨false,Dg.zero⟩⟩,⟨⟨false,Dg.zero⟩,⟨false,Dg.zero⟩⟩⟩, .P ⟨⟨⟨false,Dg.zero⟩,⟨false,Dg.zero⟩⟩,⟨⟨false,Dg.zero⟩,⟨false,Dg.zero⟩⟩⟩, .P ⟨⟨⟨false,Dg.zero⟩,⟨false,Dg.zero⟩⟩,⟨⟨false,Dg.zero⟩,⟨false,Dg.zero⟩⟩⟩, .P ⟨⟨⟨false,Dg.zero⟩,⟨false,Dg.zero⟩⟩,⟨⟨false,Dg.zero⟩,⟨false,Dg.zero⟩⟩⟩],[],some (4,29,132),none,none⟩
theorem NI:fP Tryz.prog 116 Ii where
 agg:=by kernel_rfl
 size:=by kernel_rfl
 zero:=by kernel_rfl
 zst:=fun _=>rfl
 zsize:=by kernel_rfl
 zagg:=fun _=>⟨_,rfl⟩
 fields:= .inl rfl
 fsize:=fun _ _ h=>by cases h
 arr:=fun _ _ _ h=>by cases h;exact⟨by kernel_rfl,by kernel_rfl⟩
 elem:=fun _ _ _ h=>by cases h
 ints:=fun _ _ _ h=>by cases h
 int:=fun _ h=>by cases h
 bool:=fun h=>by cases h
 str:=fun h=>by cases h
 eq:=fun _=>⟨by kernel_rfl,by kernel_rfl⟩
def EP:TI:=⟨true,true,2, .g [.s (.lit .i64 0), .s (.lit .i64 0)],[(0,1),(1,1)],none,none,none⟩
theorem NP:fP Tryz.prog 167 EP where
 agg:=by kernel_rfl
 size:=by kernel_rfl
 zero:=by kernel_rfl
 zst:=fun _=>rfl
 zsize:=by kernel_rfl
 zagg:=fun _=>⟨_,rfl⟩
 fields:= .inr ⟨Tryz.prog.fieldsOf 167,by kernel_rfl,by kernel_rfl⟩
 fsize:=fun o z h=>by simp[EP] at h;omega
 arr:=fun _ _ _ h=>by cases h
 elem:=fun _ _ _ h=>by cases h
 ints:=fun _ _ _ h=>by cases h
 int:=fun _ h=>by cases h
 bool:=fun h=>by cases h
 str:=fun h=>by cases h
 eq:=fun _=>⟨by kernel_rfl,by kernel_rfl⟩
def ER:TI:=⟨true,true,2, .g [.s (.lit .i64 0), .s (.lit .i64 0)],[(0,2)],none,none,none⟩
theorem NQ:fP Tryz.prog 169 ER where
 agg:=by kernel_rfl
 size:=by kernel_rfl
 zero:=by kernel_rfl
 zst:=fun _=>rfl
 zsize:=by kernel_rfl
 zagg:=fun _=>⟨_,rfl⟩
 fields:= .inr ⟨Tryz.prog.fieldsOf 169,by kernel_rfl,by kernel_rfl⟩
 fsize:=fun o z h=>by simp[ER] at h;omega
 arr:=fun _ _ _ h=>by cases h
 elem:=fun _ _ _ h=>by cases h
 ints:=fun _ _ _ h=>by cases h
 int:=fun _ h=>by cases h
 bool:=fun h=>by cases h
 str:=fun h=>by cases h
 eq:=fun _=>⟨by kernel_rfl,by kernel_rfl⟩
def ES:TI:=⟨true,true,4, .g [.s (.lit .i64 0), .s (.lit .i64 0), .s (.lit .i64 0), .s (.lit .i64 0)],[(0,2),(2,2)],none,none,none⟩
theorem NR:fP Tryz.prog 171 ES where
 agg:=by kernel_rfl
 size:=by kernel_rfl
 zero:=by kernel_rfl
 zst:=fun _=>rfl
 zsize:=by kernel_rfl
 zagg:=fun _=>⟨_,rfl⟩
 fields:= .inr ⟨Tryz.prog.fieldsOf 171,by kernel_rfl,by kernel_rfl⟩
 fsize:=fun o z h=>by simp[ES] at h;omega
 arr:=fun _ _ _ h=>by cases h
 elem:=fun _ _ _ h=>by cases h
 ints:=fun _ _ _ h=>by cases h
 int:=fun _ h=>by cases h
 bool:=fun h=>by cases h
 str:=fun h=>by cases h
 eq:=fun _=>⟨by kernel_rfl,by kernel_rfl⟩
def EO:TI:=⟨true,true,2, .g [.s (.lit .i64 0), .s (.lit .i64 0)],[(0,1),(1,1)],none,none,none⟩
theorem NL:fP Tryz.prog 130 EO where
 agg:=by kernel_rfl
 size:=by kernel_rfl
 zero:=by kernel_rfl
 zst:=fun _=>rfl
 zsize:=by kernel_rfl
 zagg:=fun _=>⟨_,rfl⟩
 fields:= .inr ⟨Tryz.prog.fieldsOf 130,by kernel_rfl,by kernel_rfl⟩
 fsize:=fun o z h=>by simp[EO] at h;omega
 arr:=fun _ _ _ h=>by cases h
 elem:=fun _ _ _ h=>by cases h
 ints:=fun _ _ _ h=>by cases h
 int:=fun _ h=>by cases h
 bool:=fun h=>by cases h
 str:=fun h=>by cases h
 eq:=fun _=>⟨by kernel_rfl,by kernel_rfl⟩
def L1:TI:=⟨true,true,1, .g [.s (.tt false)],[(0,1)],none,none,none⟩
theorem Qz:fP Tryz.prog 88 L1 where
 agg:=by kernel_rfl
 size:=by kernel_rfl
 zero:=by kernel_rfl
 zst:=fun _=>rfl
 zsize:=by kernel_rfl
 zagg:=fun _=>⟨_,rfl⟩
 fields:= .inr ⟨Tryz.prog.fieldsOf 88,by kernel_rfl,by kernel_rfl⟩
 fsize:=fun o z h=>by simp[L1] at h;omega
 arr:=fun _ _ _ h=>by cases h
 elem:=fun _ _ _ h=>by cases h
 ints:=fun _ _ _ h=>by cases h
 int:=fun _ h=>by cases h
 bool:=fun h=>by cases h
 str:=fun h=>by cases h
 eq:=fun _=>⟨by kernel_rfl,by kernel_rfl⟩
def Iq:TI:=⟨true,true,64, .g [.D Dg.zero, .D Dg.zero],[],some (64,22,1),none,none⟩
theorem NW:fP Tryz.prog 212 Iq where
 agg:=by kernel_rfl
 size:=by kernel_rfl
 zero:=by kernel_rfl
 zst:=fun _=>rfl
 zsize:=by kernel_rfl
 zagg:=fun _=>⟨_,rfl⟩
 fields:= .inl rfl
 fsize:=fun _ _ h=>by cases h
 arr:=fun _ _ _ h=>by cases h;exact⟨by kernel_rfl,by kernel_rfl⟩
 elem:=fun _ _ _ h=>by cases h
 ints:=fun _ _ _ h=>by cases h
 int:=fun _ h=>by cases h
 bool:=fun h=>by cases h
 str:=fun h=>by cases h
 eq:=fun _=>⟨by kernel_rfl,by kernel_rfl⟩
def ET:TI:=⟨true,true,264, .g [.P ⟨⟨⟨false,Dg.zero⟩,⟨false,Dg.zero⟩⟩,⟨⟨false,Dg.zero⟩,⟨false,Dg.zero⟩⟩⟩, .P ⟨⟨⟨false,Dg.zero⟩,⟨false,Dg.zero⟩⟩,⟨⟨false,Dg.zero⟩,⟨false,Dg.zero⟩⟩⟩],[(0,132),(132,132)],none,none,none⟩
theorem NU:fP Tryz.prog 203 ET where
 agg:=by kernel_rfl
 size:=by kernel_rfl
 zero:=by kernel_rfl
 zst:=fun _=>rfl
 zsize:=by kernel_rfl
 zagg:=fun _=>⟨_,rfl⟩
 fields:= .inr ⟨Tryz.prog.fieldsOf 203,by kernel_rfl,by kernel_rfl⟩
 fsize:=fun o z h=>by simp[ET] at h;omega
 arr:=fun _ _ _ h=>by cases h
 elem:=fun _ _ _ h=>by cases h
 ints:=fun _ _ _ h=>by cases h
 int:=fun _ h=>by cases h
 bool:=fun h=>by cases h
 str:=fun h=>by cases h
 eq:=fun _=>⟨by kernel_rfl,by kernel_rfl⟩
def EU:TI:=⟨true,true,264, .g [.P ⟨⟨⟨false,Dg.zero⟩,⟨false,Dg.zero⟩⟩,⟨⟨false,Dg.zero⟩,⟨false,Dg.zero⟩⟩⟩, .P ⟨⟨⟨false,Dg.zero⟩,⟨false,Dg.zero⟩⟩,⟨⟨false,Dg.zero⟩,⟨false,Dg.zero⟩⟩⟩],[(0,264)],none,none,none⟩
theorem NV:fP Tryz.prog 205 EU where
 agg:=by kernel_rfl
 size:=by kernel_rfl
 zero:=by kernel_rfl
 zst:=fun _=>rfl
 zsize:=by kernel_rfl
 zagg:=fun _=>⟨_,rfl⟩
 fields:= .inr ⟨Tryz.prog.fieldsOf 205,by kernel_rfl,by kernel_rfl⟩
 fsize:=fun o z h=>by simp[EU] at h;omega
 arr:=fun _ _ _ h=>by cases h
 elem:=fun _ _ _ h=>by cases h
 ints:=fun _ _ _ h=>by cases h
 int:=fun _ h=>by cases h
 bool:=fun h=>by cases h
 str:=fun h=>by cases h
 eq:=fun _=>⟨by kernel_rfl,by kernel_rfl⟩
def Im:TI:=⟨true,true,132, .g [.R ⟨⟨false,Dg.zero⟩,⟨false,Dg.zero⟩⟩, .R ⟨⟨false,Dg.zero⟩,⟨false,Dg.zero⟩⟩],[],some (2,27,66),none,none⟩
theorem NO:fP Tryz.prog 158 Im where
 agg:=by kernel_rfl
 size:=by kernel_rfl
 zero:=by kernel_rfl
 zst:=fun _=>rfl
 zsize:=by kernel_rfl
 zagg:=fun _=>⟨_,rfl⟩
 fields:= .inl rfl
 fsize:=fun _ _ h=>by cases h
 arr:=fun _ _ _ h=>by cases h;exact⟨by kernel_rfl,by kernel_rfl⟩
 elem:=fun _ _ _ h=>by cases h
 ints:=fun _ _ _ h=>by cases h
 int:=fun _ h=>by cases h
 bool:=fun h=>by cases h
 str:=fun h=>by cases h
 eq:=fun _=>⟨by kernel_rfl,by kernel_rfl⟩
def EL:TI:=⟨true,true,264, .g [.P ⟨⟨⟨false,Dg.zero⟩,⟨false,Dg.zero⟩⟩,⟨⟨false,Dg.zero⟩,⟨false,Dg.zero⟩⟩⟩, .P ⟨⟨⟨false,Dg.zero⟩,⟨false,Dg.zero⟩⟩,⟨⟨false,Dg.zero⟩,⟨false,Dg.zero⟩⟩⟩],[(0,132),(132,132)],none,none,none⟩
theorem NG:fP Tryz.prog 113 EL where
 agg:=by kernel_rfl
 size:=by kernel_rfl
 zero:=by kernel_rfl
 zst:=fun _=>rfl
 zsize:=by kernel_rfl
 zagg:=fun _=>⟨_,rfl⟩
 fields:= .inr ⟨Tryz.prog.fieldsOf 113,by kernel_rfl,by kernel_rfl⟩
 fsize:=fun o z h=>by simp[EL] at h;omega
 arr:=fun _ _ _ h=>by cases h
 elem:=fun _ _ _ h=>by cases h
 ints:=fun _ _ _ h=>by cases h
 int:=fun _ h=>by cases h
 bool:=fun h=>by cases h
 str:=fun h=>by cases h
 eq:=fun _=>⟨by kernel_rfl,by kernel_rfl⟩
def EM:TI:=⟨true,true,264, .g [.P ⟨⟨⟨false,Dg.zero⟩,⟨false,Dg.zero⟩⟩,⟨⟨false,Dg.zero⟩,⟨false,Dg.zero⟩⟩⟩, .P ⟨⟨⟨false,Dg.zero⟩,⟨false,Dg.zero⟩⟩,⟨⟨false,Dg.zero⟩,⟨false,Dg.zero⟩⟩⟩],[(0,264)],none,none,none⟩
theorem NH:fP Tryz.prog 115 EM where
 agg:=by kernel_rfl
 size:=by kernel_rfl
 zero:=by kernel_rfl
 zst:=fun _=>rfl
 zsize:=by kernel_rfl
 zagg:=fun _=>⟨_,rfl⟩
 fields:= .inr ⟨Tryz.prog.fieldsOf 115,by kernel_rfl,by kernel_rfl⟩
 fsize:=fun o z h=>by simp[EM] at h;omega
 arr:=fun _ _ _ h=>by cases h
 elem:=fun _ _ _ h=>by cases h
 ints:=fun _ _ _ h=>by cases h
 int:=fun _ h=>by cases h
 bool:=fun h=>by cases h
 str:=fun h=>by cases h
 eq:=fun _=>⟨by kernel_rfl,by kernel_rfl⟩
def EK:TI:=⟨true,true,2, .g [.s (.lit .i64 0), .s (.lit .i64 0)],[(0,1),(1,1)],none,none,none⟩
theorem NF:fP Tryz.prog 110 EK where
 agg:=by kernel_rfl
 size:=by kernel_rfl
 zero:=by kernel_rfl
 zst:=fun _=>rfl
 zsize:=by kernel_rfl
 zagg:=fun _=>⟨_,rfl⟩
 fields:= .inr ⟨Tryz.prog.fieldsOf 110,by kernel_rfl,by kernel_rfl⟩
 fsize:=fun o z h=>by simp[EK] at h;omega
 arr:=fun _ _ _ h=>by cases h
 elem:=fun _ _ _ h=>by cases h
 ints:=fun _ _ _ h=>by cases h
 int:=fun _ h=>by cases h
 bool:=fun h=>by cases h
 str:=fun h=>by cases h
 eq:=fun _=>⟨by kernel_rfl,by kernel_rfl⟩
def LV:TI:=⟨false,true,3, .g [.s .nils, .s .nils, .s .nils],[(0,1),(1,1),(2,1)],none,none,none⟩
theorem Qo:fP Tryz.prog 48 LV where
 agg:=by kernel_rfl
 size:=by kernel_rfl
 zero:=by kernel_rfl
 zst:=fun _=>rfl
 zsize:=by kernel_rfl
 zagg:=fun _=>⟨_,rfl⟩
 fields:= .inr ⟨Tryz.prog.fieldsOf 48,by kernel_rfl,by kernel_rfl⟩
 fsize:=fun o z h=>by simp[LV] at h;omega
 arr:=fun _ _ _ h=>by cases h
 elem:=fun _ _ _ h=>by cases h
 ints:=fun _ _ _ h=>by cases h
 int:=fun _ h=>by cases h
 bool:=fun h=>by cases h
 str:=fun h=>by cases h
 eq:=fun h=>by cases h
def EI:TI:=⟨false,true,3, .g [.s .nils, .s .nils, .s .nils],[(0,3)],none,none,none⟩
theorem NC:fP Tryz.prog 102 EI where
 agg:=by kernel_rfl
 size:=by kernel_rfl
 zero:=by kernel_rfl
 zst:=fun _=>rfl
 zsize:=by kernel_rfl
 zagg:=fun _=>⟨_,rfl⟩
 fields:= .inr ⟨Tryz.prog.fieldsOf 102,by kernel_rfl,by kernel_rfl⟩
 fsize:=fun o z h=>by simp[EI] at h;omega
 arr:=fun _ _ _ h=>by cases h
 elem:=fun _ _ _ h=>by cases h
 ints:=fun _ _ _ h=>by cases h
 int:=fun _ h=>by cases h
 bool:=fun h=>by cases h
 str:=fun h=>by cases h
 eq:=fun h=>by cases h
def EJ:TI:=⟨false,true,3, .g [.s .nils, .s .nils, .s .nils],[(0,3)],none,none,none⟩
theorem ND:fP Tryz.prog 104 EJ where
 agg:=by kernel_rfl
 size:=by kernel_rfl
 zero:=by kernel_rfl
 zst:=fun _=>rfl
 zsize:=by kernel_rfl
 zagg:=fun _=>⟨_,rfl⟩
 fields:= .inr ⟨Tryz.prog.fieldsOf 104,by kernel_rfl,by kernel_rfl⟩
 fsize:=fun o z h=>by simp[EJ] at h;omega
 arr:=fun _ _ _ h=>by cases h
 elem:=fun _ _ _ h=>by cases h
 ints:=fun _ _ _ h=>by cases h
 int:=fun _ h=>by cases h
 bool:=fun h=>by cases h
 str:=fun h=>by cases h
 eq:=fun h=>by cases h
def L0:TI:=⟨false,true,3, .g [.s (.lit .i64 0), .s (.lit .i64 0), .s .nils],[(0,1),(1,1),(2,1)],none,none,none⟩
theorem Qy:fP Tryz.prog 77 L0 where
 agg:=by kernel_rfl
 size:=by kernel_rfl
 zero:=by kernel_rfl
 zst:=fun _=>rfl
 zsize:=by kernel_rfl
 zagg:=fun _=>⟨_,rfl⟩
 fields:= .inr ⟨Tryz.prog.fieldsOf 77,by kernel_rfl,by kernel_rfl⟩
 fsize:=fun o z h=>by simp[L0] at h;omega
 arr:=fun _ _ _ h=>by cases h
 elem:=fun _ _ _ h=>by cases h
 ints:=fun _ _ _ h=>by cases h
 int:=fun _ h=>by cases h
 bool:=fun h=>by cases h
 str:=fun h=>by cases h
 eq:=fun h=>by cases h
def Pa:TI:=⟨false,false,1, .s .nils,[],none,some (3,1, .int .i64),none⟩
theorem Qu:fP Tryz.prog 64 Pa where
 agg:=by kernel_rfl
 size:=by kernel_rfl
 zero:=by kernel_rfl
 zst:=fun _=>rfl
 zsize:=by kernel_rfl
 zagg:=fun h=>by cases h
 fields:= .inl rfl
 fsize:=fun _ _ h=>by cases h
 arr:=fun _ _ _ h=>by cases h
 elem:=fun _ _ _ h=>by cases h;exact⟨by kernel_rfl,by kernel_rfl,rfl,by kernel_rfl,by kernel_rfl,by decide,by decide⟩
 ints:=fun _ _ _ h=>by cases h;kernel_rfl
 int:=fun _ h=>by cases h
 bool:=fun h=>by cases h
 str:=fun h=>by cases h
 eq:=fun h=>by cases h
def Ik:TI:=⟨false,false,1, .s .nils,[],none,some (22,1, .int .u32),none⟩
theorem NM:fP Tryz.prog 139 Ik where
 agg:=by kernel_rfl
 size:=by kernel_rfl
 zero:=by kernel_rfl
 zst:=fun _=>rfl
 zsize:=by kernel_rfl
 zagg:=fun h=>by cases h
 fields:= .inl rfl
 fsize:=fun _ _ h=>by cases h
 arr:=fun _ _ _ h=>by cases h
 elem:=fun _ _ _ h=>by cases h;exact⟨by kernel_rfl,by kernel_rfl,rfl,by kernel_rfl,by kernel_rfl,by decide,by decide⟩
 ints:=fun _ _ _ h=>by cases h;kernel_rfl
 int:=fun _ h=>by cases h
 bool:=fun h=>by cases h
 str:=fun h=>by cases h
 eq:=fun h=>by cases h
def Il:TI:=⟨false,false,1, .s .nils,[],none,some (22,1, .int .u32),none⟩
theorem NN:fP Tryz.prog 140 Il where
 agg:=by kernel_rfl
 size:=by kernel_rfl
 zero:=by kernel_rfl
 zst:=fun _=>rfl
 zsize:=by kernel_rfl
 zagg:=fun h=>by cases h
 fields:= .inl rfl
 fsize:=fun _ _ h=>by cases h
 arr:=fun _ _ _ h=>by cases h
 elem:=fun _ _ _ h=>by cases h;exact⟨by kernel_rfl,by kernel_rfl,rfl,by kernel_rfl,by kernel_rfl,by decide,by decide⟩
 ints:=fun _ _ _ h=>by cases h;kernel_rfl
 int:=fun _ h=>by cases h
 bool:=fun h=>by cases h
 str:=fun h=>by cases h
 eq:=fun h=>by cases h
def Pe:TI:=⟨false,false,1, .s .nils,[],none,some (27,66, .rt),none⟩
theorem QA:fP Tryz.prog 94 Pe where
 agg:=by kernel_rfl
 size:=by kernel_rfl
 zero:=by kernel_rfl
 zst:=fun _=>rfl
 zsize:=by kernel_rfl
 zagg:=fun h=>by cases h
 fields:= .inl rfl
 fsize:=fun _ _ h=>by cases h
 arr:=fun _ _ _ h=>by cases h
 elem:=fun _ _ _ h=>by cases h;exact⟨by kernel_rfl,by kernel_rfl,rfl,by kernel_rfl,by kernel_rfl,by decide,by decide⟩
 ints:=fun _ _ _ h=>by cases h
 int:=fun _ h=>by cases h
 bool:=fun h=>by cases h
 str:=fun h=>by cases h
 eq:=fun h=>by cases h
def O4:TI:=⟨false,false,1, .s .nils,[],none,some (29,132, .pt),none⟩
theorem Qj:fP Tryz.prog 30 O4 where
 agg:=by kernel_rfl
 size:=by kernel_rfl
 zero:=by kernel_rfl
 zst:=fun _=>rfl
 zsize:=by kernel_rfl
 zagg:=fun h=>by cases h
 fields:= .inl rfl
 fsize:=fun _ _ h=>by cases h
 arr:=fun _ _ _ h=>by cases h
 elem:=fun _ _ _ h=>by cases h;exact⟨by kernel_rfl,by kernel_rfl,rfl,by kernel_rfl,by kernel_rfl,by decide,by decide⟩
 ints:=fun _ _ _ h=>by cases h
 int:=fun _ h=>by cases h
 bool:=fun h=>by cases h
 str:=fun h=>by cases h
 eq:=fun h=>by cases h
def O7:TI:=⟨false,false,1, .s .nils,[],none,some (58,3, .i3),none⟩
theorem Qn:fP Tryz.prog 46 O7 where
 agg:=by kernel_rfl
 size:=by kernel_rfl
 zero:=by kernel_rfl
 zst:=fun _=>rfl
 zsize:=by kernel_rfl
 zagg:=fun h=>by cases h
 fields:= .inl rfl
 fsize:=fun _ _ h=>by cases h
 arr:=fun _ _ _ h=>by cases h
 elem:=fun _ _ _ h=>by cases h;exact⟨by kernel_rfl,by kernel_rfl,rfl,by kernel_rfl,by kernel_rfl,by decide,by decide⟩
 ints:=fun _ _ _ h=>by cases h
 int:=fun _ h=>by cases h
 bool:=fun h=>by cases h
 str:=fun h=>by cases h
 eq:=fun h=>by cases h
def O6:TI:=⟨false,false,1, .s .nils,[],none,some (56,3, .i3),none⟩
theorem Qm:fP Tryz.prog 45 O6 where
 agg:=by kernel_rfl
 size:=by kernel_rfl
 zero:=by kernel_rfl
 zst:=fun _=>rfl
 zsize:=by kernel_rfl
 zagg:=fun h=>by cases h
 fields:= .inl rfl
 fsize:=fun _ _ h=>by cases h
 arr:=fun _ _ _ h=>by cases h
 elem:=fun _ _ _ h=>by cases h;exact⟨by kernel_rfl,by kernel_rfl,rfl,by kernel_rfl,by kernel_rfl,by decide,by decide⟩
 ints:=fun _ _ _ h=>by cases h
 int:=fun _ h=>by cases h
 bool:=fun h=>by cases h
 str:=fun h=>by cases h
 eq:=fun h=>by cases h
def Pd:TI:=⟨false,false,1, .s .nils,[],none,some (124,3, .i3),none⟩
theorem Qx:fP Tryz.prog 75 Pd where
 agg:=by kernel_rfl
 size:=by kernel_rfl
 zero:=by kernel_rfl
 zst:=fun _=>rfl
 zsize:=by kernel_rfl
 zagg:=fun h=>by cases h
 fields:= .inl rfl
 fsize:=fun _ _ h=>by cases h
 arr:=fun _ _ _ h=>by cases h
 elem:=fun _ _ _ h=>by cases h;exact⟨by kernel_rfl,by kernel_rfl,rfl,by kernel_rfl,by kernel_rfl,by decide,by decide⟩
 ints:=fun _ _ _ h=>by cases h
 int:=fun _ h=>by cases h
 bool:=fun h=>by cases h
 str:=fun h=>by cases h
 eq:=fun h=>by cases h
def tT:Nat→Option TI
 | 50=>some O8
 | 3=>some Sb
 | 2=>some Sa
 | 5=>some Se
 | 31=>some O5
 | 71=>some Pc
 | 22=>some O2
 | 173=>some Io
 | 59=>some O9
 | 21=>some O1
 | 4=>some Sd
 | 9=>some Sf
 | 122=>some Ij
 | 62=>some LZ
 | 58=>some LY
 | 56=>some LX
 | 124=>some EN
 | 25=>some LS
 | 27=>some LT
 | 29=>some LU
 | 23=>some O3
 | 191=>some Ip
 | 69=>some Pb
 | 116=>some Ii
 | 167=>some EP
 | 169=>some ER
 | 171=>some ES
 | 130=>some EO
 | 88=>some L1
 | 212=>some Iq
 | 203=>some ET
 | 205=>some EU
 | 158=>some Im
 | 113=>some EL
 | 115=>some EM
 | 110=>some EK
 | 48=>some LV
 | 102=>some EI
 | 104=>some EJ
 | 77=>some L0
 | 64=>some Pa
 | 139=>some Ik
 | 140=>some Il
 | 94=>some Pe
 | 30=>some O4
 | 46=>some O7
 | 45=>some O6
 | 75=>some Pd
 | _=>none
theorem tok:TOK Tryz.prog tT:=fun t i h=>by
 unfold tT at h
 split at h
 ·cases h;exact Qp
 ·cases h;exact ST
 ·cases h;exact SS
 ·cases h;exact SZ
 ·cases h;exact Ql
 ·cases h;exact Qw
 ·cases h;exact Qe
 ·cases h;exact NS
 ·cases h;exact Qs
 ·cases h;exact Qd
 ·cases h;exact SY
 ·cases h;exact S0
 ·cases h;exact NJ
 ·cases h;exact Qt
 ·cases h;exact Qr
 ·cases h;exact Qq
 ·cases h;exact NK
 ·cases h;exact Qg
 ·cases h;exact Qh
 ·cases h;exact Qi
 ·cases h;exact Qf
 ·cases h;exact NT
 ·cases h;exact Qv
 ·cases h;exact NI
 ·cases h;exact NP
 ·cases h;exact NQ
 ·cases h;exact NR
 ·cases h;exact NL
 ·cases h;exact Qz
 ·cases h;exact NW
 ·cases h;exact NU
 ·cases h;exact NV
 ·cases h;exact NO
 ·cases h;exact NG
 ·cases h;exact NH
 ·cases h;exact NF
 ·cases h;exact Qo
 ·cases h;exact NC
 ·cases h;exact ND
 ·cases h;exact Qy
 ·cases h;exact Qu
 ·cases h;exact NM
 ·cases h;exact NN
 ·cases h;exact QA
 ·cases h;exact Qj
 ·cases h;exact Qn
 ·cases h;exact Qm
 ·cases h;exact Qx
 ·cases h
theorem aL:Tryz.prog.follows .mixedOrders=true:=by kernel_rfl
end Go.Eng

