
import Derived.Test.YtekohdfjkmdlpaaEngMW
import Derived.Test.YtekohdfjkmdlpaaProg
set_option linter.all false
set_option exponentiation.threshold 3000
namespace Go.Eng
open Go.Proofs
set_option maxRecDepth 100000
def T6:TI:=⟨true,false,1, .s (.lit .i64 0),[],none,none,some (.int .i64)⟩
theorem Ui:fP Try.prog 33 T6 where
 agg:=by kernel_rfl
 size:=by kernel_rfl
 zero:=by kernel_rfl
 zst:=fun _=>rfl
 zsize:=by kernel_rfl
 zagg:=fun h=>by cases h
 fields:= .inl rfl
 fsize:=fun _ _ h=>by cases h
 arr:=fun _ _ _ h=>by cases h
 elem:=fun _ _ _ h=>by cases h
 ints:=fun _ _ _ h=>by cases h
 int:=fun _ h=>by cases h;kernel_rfl
 bool:=fun h=>by cases h
 str:=fun h=>by cases h
 eq:=fun _=>⟨by kernel_rfl,by kernel_rfl⟩
def Sb:TI:=⟨true,false,1, .s (.lit .i64 0),[],none,none,some (.int .i64)⟩
theorem ST:fP Try.prog 3 Sb where
 agg:=by kernel_rfl
 size:=by kernel_rfl
 zero:=by kernel_rfl
 zst:=fun _=>rfl
 zsize:=by kernel_rfl
 zagg:=fun h=>by cases h
 fields:= .inl rfl
 fsize:=fun _ _ h=>by cases h
 arr:=fun _ _ _ h=>by cases h
 elem:=fun _ _ _ h=>by cases h
 ints:=fun _ _ _ h=>by cases h
 int:=fun _ h=>by cases h;kernel_rfl
 bool:=fun h=>by cases h
 str:=fun h=>by cases h
 eq:=fun _=>⟨by kernel_rfl,by kernel_rfl⟩
def Sa:TI:=⟨true,false,1, .s (.lit .i64 0),[],none,none,some (.int .i64)⟩
theorem SS:fP Try.prog 2 Sa where
 agg:=by kernel_rfl
 size:=by kernel_rfl
 zero:=by kernel_rfl
 zst:=fun _=>rfl
 zsize:=by kernel_rfl
 zagg:=fun h=>by cases h
 fields:= .inl rfl
 fsize:=fun _ _ h=>by cases h
 arr:=fun _ _ _ h=>by cases h
 elem:=fun _ _ _ h=>by cases h
 ints:=fun _ _ _ h=>by cases h
 int:=fun _ h=>by cases h;kernel_rfl
 bool:=fun h=>by cases h
 str:=fun h=>by cases h
 eq:=fun _=>⟨by kernel_rfl,by kernel_rfl⟩
def Se:TI:=⟨true,false,1, .s (.lit .u8 0),[],none,none,some (.int .u8)⟩
theorem SZ:fP Try.prog 5 Se where
 agg:=by kernel_rfl
 size:=by kernel_rfl
 zero:=by kernel_rfl
 zst:=fun _=>rfl
 zsize:=by kernel_rfl
 zagg:=fun h=>by cases h
 fields:= .inl rfl
 fsize:=fun _ _ h=>by cases h
 arr:=fun _ _ _ h=>by cases h
 elem:=fun _ _ _ h=>by cases h
 ints:=fun _ _ _ h=>by cases h
 int:=fun _ h=>by cases h;kernel_rfl
 bool:=fun h=>by cases h
 str:=fun h=>by cases h
 eq:=fun _=>⟨by kernel_rfl,by kernel_rfl⟩
def T7:TI:=⟨true,false,1, .s (.lit .u32 0),[],none,none,some (.int .u32)⟩
theorem Uj:fP Try.prog 37 T7 where
 agg:=by kernel_rfl
 size:=by kernel_rfl
 zero:=by kernel_rfl
 zst:=fun _=>rfl
 zsize:=by kernel_rfl
 zagg:=fun h=>by cases h
 fields:= .inl rfl
 fsize:=fun _ _ h=>by cases h
 arr:=fun _ _ _ h=>by cases h
 elem:=fun _ _ _ h=>by cases h
 ints:=fun _ _ _ h=>by cases h
 int:=fun _ h=>by cases h;kernel_rfl
 bool:=fun h=>by cases h
 str:=fun h=>by cases h
 eq:=fun _=>⟨by kernel_rfl,by kernel_rfl⟩
def Ub:TI:=⟨true,false,1, .s (.lit .u64 0),[],none,none,some (.int .u64)⟩
theorem Ut:fP Try.prog 81 Ub where
 agg:=by kernel_rfl
 size:=by kernel_rfl
 zero:=by kernel_rfl
 zst:=fun _=>rfl
 zsize:=by kernel_rfl
 zagg:=fun h=>by cases h
 fields:= .inl rfl
 fsize:=fun _ _ h=>by cases h
 arr:=fun _ _ _ h=>by cases h
 elem:=fun _ _ _ h=>by cases h
 ints:=fun _ _ _ h=>by cases h
 int:=fun _ h=>by cases h;kernel_rfl
 bool:=fun h=>by cases h
 str:=fun h=>by cases h
 eq:=fun _=>⟨by kernel_rfl,by kernel_rfl⟩
def Uc:TI:=⟨true,false,1, .s (.lit .u64 0),[],none,none,some (.int .u64)⟩
theorem Uu:fP Try.prog 84 Uc where
 agg:=by kernel_rfl
 size:=by kernel_rfl
 zero:=by kernel_rfl
 zst:=fun _=>rfl
 zsize:=by kernel_rfl
 zagg:=fun h=>by cases h
 fields:= .inl rfl
 fsize:=fun _ _ h=>by cases h
 arr:=fun _ _ _ h=>by cases h
 elem:=fun _ _ _ h=>by cases h
 ints:=fun _ _ _ h=>by cases h
 int:=fun _ h=>by cases h;kernel_rfl
 bool:=fun h=>by cases h
 str:=fun h=>by cases h
 eq:=fun _=>⟨by kernel_rfl,by kernel_rfl⟩
def O1:TI:=⟨true,false,1, .s (.lit .i32 0),[],none,none,some (.int .i32)⟩
theorem Qd:fP Try.prog 21 O1 where
 agg:=by kernel_rfl
 size:=by kernel_rfl
 zero:=by kernel_rfl
 zst:=fun _=>rfl
 zsize:=by kernel_rfl
 zagg:=fun h=>by cases h
 fields:= .inl rfl
 fsize:=fun _ _ h=>by cases h
 arr:=fun _ _ _ h=>by cases h
 elem:=fun _ _ _ h=>by cases h
 ints:=fun _ _ _ h=>by cases h
 int:=fun _ h=>by cases h;kernel_rfl
 bool:=fun h=>by cases h
 str:=fun h=>by cases h
 eq:=fun _=>⟨by kernel_rfl,by kernel_rfl⟩
def Sd:TI:=⟨true,false,1, .s (.tt false),[],none,none,some .bool⟩
theorem SY:fP Try.prog 4 Sd where
 agg:=by kernel_rfl
 size:=by kernel_rfl
 zero:=by kernel_rfl
 zst:=fun _=>rfl
 zsize:=by kernel_rfl
 zagg:=fun h=>by cases h
 fields:= .inl rfl
 fsize:=fun _ _ h=>by cases h
 arr:=fun _ _ _ h=>by cases h
 elem:=fun _ _ _ h=>by cases h
 ints:=fun _ _ _ h=>by cases h
 int:=fun _ h=>by cases h
 bool:=fun _=>by kernel_rfl
 str:=fun h=>by cases h
 eq:=fun _=>⟨by kernel_rfl,by kernel_rfl⟩
def Sf:TI:=⟨false,false,1, .s (.str ByteArray.empty),[],none,none,some .str⟩
theorem S0:fP Try.prog 9 Sf where
 agg:=by kernel_rfl
 size:=by kernel_rfl
 zero:=by kernel_rfl
 zst:=fun _=>rfl
 zsize:=by kernel_rfl
 zagg:=fun h=>by cases h
 fields:= .inl rfl
 fsize:=fun _ _ h=>by cases h
 arr:=fun _ _ _ h=>by cases h
 elem:=fun _ _ _ h=>by cases h
 ints:=fun _ _ _ h=>by cases h
 int:=fun _ h=>by cases h
 bool:=fun h=>by cases h
 str:=fun _=>by kernel_rfl
 eq:=fun h=>by cases h
def T9:TI:=⟨false,false,1, .s .nilf,[],none,none,none⟩
theorem Up:fP Try.prog 57 T9 where
 agg:=by kernel_rfl
 size:=by kernel_rfl
 zero:=by kernel_rfl
 zst:=fun _=>rfl
 zsize:=by kernel_rfl
 zagg:=fun h=>by cases h
 fields:= .inl rfl
 fsize:=fun _ _ h=>by cases h
 arr:=fun _ _ _ h=>by cases h
 elem:=fun _ _ _ h=>by cases h
 ints:=fun _ _ _ h=>by cases h
 int:=fun _ h=>by cases h
 bool:=fun h=>by cases h
 str:=fun h=>by cases h
 eq:=fun h=>by cases h
def TT:TI:=⟨true,true,3, .g [.s (.lit .i64 0), .s (.lit .i64 0), .s (.lit .i64 0)],[(0,1),(1,1),(2,1)],none,none,none⟩
theorem Uh:fP Try.prog 32 TT where
 agg:=by kernel_rfl
 size:=by kernel_rfl
 zero:=by kernel_rfl
 zst:=fun _=>rfl
 zsize:=by kernel_rfl
 zagg:=fun _=>⟨_,rfl⟩
 fields:= .inr ⟨Try.prog.fieldsOf 32,by kernel_rfl,by kernel_rfl⟩
 fsize:=fun o z h=>by simp[TT] at h;omega
 arr:=fun _ _ _ h=>by cases h
 elem:=fun _ _ _ h=>by cases h
 ints:=fun _ _ _ h=>by cases h
 int:=fun _ h=>by cases h
 bool:=fun h=>by cases h
 str:=fun h=>by cases h
 eq:=fun _=>⟨by kernel_rfl,by kernel_rfl⟩
def O4:TI:=⟨true,true,3, .g [.s (.lit .i64 0), .s (.lit .i64 0), .s (.lit .i64 0)],[(0,1),(1,1),(2,1)],none,none,none⟩
theorem Qj:fP Try.prog 30 O4 where
 agg:=by kernel_rfl
 size:=by kernel_rfl
 zero:=by kernel_rfl
 zst:=fun _=>rfl
 zsize:=by kernel_rfl
 zagg:=fun _=>⟨_,rfl⟩
 fields:= .inr ⟨Try.prog.fieldsOf 30,by kernel_rfl,by kernel_rfl⟩
 fsize:=fun o z h=>by simp[O4] at h;omega
 arr:=fun _ _ _ h=>by cases h
 elem:=fun _ _ _ h=>by cases h
 ints:=fun _ _ _ h=>by cases h
 int:=fun _ h=>by cases h
 bool:=fun h=>by cases h
 str:=fun h=>by cases h
 eq:=fun _=>⟨by kernel_rfl,by kernel_rfl⟩
def TU:TI:=⟨true,true,33, .g [.W ⟨false,Dg.zero⟩],[(0,1),(1,32)],none,none,none⟩
theorem Ul:fP Try.prog 40 TU where
 agg:=by kernel_rfl
 size:=by kernel_rfl
 zero:=by kernel_rfl
 zst:=fun _=>rfl
 zsize:=by kernel_rfl
 zagg:=fun _=>⟨_,rfl⟩
 fields:= .inr ⟨Try.prog.fieldsOf 40,by kernel_rfl,by kernel_rfl⟩
 fsize:=fun o z h=>by simp[TU] at h;omega
 arr:=fun _ _ _ h=>by cases h
 elem:=fun _ _ _ h=>by cases h
 ints:=fun _ _ _ h=>by cases h
 int:=fun _ h=>by cases h
 bool:=fun h=>by cases h
 str:=fun h=>by cases h
 eq:=fun _=>⟨by kernel_rfl,by kernel_rfl⟩
def TV:TI:=⟨true,true,66, .g [.R ⟨⟨false,Dg.zero⟩,⟨false,Dg.zero⟩⟩],[(0,33),(33,33)],none,none,none⟩
theorem Um:fP Try.prog 42 TV where
 agg:=by kernel_rfl
 size:=by kernel_rfl
 zero:=by kernel_rfl
 zst:=fun _=>rfl
 zsize:=by kernel_rfl
 zagg:=fun _=>⟨_,rfl⟩
 fields:= .inr ⟨Try.prog.fieldsOf 42,by kernel_rfl,by kernel_rfl⟩
 fsize:=fun o z h=>by simp[TV] at h;omega
 arr:=fun _ _ _ h=>by cases h
 elem:=fun _ _ _ h=>by cases h
 ints:=fun _ _ _ h=>by cases h
 int:=fun _ h=>by cases h
 bool:=fun h=>by cases h
 str:=fun h=>by cases h
 eq:=fun _=>⟨by kernel_rfl,by kernel_rfl⟩
def TW:TI:=⟨true,true,132, .g [.P ⟨⟨⟨false,Dg.zero⟩,⟨false,Dg.zero⟩⟩,⟨⟨false,Dg.zero⟩,⟨false,Dg.zero⟩⟩⟩],[(0,66),(66,66)],none,none,none⟩
theorem Un:fP Try.prog 44 TW where
 agg:=by kernel_rfl
 size:=by kernel_rfl
 zero:=by kernel_rfl
 zst:=fun _=>rfl
 zsize:=by kernel_rfl
 zagg:=fun _=>⟨_,rfl⟩
 fields:= .inr ⟨Try.prog.fieldsOf 44,by kernel_rfl,by kernel_rfl⟩
 fsize:=fun o z h=>by simp[TW] at h;omega
 arr:=fun _ _ _ h=>by cases h
 elem:=fun _ _ _ h=>by cases h
 ints:=fun _ _ _ h=>by cases h
 int:=fun _ h=>by cases h
 bool:=fun h=>by cases h
 str:=fun h=>by cases h
 eq:=fun _=>⟨by kernel_rfl,by kernel_rfl⟩
def T8:TI:=⟨true,true,32, .g [.D Dg.zero],[],some (32,37,1),none,none⟩
theorem Uk:fP Try.prog 38 T8 where
 agg:=by kernel_rfl
 size:=by kernel_rfl
 zero:=by kernel_rfl
 zst:=fun _=>rfl
 zsize:=by kernel_rfl
 zagg:=fun _=>⟨_,rfl⟩
 fields:= .inl rfl
 fsize:=fun _ _ h=>by cases h
 arr:=fun _ _ _ h=>by cases h;exact⟨by kernel_rfl,by kernel_rfl⟩
 elem:=fun _ _ _ h=>by cases h
 ints:=fun _ _ _ h=>by cases h
 int:=fun _ h=>by cases h
 bool:=fun h=>by cases h
 str:=fun h=>by cases h
 eq:=fun _=>⟨by kernel_rfl,by kernel_rfl⟩
def TM:TI:=⟨true,true,32, .g [.D Dg.zero],[],some (32,37,1),none,none⟩
theorem T2:fP Try.prog 109 TM where
 agg:=by kernel_rfl
 size:=by kernel_rfl
 zero:=by kernel_rfl
 zst:=fun _=>rfl
 zsize:=by kernel_rfl
 zagg:=fun _=>⟨_,rfl⟩
 fields:= .inl rfl
 fsize:=fun _ _ h=>by cases h
 arr:=fun _ _ _ h=>by cases h;exact⟨by kernel_rfl,by kernel_rfl⟩
 elem:=fun _ _ _ h=>by cases h
 ints:=fun _ _ _ h=>by cases h
 int:=fun _ h=>by cases h
 bool:=fun h=>by cases h
 str:=fun h=>by cases h
 eq:=fun _=>⟨by kernel_rfl,by kernel_rfl⟩
def T0:TI:=⟨true,true,2, .g [.s (.lit .i64 0), .s (.lit .i64 0)],[(0,1),(1,1)],none,none,none⟩
theorem Ux:fP Try.prog 90 T0 where
 agg:=by kernel_rfl
 size:=by kernel_rfl
 zero:=by kernel_rfl
 zst:=fun _=>rfl
 zsize:=by kernel_rfl
 zagg:=fun _=>⟨_,rfl⟩
 fields:= .inr ⟨Try.prog.fieldsOf 90,by kernel_rfl,by kernel_rfl⟩
 fsize:=fun o z h=>by simp[T0] at h;omega
 arr:=fun _ _ _ h=>by cases h
 elem:=fun _ _ _ h=>by cases h
 ints:=fun _ _ _ h=>by cases h
 int:=fun _ h=>by cases h
 bool:=fun h=>by cases h
 str:=fun h=>by cases h
 eq:=fun _=>⟨by kernel_rfl,by kernel_rfl⟩
def QL:TI:=⟨true,true,1, .g [.s (.tt false)],[(0,1)],none,none,none⟩
theorem T4:fP Try.prog 141 QL where
 agg:=by kernel_rfl
 size:=by kernel_rfl
 zero:=by kernel_rfl
 zst:=fun _=>rfl
 zsize:=by kernel_rfl
 zagg:=fun _=>⟨_,rfl⟩
 fields:= .inr ⟨Try.prog.fieldsOf 141,by kernel_rfl,by kernel_rfl⟩
 fsize:=fun o z h=>by simp[QL] at h;omega
 arr:=fun _ _ _ h=>by cases h
 elem:=fun _ _ _ h=>by cases h
 ints:=fun _ _ _ h=>by cases h
 int:=fun _ h=>by cases h
 bool:=fun h=>by cases h
 str:=fun h=>by cases h
 eq:=fun _=>⟨by kernel_rfl,by kernel_rfl⟩
def EO:TI:=⟨true,true,64, .g [.D Dg.zero, .D Dg.zero],[],some (64,37,1),none,none⟩
theorem NL:fP Try.prog 130 EO where
 agg:=by kernel_rfl
 size:=by kernel_rfl
 zero:=by kernel_rfl
 zst:=fun _=>rfl
 zsize:=by kernel_rfl
 zagg:=fun _=>⟨_,rfl⟩
 fields:= .inl rfl
 fsize:=fun _ _ h=>by cases h
 arr:=fun _ _ _ h=>by cases h;exact⟨by kernel_rfl,by kernel_rfl⟩
 elem:=fun _ _ _ h=>by cases h
 ints:=fun _ _ _ h=>by cases h
 int:=fun _ h=>by cases h
 bool:=fun h=>by cases h
 str:=fun h=>by cases h
 eq:=fun _=>⟨by kernel_rfl,by kernel_rfl⟩
def TY:TI:=⟨true,true,264, .g [.P ⟨⟨⟨false,Dg.zero⟩,⟨false,Dg.zero⟩⟩,⟨⟨false,Dg.zero⟩,⟨false,Dg.zero⟩⟩⟩, .P ⟨⟨⟨false,Dg.zero⟩,⟨false,Dg.zero⟩⟩,⟨⟨false,Dg.zero⟩,⟨false,Dg.zero⟩⟩⟩],[(0,132),(132,132)],none,none,none⟩
theorem Ur:fP Try.prog 78 TY where
 agg:=by kernel_rfl
 size:=by kernel_rfl
 zero:=by kernel_rfl
 zst:=fun _=>rfl
 zsize:=by kernel_rfl
 zagg:=fun _=>⟨_,rfl⟩
 fields:= .inr ⟨Try.prog.fieldsOf 78,by kernel_rfl,by kernel_rfl⟩
 fsize:=fun o z h=>by simp[TY] at h;omega
 arr:=fun _ _ _ h=>by cases h
 elem:=fun _ _ _ h=>by cases h
 ints:=fun _ _ _ h=>by cases h
 int:=fun _ h=>by cases h
 bool:=fun h=>by cases h
 str:=fun h=>by cases h
 eq:=fun _=>⟨by kernel_rfl,by kernel_rfl⟩
def TZ:TI:=⟨true,true,264, .g [.P ⟨⟨⟨false,Dg.zero⟩,⟨false,Dg.zero⟩⟩,⟨⟨false,Dg.zero⟩,⟨false,Dg.zero⟩⟩⟩, .P ⟨⟨⟨false,Dg.zero⟩,⟨false,Dg.zero⟩⟩,⟨⟨false,Dg.zero⟩,⟨false,Dg.zero⟩⟩⟩],[(0,264)],none,none,none⟩
theorem Us:fP Try.prog 80 TZ where
 agg:=by kernel_rfl
 size:=by kernel_rfl
 zero:=by kernel_rfl
 zst:=fun _=>rfl
 zsize:=by kernel_rfl
 zagg:=fun _=>⟨_,rfl⟩
 fields:= .inr ⟨Try.prog.fieldsOf 80,by kernel_rfl,by kernel_rfl⟩
 fsize:=fun o z h=>by simp[TZ] at h;omega
 arr:=fun _ _ _ h=>by cases h
 elem:=fun _ _ _ h=>by cases h
 ints:=fun _ _ _ h=>by cases h
 int:=fun _ h=>by cases h
 bool:=fun h=>by cases h
 str:=fun h=>by cases h
 eq:=fun _=>⟨by kernel_rfl,by kernel_rfl⟩
def Pa:TI:=⟨true,true,132, .g [.R ⟨⟨false,Dg.zero⟩,⟨false,Dg.zero⟩⟩, .R ⟨⟨false,Dg.zero⟩,⟨false,Dg.zero⟩⟩],[],some (2,42,66),none,none⟩
theorem Qu:fP Try.prog 64 Pa where
 agg:=by kernel_rfl
 size:=by kernel_rfl
 zero:=by kernel_rfl
 zst:=fun _=>rfl
 zsize:=by kernel_rfl
 zagg:=fun _=>⟨_,rfl⟩
 fields:= .inl rfl
 fsize:=fun _ _ h=>by cases h
 arr:=fun _ _ _ h=>by cases h;exact⟨by kernel_rfl,by kernel_rfl⟩
 elem:=fun _ _ _ h=>by cases h
 ints:=fun _ _ _ h=>by cases h
 int:=fun _ h=>by cases h
 bool:=fun h=>by cases h
 str:=fun h=>by cases h
 eq:=fun _=>⟨by kernel_rfl,by kernel_rfl⟩
def TX:TI:=⟨true,true,2, .g [.s (.lit .i64 0), .s (.lit .i64 0)],[(0,1),(1,1)],none,none,none⟩
theorem Uo:fP Try.prog 55 TX where
 agg:=by kernel_rfl
 size:=by kernel_rfl
 zero:=by kernel_rfl
 zst:=fun _=>rfl
 zsize:=by kernel_rfl
 zagg:=fun _=>⟨_,rfl⟩
 fields:= .inr ⟨Try.prog.fieldsOf 55,by kernel_rfl,by kernel_rfl⟩
 fsize:=fun o z h=>by simp[TX] at h;omega
 arr:=fun _ _ _ h=>by cases h
 elem:=fun _ _ _ h=>by cases h
 ints:=fun _ _ _ h=>by cases h
 int:=fun _ h=>by cases h
 bool:=fun h=>by cases h
 str:=fun h=>by cases h
 eq:=fun _=>⟨by kernel_rfl,by kernel_rfl⟩
def LT:TI:=⟨false,true,3, .g [.s .nils, .s .nils, .s .nils],[(0,1),(1,1),(2,1)],none,none,none⟩
theorem Qh:fP Try.prog 27 LT where
 agg:=by kernel_rfl
 size:=by kernel_rfl
 zero:=by kernel_rfl
 zst:=fun _=>rfl
 zsize:=by kernel_rfl
 zagg:=fun _=>⟨_,rfl⟩
 fields:= .inr ⟨Try.prog.fieldsOf 27,by kernel_rfl,by kernel_rfl⟩
 fsize:=fun o z h=>by simp[LT] at h;omega
 arr:=fun _ _ _ h=>by cases h
 elem:=fun _ _ _ h=>by cases h
 ints:=fun _ _ _ h=>by cases h
 int:=fun _ h=>by cases h
 bool:=fun h=>by cases h
 str:=fun h=>by cases h
 eq:=fun h=>by cases h
def LV:TI:=⟨false,true,3, .g [.s .nils, .s .nils, .s .nils],[(0,3)],none,none,none⟩
theorem Qo:fP Try.prog 48 LV where
 agg:=by kernel_rfl
 size:=by kernel_rfl
 zero:=by kernel_rfl
 zst:=fun _=>rfl
 zsize:=by kernel_rfl
 zagg:=fun _=>⟨_,rfl⟩
 fields:= .inr ⟨Try.prog.fieldsOf 48,by kernel_rfl,by kernel_rfl⟩
 fsize:=fun o z h=>by simp[LV] at h;omega
 arr:=fun _ _ _ h=>by cases h
 elem:=fun _ _ _ h=>by cases h
 ints:=fun _ _ _ h=>by cases h
 int:=fun _ h=>by cases h
 bool:=fun h=>by cases h
 str:=fun h=>by cases h
 eq:=fun h=>by cases h
def O8:TI:=⟨false,true,3, .g [.s .nils, .s .nils, .s .nils],[(0,3)],none,none,none⟩
theorem Qp:fP Try.prog 50 O8 where
 agg:=by kernel_rfl
 size:=by kernel_rfl
 zero:=by kernel_rfl
 zst:=fun _=>rfl
 zsize:=by kernel_rfl
 zagg:=fun _=>⟨_,rfl⟩
 fields:= .inr ⟨Try.prog.fieldsOf 50,by kernel_rfl,by kernel_rfl⟩
 fsize:=fun o z h=>by simp[O8] at h;omega
 arr:=fun _ _ _ h=>by cases h
 elem:=fun _ _ _ h=>by cases h
 ints:=fun _ _ _ h=>by cases h
 int:=fun _ h=>by cases h
 bool:=fun h=>by cases h
 str:=fun h=>by cases h
 eq:=fun h=>by cases h
def Ua:TI:=⟨false,false,1, .s .nils,[],none,some (3,1, .int .i64),none⟩
theorem Uq:fP Try.prog 60 Ua where
 agg:=by kernel_rfl
 size:=by kernel_rfl
 zero:=by kernel_rfl
 zst:=fun _=>rfl
 zsize:=by kernel_rfl
 zagg:=fun h=>by cases h
 fields:= .inl rfl
 fsize:=fun _ _ h=>by cases h
 arr:=fun _ _ _ h=>by cases h
 elem:=fun _ _ _ h=>by cases h;exact⟨by kernel_rfl,by kernel_rfl,rfl,by kernel_rfl,by kernel_rfl,by decide,by decide⟩
 ints:=fun _ _ _ h=>by cases h;kernel_rfl
 int:=fun _ h=>by cases h
 bool:=fun h=>by cases h
 str:=fun h=>by cases h
 eq:=fun h=>by cases h
def Ud:TI:=⟨false,false,1, .s .nils,[],none,some (37,1, .int .u32),none⟩
theorem Uv:fP Try.prog 85 Ud where
 agg:=by kernel_rfl
 size:=by kernel_rfl
 zero:=by kernel_rfl
 zst:=fun _=>rfl
 zsize:=by kernel_rfl
 zagg:=fun h=>by cases h
 fields:= .inl rfl
 fsize:=fun _ _ h=>by cases h
 arr:=fun _ _ _ h=>by cases h
 elem:=fun _ _ _ h=>by cases h;exact⟨by kernel_rfl,by kernel_rfl,rfl,by kernel_rfl,by kernel_rfl,by decide,by decide⟩
 ints:=fun _ _ _ h=>by cases h;kernel_rfl
 int:=fun _ h=>by cases h
 bool:=fun h=>by cases h
 str:=fun h=>by cases h
 eq:=fun h=>by cases h
def Ue:TI:=⟨false,false,1, .s .nils,[],none,some (37,1, .int .u32),none⟩
theorem Uw:fP Try.prog 86 Ue where
 agg:=by kernel_rfl
 size:=by kernel_rfl
 zero:=by kernel_rfl
 zst:=fun _=>rfl
 zsize:=by kernel_rfl
 zagg:=fun h=>by cases h
 fields:= .inl rfl
 fsize:=fun _ _ h=>by cases h
 arr:=fun _ _ _ h=>by cases h
 elem:=fun _ _ _ h=>by cases h;exact⟨by kernel_rfl,by kernel_rfl,rfl,by kernel_rfl,by kernel_rfl,by decide,by decide⟩
 ints:=fun _ _ _ h=>by cases h;kernel_rfl
 int:=fun _ h=>by cases h
 bool:=fun h=>by cases h
 str:=fun h=>by cases h
 eq:=fun h=>by cases h
def TN:TI:=⟨false,false,1, .s .nils,[],none,some (42,66, .rt),none⟩
theorem T3:fP Try.prog 114 TN where
 agg:=by kernel_rfl
 size:=by kernel_rfl
 zero:=by kernel_rfl
 zst:=fun _=>rfl
 zsize:=by kernel_rfl
 zagg:=fun h=>by cases h
 fields:= .inl rfl
 fsize:=fun _ _ h=>by cases h
 arr:=fun _ _ _ h=>by cases h
 elem:=fun _ _ _ h=>by cases h;exact⟨by kernel_rfl,by kernel_rfl,rfl,by kernel_rfl,by kernel_rfl,by decide,by decide⟩
 ints:=fun _ _ _ h=>by cases h
 int:=fun _ h=>by cases h
 bool:=fun h=>by cases h
 str:=fun h=>by cases h
 eq:=fun h=>by cases h
def LS:TI:=⟨false,false,1, .s .nils,[],none,some (44,132, .pt),none⟩
theorem Qg:fP Try.prog 25 LS where
 agg:=by kernel_rfl
 size:=by kernel_rfl
 zero:=by kernel_rfl
 zst:=fun _=>rfl
 zsize:=by kernel_rfl
 zagg:=fun h=>by cases h
 fields:= .inl rfl
 fsize:=fun _ _ h=>by cases h
 arr:=fun _ _ _ h=>by cases h
 elem:=fun _ _ _ h=>by cases h;exact⟨by kernel_rfl,by kernel_rfl,rfl,by kernel_rfl,by kernel_rfl,by decide,by decide⟩
 ints:=fun _ _ _ h=>by cases h
 int:=fun _ h=>by cases h
 bool:=fun h=>by cases h
 str:=fun h=>by cases h
 eq:=fun h=>by cases h
def T5:TI:=⟨false,false,1, .s .nils,[],none,some (32,3, .i3),none⟩
theorem Ug:fP Try.prog 24 T5 where
 agg:=by kernel_rfl
 size:=by kernel_rfl
 zero:=by kernel_rfl
 zst:=fun _=>rfl
 zsize:=by kernel_rfl
 zagg:=fun h=>by cases h
 fields:= .inl rfl
 fsize:=fun _ _ h=>by cases h
 arr:=fun _ _ _ h=>by cases h
 elem:=fun _ _ _ h=>by cases h;exact⟨by kernel_rfl,by kernel_rfl,rfl,by kernel_rfl,by kernel_rfl,by decide,by decide⟩
 ints:=fun _ _ _ h=>by cases h
 int:=fun _ h=>by cases h
 bool:=fun h=>by cases h
 str:=fun h=>by cases h
 eq:=fun h=>by cases h
def O3:TI:=⟨false,false,1, .s .nils,[],none,some (30,3, .i3),none⟩
theorem Qf:fP Try.prog 23 O3 where
 agg:=by kernel_rfl
 size:=by kernel_rfl
 zero:=by kernel_rfl
 zst:=fun _=>rfl
 zsize:=by kernel_rfl
 zagg:=fun h=>by cases h
 fields:= .inl rfl
 fsize:=fun _ _ h=>by cases h
 arr:=fun _ _ _ h=>by cases h
 elem:=fun _ _ _ h=>by cases h;exact⟨by kernel_rfl,by kernel_rfl,rfl,by kernel_rfl,by kernel_rfl,by decide,by decide⟩
 ints:=fun _ _ _ h=>by cases h
 int:=fun _ h=>by cases h
 bool:=fun h=>by cases h
 str:=fun h=>by cases h
 eq:=fun h=>by cases h
def tT:Nat→Option TI
 | 33=>some T6
 | 3=>some Sb
 | 2=>some Sa
 | 5=>some Se
 | 37=>some T7
 | 81=>some Ub
 | 84=>some Uc
 | 21=>some O1
 | 4=>some Sd
 | 9=>some Sf
 | 57=>some T9
 | 32=>some TT
 | 30=>some O4
 | 40=>some TU
 | 42=>some TV
 | 44=>some TW
 | 38=>some T8
 | 109=>some TM
 | 90=>some T0
 | 141=>some QL
 | 130=>some EO
 | 78=>some TY
 | 80=>some TZ
 | 64=>some Pa
 | 55=>some TX
 | 27=>some LT
 | 48=>some LV
 | 50=>some O8
 | 60=>some Ua
 | 85=>some Ud
 | 86=>some Ue
 | 114=>some TN
 | 25=>some LS
 | 24=>some T5
 | 23=>some O3
 | _=>none
theorem tok:TOK Try.prog tT:=fun t i h=>by
 unfold tT at h
 split at h
 ·cases h;exact Ui
 ·cases h;exact ST
 ·cases h;exact SS
 ·cases h;exact SZ
 ·cases h;exact Uj
 ·cases h;exact Ut
 ·cases h;exact Uu
 ·cases h;exact Qd
 ·cases h;exact SY
 ·cases h;exact S0
 ·cases h;exact Up
 ·cases h;exact Uh
 ·cases h;exact Qj
 ·cases h;exact Ul
 ·cases h;exact Um
 ·cases h;exact Un
 ·cases h;exact Uk
 ·cases h;exact T2
 ·cases h;exact Ux
 ·cases h;exact T4
 ·cases h;exact NL
 ·cases h;exact Ur
 ·cases h;exact Us
 ·cases h;exact Qu
 ·cases h;exact Uo
 ·cases h;exact Qh
 ·cases h;exact Qo
 ·cases h;exact Qp
 ·cases h;exact Uq
 ·cases h;exact Uv
 ·cases h;exact Uw
 ·cases h;exact T3
 ·cases h;exact Qg
 ·cases h;exact Ug
 ·cases h;exact Qf
 ·cases h
theorem aL:Try.prog.follows .mixedOrders=true:=by kernel_rfl
end Go.Eng

