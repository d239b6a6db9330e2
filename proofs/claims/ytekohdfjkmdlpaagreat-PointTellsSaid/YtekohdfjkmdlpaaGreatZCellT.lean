
import Derived.Test.YtekohdfjkmdlpaaGreatEngMW
import Derived.Test.YtekohdfjkmdlpaaGreatProg
set_option linter.all false
set_option exponentiation.threshold 3000
namespace Go.Eng
open Go.Proofs
set_option maxRecDepth 100000
def ty_3 : TI := ⟨true, false, 1, .s (.lit .i64 0), [], none, none, some (.int .i64)⟩
theorem ok_3 : TyOK Tryz.prog 3 ty_3 where
  agg := by kernel_rfl
  size := by kernel_rfl
  zero := by kernel_rfl
  zst := fun _ => rfl
  zsize := by kernel_rfl
  zagg := fun h => by cases h
  fields := .inl rfl
  fsize := fun _ _ h => by cases h
  arr := fun _ _ _ h => by cases h
  elem := fun _ _ _ h => by cases h
  ints := fun _ _ _ h => by cases h
  int := fun _ h => by cases h; kernel_rfl
  bool := fun h => by cases h
  str := fun h => by cases h
  eq := fun _ => ⟨by kernel_rfl, by kernel_rfl⟩
def ty_2 : TI := ⟨true, false, 1, .s (.lit .i64 0), [], none, none, some (.int .i64)⟩
theorem ok_2 : TyOK Tryz.prog 2 ty_2 where
  agg := by kernel_rfl
  size := by kernel_rfl
  zero := by kernel_rfl
  zst := fun _ => rfl
  zsize := by kernel_rfl
  zagg := fun h => by cases h
  fields := .inl rfl
  fsize := fun _ _ h => by cases h
  arr := fun _ _ _ h => by cases h
  elem := fun _ _ _ h => by cases h
  ints := fun _ _ _ h => by cases h
  int := fun _ h => by cases h; kernel_rfl
  bool := fun h => by cases h
  str := fun h => by cases h
  eq := fun _ => ⟨by kernel_rfl, by kernel_rfl⟩
def ty_5 : TI := ⟨true, false, 1, .s (.lit .u8 0), [], none, none, some (.int .u8)⟩
theorem ok_5 : TyOK Tryz.prog 5 ty_5 where
  agg := by kernel_rfl
  size := by kernel_rfl
  zero := by kernel_rfl
  zst := fun _ => rfl
  zsize := by kernel_rfl
  zagg := fun h => by cases h
  fields := .inl rfl
  fsize := fun _ _ h => by cases h
  arr := fun _ _ _ h => by cases h
  elem := fun _ _ _ h => by cases h
  ints := fun _ _ _ h => by cases h
  int := fun _ h => by cases h; kernel_rfl
  bool := fun h => by cases h
  str := fun h => by cases h
  eq := fun _ => ⟨by kernel_rfl, by kernel_rfl⟩
def ty_31 : TI := ⟨true, false, 1, .s (.lit .i16 0), [], none, none, some (.int .i16)⟩
theorem ok_31 : TyOK Tryz.prog 31 ty_31 where
  agg := by kernel_rfl
  size := by kernel_rfl
  zero := by kernel_rfl
  zst := fun _ => rfl
  zsize := by kernel_rfl
  zagg := fun h => by cases h
  fields := .inl rfl
  fsize := fun _ _ h => by cases h
  arr := fun _ _ _ h => by cases h
  elem := fun _ _ _ h => by cases h
  ints := fun _ _ _ h => by cases h
  int := fun _ h => by cases h; kernel_rfl
  bool := fun h => by cases h
  str := fun h => by cases h
  eq := fun _ => ⟨by kernel_rfl, by kernel_rfl⟩
def ty_71 : TI := ⟨true, false, 1, .s (.lit .i8 0), [], none, none, some (.int .i8)⟩
theorem ok_71 : TyOK Tryz.prog 71 ty_71 where
  agg := by kernel_rfl
  size := by kernel_rfl
  zero := by kernel_rfl
  zst := fun _ => rfl
  zsize := by kernel_rfl
  zagg := fun h => by cases h
  fields := .inl rfl
  fsize := fun _ _ h => by cases h
  arr := fun _ _ _ h => by cases h
  elem := fun _ _ _ h => by cases h
  ints := fun _ _ _ h => by cases h
  int := fun _ h => by cases h; kernel_rfl
  bool := fun h => by cases h
  str := fun h => by cases h
  eq := fun _ => ⟨by kernel_rfl, by kernel_rfl⟩
def ty_22 : TI := ⟨true, false, 1, .s (.lit .u32 0), [], none, none, some (.int .u32)⟩
theorem ok_22 : TyOK Tryz.prog 22 ty_22 where
  agg := by kernel_rfl
  size := by kernel_rfl
  zero := by kernel_rfl
  zst := fun _ => rfl
  zsize := by kernel_rfl
  zagg := fun h => by cases h
  fields := .inl rfl
  fsize := fun _ _ h => by cases h
  arr := fun _ _ _ h => by cases h
  elem := fun _ _ _ h => by cases h
  ints := fun _ _ _ h => by cases h
  int := fun _ h => by cases h; kernel_rfl
  bool := fun h => by cases h
  str := fun h => by cases h
  eq := fun _ => ⟨by kernel_rfl, by kernel_rfl⟩
def ty_173 : TI := ⟨true, false, 1, .s (.lit .u64 0), [], none, none, some (.int .u64)⟩
theorem ok_173 : TyOK Tryz.prog 173 ty_173 where
  agg := by kernel_rfl
  size := by kernel_rfl
  zero := by kernel_rfl
  zst := fun _ => rfl
  zsize := by kernel_rfl
  zagg := fun h => by cases h
  fields := .inl rfl
  fsize := fun _ _ h => by cases h
  arr := fun _ _ _ h => by cases h
  elem := fun _ _ _ h => by cases h
  ints := fun _ _ _ h => by cases h
  int := fun _ h => by cases h; kernel_rfl
  bool := fun h => by cases h
  str := fun h => by cases h
  eq := fun _ => ⟨by kernel_rfl, by kernel_rfl⟩
def ty_59 : TI := ⟨true, false, 1, .s (.lit .u64 0), [], none, none, some (.int .u64)⟩
theorem ok_59 : TyOK Tryz.prog 59 ty_59 where
  agg := by kernel_rfl
  size := by kernel_rfl
  zero := by kernel_rfl
  zst := fun _ => rfl
  zsize := by kernel_rfl
  zagg := fun h => by cases h
  fields := .inl rfl
  fsize := fun _ _ h => by cases h
  arr := fun _ _ _ h => by cases h
  elem := fun _ _ _ h => by cases h
  ints := fun _ _ _ h => by cases h
  int := fun _ h => by cases h; kernel_rfl
  bool := fun h => by cases h
  str := fun h => by cases h
  eq := fun _ => ⟨by kernel_rfl, by kernel_rfl⟩
def ty_21 : TI := ⟨true, false, 1, .s (.lit .i32 0), [], none, none, some (.int .i32)⟩
theorem ok_21 : TyOK Tryz.prog 21 ty_21 where
  agg := by kernel_rfl
  size := by kernel_rfl
  zero := by kernel_rfl
  zst := fun _ => rfl
  zsize := by kernel_rfl
  zagg := fun h => by cases h
  fields := .inl rfl
  fsize := fun _ _ h => by cases h
  arr := fun _ _ _ h => by cases h
  elem := fun _ _ _ h => by cases h
  ints := fun _ _ _ h => by cases h
  int := fun _ h => by cases h; kernel_rfl
  bool := fun h => by cases h
  str := fun h => by cases h
  eq := fun _ => ⟨by kernel_rfl, by kernel_rfl⟩
def ty_4 : TI := ⟨true, false, 1, .s (.tt false), [], none, none, some .bool⟩
theorem ok_4 : TyOK Tryz.prog 4 ty_4 where
  agg := by kernel_rfl
  size := by kernel_rfl
  zero := by kernel_rfl
  zst := fun _ => rfl
  zsize := by kernel_rfl
  zagg := fun h => by cases h
  fields := .inl rfl
  fsize := fun _ _ h => by cases h
  arr := fun _ _ _ h => by cases h
  elem := fun _ _ _ h => by cases h
  ints := fun _ _ _ h => by cases h
  int := fun _ h => by cases h
  bool := fun _ => by kernel_rfl
  str := fun h => by cases h
  eq := fun _ => ⟨by kernel_rfl, by kernel_rfl⟩
def ty_9 : TI := ⟨false, false, 1, .s (.str ByteArray.empty), [], none, none, some .str⟩
theorem ok_9 : TyOK Tryz.prog 9 ty_9 where
  agg := by kernel_rfl
  size := by kernel_rfl
  zero := by kernel_rfl
  zst := fun _ => rfl
  zsize := by kernel_rfl
  zagg := fun h => by cases h
  fields := .inl rfl
  fsize := fun _ _ h => by cases h
  arr := fun _ _ _ h => by cases h
  elem := fun _ _ _ h => by cases h
  ints := fun _ _ _ h => by cases h
  int := fun _ h => by cases h
  bool := fun h => by cases h
  str := fun _ => by kernel_rfl
  eq := fun h => by cases h
def ty_62 : TI := ⟨true, true, 3, .g [.s (.lit .i64 0), .s (.lit .i64 0), .s (.lit .i64 0)], [(0, 1), (1, 1), (2, 1)], none, none, none⟩
theorem ok_62 : TyOK Tryz.prog 62 ty_62 where
  agg := by kernel_rfl
  size := by kernel_rfl
  zero := by kernel_rfl
  zst := fun _ => rfl
  zsize := by kernel_rfl
  zagg := fun _ => ⟨_, rfl⟩
  fields := .inr ⟨Tryz.prog.fieldsOf 62, by kernel_rfl, by kernel_rfl⟩
  fsize := fun o z h => by simp [ty_62] at h; omega
  arr := fun _ _ _ h => by cases h
  elem := fun _ _ _ h => by cases h
  ints := fun _ _ _ h => by cases h
  int := fun _ h => by cases h
  bool := fun h => by cases h
  str := fun h => by cases h
  eq := fun _ => ⟨by kernel_rfl, by kernel_rfl⟩
def ty_58 : TI := ⟨true, true, 3, .g [.s (.lit .i64 0), .s (.lit .i64 0), .s (.lit .i64 0)], [(0, 1), (1, 1), (2, 1)], none, none, none⟩
theorem ok_58 : TyOK Tryz.prog 58 ty_58 where
  agg := by kernel_rfl
  size := by kernel_rfl
  zero := by kernel_rfl
  zst := fun _ => rfl
  zsize := by kernel_rfl
  zagg := fun _ => ⟨_, rfl⟩
  fields := .inr ⟨Tryz.prog.fieldsOf 58, by kernel_rfl, by kernel_rfl⟩
  fsize := fun o z h => by simp [ty_58] at h; omega
  arr := fun _ _ _ h => by cases h
  elem := fun _ _ _ h => by cases h
  ints := fun _ _ _ h => by cases h
  int := fun _ h => by cases h
  bool := fun h => by cases h
  str := fun h => by cases h
  eq := fun _ => ⟨by kernel_rfl, by kernel_rfl⟩
def ty_56 : TI := ⟨true, true, 3, .g [.s (.lit .i64 0), .s (.lit .i64 0), .s (.lit .i64 0)], [(0, 1), (1, 1), (2, 1)], none, none, none⟩
theorem ok_56 : TyOK Tryz.prog 56 ty_56 where
  agg := by kernel_rfl
  size := by kernel_rfl
  zero := by kernel_rfl
  zst := fun _ => rfl
  zsize := by kernel_rfl
  zagg := fun _ => ⟨_, rfl⟩
  fields := .inr ⟨Tryz.prog.fieldsOf 56, by kernel_rfl, by kernel_rfl⟩
  fsize := fun o z h => by simp [ty_56] at h; omega
  arr := fun _ _ _ h => by cases h
  elem := fun _ _ _ h => by cases h
  ints := fun _ _ _ h => by cases h
  int := fun _ h => by cases h
  bool := fun h => by cases h
  str := fun h => by cases h
  eq := fun _ => ⟨by kernel_rfl, by kernel_rfl⟩
def ty_124 : TI := ⟨true, true, 3, .g [.s (.lit .i64 0), .s (.lit .i64 0), .s (.lit .i64 0)], [(0, 1), (1, 1), (2, 1)], none, none, none⟩
theorem ok_124 : TyOK Tryz.prog 124 ty_124 where
  agg := by kernel_rfl
  size := by kernel_rfl
  zero := by kernel_rfl
  zst := fun _ => rfl
  zsize := by kernel_rfl
  zagg := fun _ => ⟨_, rfl⟩
  fields := .inr ⟨Tryz.prog.fieldsOf 124, by kernel_rfl, by kernel_rfl⟩
  fsize := fun o z h => by simp [ty_124] at h; omega
  arr := fun _ _ _ h => by cases h
  elem := fun _ _ _ h => by cases h
  ints := fun _ _ _ h => by cases h
  int := fun _ h => by cases h
  bool := fun h => by cases h
  str := fun h => by cases h
  eq := fun _ => ⟨by kernel_rfl, by kernel_rfl⟩
def ty_25 : TI := ⟨true, true, 33, .g [.W ⟨false, Dg.zero⟩], [(0, 1), (1, 32)], none, none, none⟩
theorem ok_25 : TyOK Tryz.prog 25 ty_25 where
  agg := by kernel_rfl
  size := by kernel_rfl
  zero := by kernel_rfl
  zst := fun _ => rfl
  zsize := by kernel_rfl
  zagg := fun _ => ⟨_, rfl⟩
  fields := .inr ⟨Tryz.prog.fieldsOf 25, by kernel_rfl, by kernel_rfl⟩
  fsize := fun o z h => by simp [ty_25] at h; omega
  arr := fun _ _ _ h => by cases h
  elem := fun _ _ _ h => by cases h
  ints := fun _ _ _ h => by cases h
  int := fun _ h => by cases h
  bool := fun h => by cases h
  str := fun h => by cases h
  eq := fun _ => ⟨by kernel_rfl, by kernel_rfl⟩
def ty_27 : TI := ⟨true, true, 66, .g [.R ⟨⟨false, Dg.zero⟩, ⟨false, Dg.zero⟩⟩], [(0, 33), (33, 33)], none, none, none⟩
theorem ok_27 : TyOK Tryz.prog 27 ty_27 where
  agg := by kernel_rfl
  size := by kernel_rfl
  zero := by kernel_rfl
  zst := fun _ => rfl
  zsize := by kernel_rfl
  zagg := fun _ => ⟨_, rfl⟩
  fields := .inr ⟨Tryz.prog.fieldsOf 27, by kernel_rfl, by kernel_rfl⟩
  fsize := fun o z h => by simp [ty_27] at h; omega
  arr := fun _ _ _ h => by cases h
  elem := fun _ _ _ h => by cases h
  ints := fun _ _ _ h => by cases h
  int := fun _ h => by cases h
  bool := fun h => by cases h
  str := fun h => by cases h
  eq := fun _ => ⟨by kernel_rfl, by kernel_rfl⟩
def ty_29 : TI := ⟨true, true, 132, .g [.P ⟨⟨⟨false, Dg.zero⟩, ⟨false, Dg.zero⟩⟩, ⟨⟨false, Dg.zero⟩, ⟨false, Dg.zero⟩⟩⟩], [(0, 66), (66, 66)], none, none, none⟩
theorem ok_29 : TyOK Tryz.prog 29 ty_29 where
  agg := by kernel_rfl
  size := by kernel_rfl
  zero := by kernel_rfl
  zst := fun _ => rfl
  zsize := by kernel_rfl
  zagg := fun _ => ⟨_, rfl⟩
  fields := .inr ⟨Tryz.prog.fieldsOf 29, by kernel_rfl, by kernel_rfl⟩
  fsize := fun o z h => by simp [ty_29] at h; omega
  arr := fun _ _ _ h => by cases h
  elem := fun _ _ _ h => by cases h
  ints := fun _ _ _ h => by cases h
  int := fun _ h => by cases h
  bool := fun h => by cases h
  str := fun h => by cases h
  eq := fun _ => ⟨by kernel_rfl, by kernel_rfl⟩
def ty_23 : TI := ⟨true, true, 32, .g [.D Dg.zero], [], some (32, 22, 1), none, none⟩
theorem ok_23 : TyOK Tryz.prog 23 ty_23 where
  agg := by kernel_rfl
  size := by kernel_rfl
  zero := by kernel_rfl
  zst := fun _ => rfl
  zsize := by kernel_rfl
  zagg := fun _ => ⟨_, rfl⟩
  fields := .inl rfl
  fsize := fun _ _ h => by cases h
  arr := fun _ _ _ h => by cases h; exact ⟨by kernel_rfl, by kernel_rfl⟩
  elem := fun _ _ _ h => by cases h
  ints := fun _ _ _ h => by cases h
  int := fun _ h => by cases h
  bool := fun h => by cases h
  str := fun h => by cases h
  eq := fun _ => ⟨by kernel_rfl, by kernel_rfl⟩
def ty_191 : TI := ⟨true, true, 32, .g [.D Dg.zero], [], some (32, 22, 1), none, none⟩
theorem ok_191 : TyOK Tryz.prog 191 ty_191 where
  agg := by kernel_rfl
  size := by kernel_rfl
  zero := by kernel_rfl
  zst := fun _ => rfl
  zsize := by kernel_rfl
  zagg := fun _ => ⟨_, rfl⟩
  fields := .inl rfl
  fsize := fun _ _ h => by cases h
  arr := fun _ _ _ h => by cases h; exact ⟨by kernel_rfl, by kernel_rfl⟩
  elem := fun _ _ _ h => by cases h
  ints := fun _ _ _ h => by cases h
  int := fun _ h => by cases h
  bool := fun h => by cases h
  str := fun h => by cases h
  eq := fun _ => ⟨by kernel_rfl, by kernel_rfl⟩
def ty_69 : TI := ⟨true, true, 12, .g [.s (.lit .i64 0), .s (.lit .i64 0), .s (.lit .i64 0), .s (.lit .i64 0), .s (.lit .i64 0), .s (.lit .i64 0), .s (.lit .i64 0), .s (.lit .i64 0), .s (.lit .i64 0), .s (.lit .i64 0), .s (.lit .i64 0), .s (.lit .i64 0)], [], some (4, 62, 3), none, none⟩
theorem ok_69 : TyOK Tryz.prog 69 ty_69 where
  agg := by kernel_rfl
  size := by kernel_rfl
  zero := by kernel_rfl
  zst := fun _ => rfl
  zsize := by kernel_rfl
  zagg := fun _ => ⟨_, rfl⟩
  fields := .inl rfl
  fsize := fun _ _ h => by cases h
  arr := fun _ _ _ h => by cases h; exact ⟨by kernel_rfl, by kernel_rfl⟩
  elem := fun _ _ _ h => by cases h
  ints := fun _ _ _ h => by cases h
  int := fun _ h => by cases h
  bool := fun h => by cases h
  str := fun h => by cases h
  eq := fun _ => ⟨by kernel_rfl, by kernel_rfl⟩
def ty_116 : TI := ⟨true, true, 528, .g [.P ⟨⟨⟨false, Dg.zero⟩, ⟨false, Dg.zero⟩⟩, ⟨⟨false, Dg.zero⟩, ⟨false, Dg.zero⟩⟩⟩, .P ⟨⟨⟨false, Dg.zero⟩, ⟨false, Dg.zero⟩⟩, ⟨⟨false, Dg.zero⟩, ⟨false, Dg.zero⟩⟩⟩, .P ⟨⟨⟨false, Dg.zero⟩, ⟨false, Dg.zero⟩⟩, ⟨⟨false, Dg.zero⟩, ⟨false, Dg.zero⟩⟩⟩, .P ⟨⟨⟨false, Dg.zero⟩, ⟨false, Dg.zero⟩⟩, ⟨⟨false, Dg.zero⟩, ⟨false, Dg.zero⟩⟩⟩], [], some (4, 29, 132), none, none⟩
theorem ok_116 : TyOK Tryz.prog 116 ty_116 where
  agg := by kernel_rfl
  size := by kernel_rfl
  zero := by kernel_rfl
  zst := fun _ => rfl
  zsize := by kernel_rfl
  zagg := fun _ => ⟨_, rfl⟩
  fields := .inl rfl
  fsize := fun _ _ h => by cases h
  arr := fun _ _ _ h => by cases h; exact ⟨by kernel_rfl, by kernel_rfl⟩
  elem := fun _ _ _ h => by cases h
  ints := fun _ _ _ h => by cases h
  int := fun _ h => by cases h
  bool := fun h => by cases h
  str := fun h => by cases h
  eq := fun _ => ⟨by kernel_rfl, by kernel_rfl⟩
def ty_167 : TI := ⟨true, true, 2, .g [.s (.lit .i64 0), .s (.lit .i64 0)], [(0, 1), (1, 1)], none, none, none⟩
theorem ok_167 : TyOK Tryz.prog 167 ty_167 where
  agg := by kernel_rfl
  size := by kernel_rfl
  zero := by kernel_rfl
  zst := fun _ => rfl
  zsize := by kernel_rfl
  zagg := fun _ => ⟨_, rfl⟩
  fields := .inr ⟨Tryz.prog.fieldsOf 167, by kernel_rfl, by kernel_rfl⟩
  fsize := fun o z h => by simp [ty_167] at h; omega
  arr := fun _ _ _ h => by cases h
  elem := fun _ _ _ h => by cases h
  ints := fun _ _ _ h => by cases h
  int := fun _ h => by cases h
  bool := fun h => by cases h
  str := fun h => by cases h
  eq := fun _ => ⟨by kernel_rfl, by kernel_rfl⟩
def ty_169 : TI := ⟨true, true, 2, .g [.s (.lit .i64 0), .s (.lit .i64 0)], [(0, 2)], none, none, none⟩
theorem ok_169 : TyOK Tryz.prog 169 ty_169 where
  agg := by kernel_rfl
  size := by kernel_rfl
  zero := by kernel_rfl
  zst := fun _ => rfl
  zsize := by kernel_rfl
  zagg := fun _ => ⟨_, rfl⟩
  fields := .inr ⟨Tryz.prog.fieldsOf 169, by kernel_rfl, by kernel_rfl⟩
  fsize := fun o z h => by simp [ty_169] at h; omega
  arr := fun _ _ _ h => by cases h
  elem := fun _ _ _ h => by cases h
  ints := fun _ _ _ h => by cases h
  int := fun _ h => by cases h
  bool := fun h => by cases h
  str := fun h => by cases h
  eq := fun _ => ⟨by kernel_rfl, by kernel_rfl⟩
def ty_171 : TI := ⟨true, true, 4, .g [.s (.lit .i64 0), .s (.lit .i64 0), .s (.lit .i64 0), .s (.lit .i64 0)], [(0, 2), (2, 2)], none, none, none⟩
theorem ok_171 : TyOK Tryz.prog 171 ty_171 where
  agg := by kernel_rfl
  size := by kernel_rfl
  zero := by kernel_rfl
  zst := fun _ => rfl
  zsize := by kernel_rfl
  zagg := fun _ => ⟨_, rfl⟩
  fields := .inr ⟨Tryz.prog.fieldsOf 171, by kernel_rfl, by kernel_rfl⟩
  fsize := fun o z h => by simp [ty_171] at h; omega
  arr := fun _ _ _ h => by cases h
  elem := fun _ _ _ h => by cases h
  ints := fun _ _ _ h => by cases h
  int := fun _ h => by cases h
  bool := fun h => by cases h
  str := fun h => by cases h
  eq := fun _ => ⟨by kernel_rfl, by kernel_rfl⟩
def ty_130 : TI := ⟨true, true, 2, .g [.s (.lit .i64 0), .s (.lit .i64 0)], [(0, 1), (1, 1)], none, none, none⟩
theorem ok_130 : TyOK Tryz.prog 130 ty_130 where
  agg := by kernel_rfl
  size := by kernel_rfl
  zero := by kernel_rfl
  zst := fun _ => rfl
  zsize := by kernel_rfl
  zagg := fun _ => ⟨_, rfl⟩
  fields := .inr ⟨Tryz.prog.fieldsOf 130, by kernel_rfl, by kernel_rfl⟩
  fsize := fun o z h => by simp [ty_130] at h; omega
  arr := fun _ _ _ h => by cases h
  elem := fun _ _ _ h => by cases h
  ints := fun _ _ _ h => by cases h
  int := fun _ h => by cases h
  bool := fun h => by cases h
  str := fun h => by cases h
  eq := fun _ => ⟨by kernel_rfl, by kernel_rfl⟩
def ty_88 : TI := ⟨true, true, 1, .g [.s (.tt false)], [(0, 1)], none, none, none⟩
theorem ok_88 : TyOK Tryz.prog 88 ty_88 where
  agg := by kernel_rfl
  size := by kernel_rfl
  zero := by kernel_rfl
  zst := fun _ => rfl
  zsize := by kernel_rfl
  zagg := fun _ => ⟨_, rfl⟩
  fields := .inr ⟨Tryz.prog.fieldsOf 88, by kernel_rfl, by kernel_rfl⟩
  fsize := fun o z h => by simp [ty_88] at h; omega
  arr := fun _ _ _ h => by cases h
  elem := fun _ _ _ h => by cases h
  ints := fun _ _ _ h => by cases h
  int := fun _ h => by cases h
  bool := fun h => by cases h
  str := fun h => by cases h
  eq := fun _ => ⟨by kernel_rfl, by kernel_rfl⟩
def ty_212 : TI := ⟨true, true, 64, .g [.D Dg.zero, .D Dg.zero], [], some (64, 22, 1), none, none⟩
theorem ok_212 : TyOK Tryz.prog 212 ty_212 where
  agg := by kernel_rfl
  size := by kernel_rfl
  zero := by kernel_rfl
  zst := fun _ => rfl
  zsize := by kernel_rfl
  zagg := fun _ => ⟨_, rfl⟩
  fields := .inl rfl
  fsize := fun _ _ h => by cases h
  arr := fun _ _ _ h => by cases h; exact ⟨by kernel_rfl, by kernel_rfl⟩
  elem := fun _ _ _ h => by cases h
  ints := fun _ _ _ h => by cases h
  int := fun _ h => by cases h
  bool := fun h => by cases h
  str := fun h => by cases h
  eq := fun _ => ⟨by kernel_rfl, by kernel_rfl⟩
def ty_203 : TI := ⟨true, true, 264, .g [.P ⟨⟨⟨false, Dg.zero⟩, ⟨false, Dg.zero⟩⟩, ⟨⟨false, Dg.zero⟩, ⟨false, Dg.zero⟩⟩⟩, .P ⟨⟨⟨false, Dg.zero⟩, ⟨false, Dg.zero⟩⟩, ⟨⟨false, Dg.zero⟩, ⟨false, Dg.zero⟩⟩⟩], [(0, 132), (132, 132)], none, none, none⟩
theorem ok_203 : TyOK Tryz.prog 203 ty_203 where
  agg := by kernel_rfl
  size := by kernel_rfl
  zero := by kernel_rfl
  zst := fun _ => rfl
  zsize := by kernel_rfl
  zagg := fun _ => ⟨_, rfl⟩
  fields := .inr ⟨Tryz.prog.fieldsOf 203, by kernel_rfl, by kernel_rfl⟩
  fsize := fun o z h => by simp [ty_203] at h; omega
  arr := fun _ _ _ h => by cases h
  elem := fun _ _ _ h => by cases h
  ints := fun _ _ _ h => by cases h
  int := fun _ h => by cases h
  bool := fun h => by cases h
  str := fun h => by cases h
  eq := fun _ => ⟨by kernel_rfl, by kernel_rfl⟩
def ty_205 : TI := ⟨true, true, 264, .g [.P ⟨⟨⟨false, Dg.zero⟩, ⟨false, Dg.zero⟩⟩, ⟨⟨false, Dg.zero⟩, ⟨false, Dg.zero⟩⟩⟩, .P ⟨⟨⟨false, Dg.zero⟩, ⟨false, Dg.zero⟩⟩, ⟨⟨false, Dg.zero⟩, ⟨false, Dg.zero⟩⟩⟩], [(0, 264)], none, none, none⟩
theorem ok_205 : TyOK Tryz.prog 205 ty_205 where
  agg := by kernel_rfl
  size := by kernel_rfl
  zero := by kernel_rfl
  zst := fun _ => rfl
  zsize := by kernel_rfl
  zagg := fun _ => ⟨_, rfl⟩
  fields := .inr ⟨Tryz.prog.fieldsOf 205, by kernel_rfl, by kernel_rfl⟩
  fsize := fun o z h => by simp [ty_205] at h; omega
  arr := fun _ _ _ h => by cases h
  elem := fun _ _ _ h => by cases h
  ints := fun _ _ _ h => by cases h
  int := fun _ h => by cases h
  bool := fun h => by cases h
  str := fun h => by cases h
  eq := fun _ => ⟨by kernel_rfl, by kernel_rfl⟩
def ty_158 : TI := ⟨true, true, 132, .g [.R ⟨⟨false, Dg.zero⟩, ⟨false, Dg.zero⟩⟩, .R ⟨⟨false, Dg.zero⟩, ⟨false, Dg.zero⟩⟩], [], some (2, 27, 66), none, none⟩
theorem ok_158 : TyOK Tryz.prog 158 ty_158 where
  agg := by kernel_rfl
  size := by kernel_rfl
  zero := by kernel_rfl
  zst := fun _ => rfl
  zsize := by kernel_rfl
  zagg := fun _ => ⟨_, rfl⟩
  fields := .inl rfl
  fsize := fun _ _ h => by cases h
  arr := fun _ _ _ h => by cases h; exact ⟨by kernel_rfl, by kernel_rfl⟩
  elem := fun _ _ _ h => by cases h
  ints := fun _ _ _ h => by cases h
  int := fun _ h => by cases h
  bool := fun h => by cases h
  str := fun h => by cases h
  eq := fun _ => ⟨by kernel_rfl, by kernel_rfl⟩
def ty_113 : TI := ⟨true, true, 264, .g [.P ⟨⟨⟨false, Dg.zero⟩, ⟨false, Dg.zero⟩⟩, ⟨⟨false, Dg.zero⟩, ⟨false, Dg.zero⟩⟩⟩, .P ⟨⟨⟨false, Dg.zero⟩, ⟨false, Dg.zero⟩⟩, ⟨⟨false, Dg.zero⟩, ⟨false, Dg.zero⟩⟩⟩], [(0, 132), (132, 132)], none, none, none⟩
theorem ok_113 : TyOK Tryz.prog 113 ty_113 where
  agg := by kernel_rfl
  size := by kernel_rfl
  zero := by kernel_rfl
  zst := fun _ => rfl
  zsize := by kernel_rfl
  zagg := fun _ => ⟨_, rfl⟩
  fields := .inr ⟨Tryz.prog.fieldsOf 113, by kernel_rfl, by kernel_rfl⟩
  fsize := fun o z h => by simp [ty_113] at h; omega
  arr := fun _ _ _ h => by cases h
  elem := fun _ _ _ h => by cases h
  ints := fun _ _ _ h => by cases h
  int := fun _ h => by cases h
  bool := fun h => by cases h
  str := fun h => by cases h
  eq := fun _ => ⟨by kernel_rfl, by kernel_rfl⟩
def ty_115 : TI := ⟨true, true, 264, .g [.P ⟨⟨⟨false, Dg.zero⟩, ⟨false, Dg.zero⟩⟩, ⟨⟨false, Dg.zero⟩, ⟨false, Dg.zero⟩⟩⟩, .P ⟨⟨⟨false, Dg.zero⟩, ⟨false, Dg.zero⟩⟩, ⟨⟨false, Dg.zero⟩, ⟨false, Dg.zero⟩⟩⟩], [(0, 264)], none, none, none⟩
theorem ok_115 : TyOK Tryz.prog 115 ty_115 where
  agg := by kernel_rfl
  size := by kernel_rfl
  zero := by kernel_rfl
  zst := fun _ => rfl
  zsize := by kernel_rfl
  zagg := fun _ => ⟨_, rfl⟩
  fields := .inr ⟨Tryz.prog.fieldsOf 115, by kernel_rfl, by kernel_rfl⟩
  fsize := fun o z h => by simp [ty_115] at h; omega
  arr := fun _ _ _ h => by cases h
  elem := fun _ _ _ h => by cases h
  ints := fun _ _ _ h => by cases h
  int := fun _ h => by cases h
  bool := fun h => by cases h
  str := fun h => by cases h
  eq := fun _ => ⟨by kernel_rfl, by kernel_rfl⟩
def ty_110 : TI := ⟨true, true, 2, .g [.s (.lit .i64 0), .s (.lit .i64 0)], [(0, 1), (1, 1)], none, none, none⟩
theorem ok_110 : TyOK Tryz.prog 110 ty_110 where
  agg := by kernel_rfl
  size := by kernel_rfl
  zero := by kernel_rfl
  zst := fun _ => rfl
  zsize := by kernel_rfl
  zagg := fun _ => ⟨_, rfl⟩
  fields := .inr ⟨Tryz.prog.fieldsOf 110, by kernel_rfl, by kernel_rfl⟩
  fsize := fun o z h => by simp [ty_110] at h; omega
  arr := fun _ _ _ h => by cases h
  elem := fun _ _ _ h => by cases h
  ints := fun _ _ _ h => by cases h
  int := fun _ h => by cases h
  bool := fun h => by cases h
  str := fun h => by cases h
  eq := fun _ => ⟨by kernel_rfl, by kernel_rfl⟩
def ty_64 : TI := ⟨false, false, 1, .s .nils, [], none, some (3, 1, .int .i64), none⟩
theorem ok_64 : TyOK Tryz.prog 64 ty_64 where
  agg := by kernel_rfl
  size := by kernel_rfl
  zero := by kernel_rfl
  zst := fun _ => rfl
  zsize := by kernel_rfl
  zagg := fun h => by cases h
  fields := .inl rfl
  fsize := fun _ _ h => by cases h
  arr := fun _ _ _ h => by cases h
  elem := fun _ _ _ h => by cases h; exact ⟨by kernel_rfl, by kernel_rfl, rfl, by kernel_rfl, by kernel_rfl, by decide, by decide⟩
  ints := fun _ _ _ h => by cases h; kernel_rfl
  int := fun _ h => by cases h
  bool := fun h => by cases h
  str := fun h => by cases h
  eq := fun h => by cases h
def ty_139 : TI := ⟨false, false, 1, .s .nils, [], none, some (22, 1, .int .u32), none⟩
theorem ok_139 : TyOK Tryz.prog 139 ty_139 where
  agg := by kernel_rfl
  size := by kernel_rfl
  zero := by kernel_rfl
  zst := fun _ => rfl
  zsize := by kernel_rfl
  zagg := fun h => by cases h
  fields := .inl rfl
  fsize := fun _ _ h => by cases h
  arr := fun _ _ _ h => by cases h
  elem := fun _ _ _ h => by cases h; exact ⟨by kernel_rfl, by kernel_rfl, rfl, by kernel_rfl, by kernel_rfl, by decide, by decide⟩
  ints := fun _ _ _ h => by cases h; kernel_rfl
  int := fun _ h => by cases h
  bool := fun h => by cases h
  str := fun h => by cases h
  eq := fun h => by cases h
def ty_140 : TI := ⟨false, false, 1, .s .nils, [], none, some (22, 1, .int .u32), none⟩
theorem ok_140 : TyOK Tryz.prog 140 ty_140 where
  agg := by kernel_rfl
  size := by kernel_rfl
  zero := by kernel_rfl
  zst := fun _ => rfl
  zsize := by kernel_rfl
  zagg := fun h => by cases h
  fields := .inl rfl
  fsize := fun _ _ h => by cases h
  arr := fun _ _ _ h => by cases h
  elem := fun _ _ _ h => by cases h; exact ⟨by kernel_rfl, by kernel_rfl, rfl, by kernel_rfl, by kernel_rfl, by decide, by decide⟩
  ints := fun _ _ _ h => by cases h; kernel_rfl
  int := fun _ h => by cases h
  bool := fun h => by cases h
  str := fun h => by cases h
  eq := fun h => by cases h
def ty_94 : TI := ⟨false, false, 1, .s .nils, [], none, some (27, 66, .rt), none⟩
theorem ok_94 : TyOK Tryz.prog 94 ty_94 where
  agg := by kernel_rfl
  size := by kernel_rfl
  zero := by kernel_rfl
  zst := fun _ => rfl
  zsize := by kernel_rfl
  zagg := fun h => by cases h
  fields := .inl rfl
  fsize := fun _ _ h => by cases h
  arr := fun _ _ _ h => by cases h
  elem := fun _ _ _ h => by cases h; exact ⟨by kernel_rfl, by kernel_rfl, rfl, by kernel_rfl, by kernel_rfl, by decide, by decide⟩
  ints := fun _ _ _ h => by cases h
  int := fun _ h => by cases h
  bool := fun h => by cases h
  str := fun h => by cases h
  eq := fun h => by cases h
def ty_30 : TI := ⟨false, false, 1, .s .nils, [], none, some (29, 132, .pt), none⟩
theorem ok_30 : TyOK Tryz.prog 30 ty_30 where
  agg := by kernel_rfl
  size := by kernel_rfl
  zero := by kernel_rfl
  zst := fun _ => rfl
  zsize := by kernel_rfl
  zagg := fun h => by cases h
  fields := .inl rfl
  fsize := fun _ _ h => by cases h
  arr := fun _ _ _ h => by cases h
  elem := fun _ _ _ h => by cases h; exact ⟨by kernel_rfl, by kernel_rfl, rfl, by kernel_rfl, by kernel_rfl, by decide, by decide⟩
  ints := fun _ _ _ h => by cases h
  int := fun _ h => by cases h
  bool := fun h => by cases h
  str := fun h => by cases h
  eq := fun h => by cases h
def ty_46 : TI := ⟨false, false, 1, .s .nils, [], none, some (58, 3, .i3), none⟩
theorem ok_46 : TyOK Tryz.prog 46 ty_46 where
  agg := by kernel_rfl
  size := by kernel_rfl
  zero := by kernel_rfl
  zst := fun _ => rfl
  zsize := by kernel_rfl
  zagg := fun h => by cases h
  fields := .inl rfl
  fsize := fun _ _ h => by cases h
  arr := fun _ _ _ h => by cases h
  elem := fun _ _ _ h => by cases h; exact ⟨by kernel_rfl, by kernel_rfl, rfl, by kernel_rfl, by kernel_rfl, by decide, by decide⟩
  ints := fun _ _ _ h => by cases h
  int := fun _ h => by cases h
  bool := fun h => by cases h
  str := fun h => by cases h
  eq := fun h => by cases h
def ty_45 : TI := ⟨false, false, 1, .s .nils, [], none, some (56, 3, .i3), none⟩
theorem ok_45 : TyOK Tryz.prog 45 ty_45 where
  agg := by kernel_rfl
  size := by kernel_rfl
  zero := by kernel_rfl
  zst := fun _ => rfl
  zsize := by kernel_rfl
  zagg := fun h => by cases h
  fields := .inl rfl
  fsize := fun _ _ h => by cases h
  arr := fun _ _ _ h => by cases h
  elem := fun _ _ _ h => by cases h; exact ⟨by kernel_rfl, by kernel_rfl, rfl, by kernel_rfl, by kernel_rfl, by decide, by decide⟩
  ints := fun _ _ _ h => by cases h
  int := fun _ h => by cases h
  bool := fun h => by cases h
  str := fun h => by cases h
  eq := fun h => by cases h
def ty_75 : TI := ⟨false, false, 1, .s .nils, [], none, some (124, 3, .i3), none⟩
theorem ok_75 : TyOK Tryz.prog 75 ty_75 where
  agg := by kernel_rfl
  size := by kernel_rfl
  zero := by kernel_rfl
  zst := fun _ => rfl
  zsize := by kernel_rfl
  zagg := fun h => by cases h
  fields := .inl rfl
  fsize := fun _ _ h => by cases h
  arr := fun _ _ _ h => by cases h
  elem := fun _ _ _ h => by cases h; exact ⟨by kernel_rfl, by kernel_rfl, rfl, by kernel_rfl, by kernel_rfl, by decide, by decide⟩
  ints := fun _ _ _ h => by cases h
  int := fun _ h => by cases h
  bool := fun h => by cases h
  str := fun h => by cases h
  eq := fun h => by cases h
def tT : Nat → Option TI
  | 3 => some ty_3
  | 2 => some ty_2
  | 5 => some ty_5
  | 31 => some ty_31
  | 71 => some ty_71
  | 22 => some ty_22
  | 173 => some ty_173
  | 59 => some ty_59
  | 21 => some ty_21
  | 4 => some ty_4
  | 9 => some ty_9
  | 62 => some ty_62
  | 58 => some ty_58
  | 56 => some ty_56
  | 124 => some ty_124
  | 25 => some ty_25
  | 27 => some ty_27
  | 29 => some ty_29
  | 23 => some ty_23
  | 191 => some ty_191
  | 69 => some ty_69
  | 116 => some ty_116
  | 167 => some ty_167
  | 169 => some ty_169
  | 171 => some ty_171
  | 130 => some ty_130
  | 88 => some ty_88
  | 212 => some ty_212
  | 203 => some ty_203
  | 205 => some ty_205
  | 158 => some ty_158
  | 113 => some ty_113
  | 115 => some ty_115
  | 110 => some ty_110
  | 64 => some ty_64
  | 139 => some ty_139
  | 140 => some ty_140
  | 94 => some ty_94
  | 30 => some ty_30
  | 46 => some ty_46
  | 45 => some ty_45
  | 75 => some ty_75
  | _ => none
theorem tok : TOK Tryz.prog tT := fun t i h => by
  unfold tT at h
  split at h
  · cases h; exact ok_3
  · cases h; exact ok_2
  · cases h; exact ok_5
  · cases h; exact ok_31
  · cases h; exact ok_71
  · cases h; exact ok_22
  · cases h; exact ok_173
  · cases h; exact ok_59
  · cases h; exact ok_21
  · cases h; exact ok_4
  · cases h; exact ok_9
  · cases h; exact ok_62
  · cases h; exact ok_58
  · cases h; exact ok_56
  · cases h; exact ok_124
  · cases h; exact ok_25
  · cases h; exact ok_27
  · cases h; exact ok_29
  · cases h; exact ok_23
  · cases h; exact ok_191
  · cases h; exact ok_69
  · cases h; exact ok_116
  · cases h; exact ok_167
  · cases h; exact ok_169
  · cases h; exact ok_171
  · cases h; exact ok_130
  · cases h; exact ok_88
  · cases h; exact ok_212
  · cases h; exact ok_203
  · cases h; exact ok_205
  · cases h; exact ok_158
  · cases h; exact ok_113
  · cases h; exact ok_115
  · cases h; exact ok_110
  · cases h; exact ok_64
  · cases h; exact ok_139
  · cases h; exact ok_140
  · cases h; exact ok_94
  · cases h; exact ok_30
  · cases h; exact ok_46
  · cases h; exact ok_45
  · cases h; exact ok_75
  · cases h
theorem mixed : Tryz.prog.follows .mixedOrders = true := by kernel_rfl
end Go.Eng

