
import Derived.Test.YtjjmpghdjoohfaaEngMW
import Derived.Test.YtjjmpghdjoohfaaProg
set_option linter.all false
set_option exponentiation.threshold 3000
namespace Go.Eng
open Go.Proofs
set_option maxRecDepth 100000
def ty_3 : TI := ⟨true, false, 1, .s (.lit .i64 0), [], none, none, some (.int .i64)⟩
theorem ok_3 : TyOK Try.prog 3 ty_3 where
  agg := by kernel_rfl
  size := by kernel_rfl
  zero := by kernel_rfl
  zst := fun _ => rfl
  zsize := by kernel_rfl
  zagg := fun h => by cases h
  fields := .inl rfl
  fsize := fun _ _ h => by cases h
  arr := fun _ _ _ h => by cases h
  elem := fun _ _ _ h => by cases h
  ints := fun _ _ _ h => by cases h
  int := fun _ h => by cases h; kernel_rfl
  bool := fun h => by cases h
  str := fun h => by cases h
  eq := fun _ => ⟨by kernel_rfl, by kernel_rfl⟩
def ty_2 : TI := ⟨true, false, 1, .s (.lit .i64 0), [], none, none, some (.int .i64)⟩
theorem ok_2 : TyOK Try.prog 2 ty_2 where
  agg := by kernel_rfl
  size := by kernel_rfl
  zero := by kernel_rfl
  zst := fun _ => rfl
  zsize := by kernel_rfl
  zagg := fun h => by cases h
  fields := .inl rfl
  fsize := fun _ _ h => by cases h
  arr := fun _ _ _ h => by cases h
  elem := fun _ _ _ h => by cases h
  ints := fun _ _ _ h => by cases h
  int := fun _ h => by cases h; kernel_rfl
  bool := fun h => by cases h
  str := fun h => by cases h
  eq := fun _ => ⟨by kernel_rfl, by kernel_rfl⟩
def ty_5 : TI := ⟨true, false, 1, .s (.lit .u8 0), [], none, none, some (.int .u8)⟩
theorem ok_5 : TyOK Try.prog 5 ty_5 where
  agg := by kernel_rfl
  size := by kernel_rfl
  zero := by kernel_rfl
  zst := fun _ => rfl
  zsize := by kernel_rfl
  zagg := fun h => by cases h
  fields := .inl rfl
  fsize := fun _ _ h => by cases h
  arr := fun _ _ _ h => by cases h
  elem := fun _ _ _ h => by cases h
  ints := fun _ _ _ h => by cases h
  int := fun _ h => by cases h; kernel_rfl
  bool := fun h => by cases h
  str := fun h => by cases h
  eq := fun _ => ⟨by kernel_rfl, by kernel_rfl⟩
def ty_37 : TI := ⟨true, false, 1, .s (.lit .i8 0), [], none, none, some (.int .i8)⟩
theorem ok_37 : TyOK Try.prog 37 ty_37 where
  agg := by kernel_rfl
  size := by kernel_rfl
  zero := by kernel_rfl
  zst := fun _ => rfl
  zsize := by kernel_rfl
  zagg := fun h => by cases h
  fields := .inl rfl
  fsize := fun _ _ h => by cases h
  arr := fun _ _ _ h => by cases h
  elem := fun _ _ _ h => by cases h
  ints := fun _ _ _ h => by cases h
  int := fun _ h => by cases h; kernel_rfl
  bool := fun h => by cases h
  str := fun h => by cases h
  eq := fun _ => ⟨by kernel_rfl, by kernel_rfl⟩
def ty_22 : TI := ⟨true, false, 1, .s (.lit .u32 0), [], none, none, some (.int .u32)⟩
theorem ok_22 : TyOK Try.prog 22 ty_22 where
  agg := by kernel_rfl
  size := by kernel_rfl
  zero := by kernel_rfl
  zst := fun _ => rfl
  zsize := by kernel_rfl
  zagg := fun h => by cases h
  fields := .inl rfl
  fsize := fun _ _ h => by cases h
  arr := fun _ _ _ h => by cases h
  elem := fun _ _ _ h => by cases h
  ints := fun _ _ _ h => by cases h
  int := fun _ h => by cases h; kernel_rfl
  bool := fun h => by cases h
  str := fun h => by cases h
  eq := fun _ => ⟨by kernel_rfl, by kernel_rfl⟩
def ty_94 : TI := ⟨true, false, 1, .s (.lit .u64 0), [], none, none, some (.int .u64)⟩
theorem ok_94 : TyOK Try.prog 94 ty_94 where
  agg := by kernel_rfl
  size := by kernel_rfl
  zero := by kernel_rfl
  zst := fun _ => rfl
  zsize := by kernel_rfl
  zagg := fun h => by cases h
  fields := .inl rfl
  fsize := fun _ _ h => by cases h
  arr := fun _ _ _ h => by cases h
  elem := fun _ _ _ h => by cases h
  ints := fun _ _ _ h => by cases h
  int := fun _ h => by cases h; kernel_rfl
  bool := fun h => by cases h
  str := fun h => by cases h
  eq := fun _ => ⟨by kernel_rfl, by kernel_rfl⟩
def ty_97 : TI := ⟨true, false, 1, .s (.lit .u64 0), [], none, none, some (.int .u64)⟩
theorem ok_97 : TyOK Try.prog 97 ty_97 where
  agg := by kernel_rfl
  size := by kernel_rfl
  zero := by kernel_rfl
  zst := fun _ => rfl
  zsize := by kernel_rfl
  zagg := fun h => by cases h
  fields := .inl rfl
  fsize := fun _ _ h => by cases h
  arr := fun _ _ _ h => by cases h
  elem := fun _ _ _ h => by cases h
  ints := fun _ _ _ h => by cases h
  int := fun _ h => by cases h; kernel_rfl
  bool := fun h => by cases h
  str := fun h => by cases h
  eq := fun _ => ⟨by kernel_rfl, by kernel_rfl⟩
def ty_21 : TI := ⟨true, false, 1, .s (.lit .i32 0), [], none, none, some (.int .i32)⟩
theorem ok_21 : TyOK Try.prog 21 ty_21 where
  agg := by kernel_rfl
  size := by kernel_rfl
  zero := by kernel_rfl
  zst := fun _ => rfl
  zsize := by kernel_rfl
  zagg := fun h => by cases h
  fields := .inl rfl
  fsize := fun _ _ h => by cases h
  arr := fun _ _ _ h => by cases h
  elem := fun _ _ _ h => by cases h
  ints := fun _ _ _ h => by cases h
  int := fun _ h => by cases h; kernel_rfl
  bool := fun h => by cases h
  str := fun h => by cases h
  eq := fun _ => ⟨by kernel_rfl, by kernel_rfl⟩
def ty_4 : TI := ⟨true, false, 1, .s (.tt false), [], none, none, some .bool⟩
theorem ok_4 : TyOK Try.prog 4 ty_4 where
  agg := by kernel_rfl
  size := by kernel_rfl
  zero := by kernel_rfl
  zst := fun _ => rfl
  zsize := by kernel_rfl
  zagg := fun h => by cases h
  fields := .inl rfl
  fsize := fun _ _ h => by cases h
  arr := fun _ _ _ h => by cases h
  elem := fun _ _ _ h => by cases h
  ints := fun _ _ _ h => by cases h
  int := fun _ h => by cases h
  bool := fun _ => by kernel_rfl
  str := fun h => by cases h
  eq := fun _ => ⟨by kernel_rfl, by kernel_rfl⟩
def ty_9 : TI := ⟨false, false, 1, .s (.str ByteArray.empty), [], none, none, some .str⟩
theorem ok_9 : TyOK Try.prog 9 ty_9 where
  agg := by kernel_rfl
  size := by kernel_rfl
  zero := by kernel_rfl
  zst := fun _ => rfl
  zsize := by kernel_rfl
  zagg := fun h => by cases h
  fields := .inl rfl
  fsize := fun _ _ h => by cases h
  arr := fun _ _ _ h => by cases h
  elem := fun _ _ _ h => by cases h
  ints := fun _ _ _ h => by cases h
  int := fun _ h => by cases h
  bool := fun h => by cases h
  str := fun _ => by kernel_rfl
  eq := fun h => by cases h
def ty_25 : TI := ⟨true, true, 33, .g [.W ⟨false, Dg.zero⟩], [(0, 1), (1, 32)], none, none, none⟩
theorem ok_25 : TyOK Try.prog 25 ty_25 where
  agg := by kernel_rfl
  size := by kernel_rfl
  zero := by kernel_rfl
  zst := fun _ => rfl
  zsize := by kernel_rfl
  zagg := fun _ => ⟨_, rfl⟩
  fields := .inr ⟨Try.prog.fieldsOf 25, by kernel_rfl, by kernel_rfl⟩
  fsize := fun o z h => by simp [ty_25] at h; omega
  arr := fun _ _ _ h => by cases h
  elem := fun _ _ _ h => by cases h
  ints := fun _ _ _ h => by cases h
  int := fun _ h => by cases h
  bool := fun h => by cases h
  str := fun h => by cases h
  eq := fun _ => ⟨by kernel_rfl, by kernel_rfl⟩
def ty_27 : TI := ⟨true, true, 66, .g [.R ⟨⟨false, Dg.zero⟩, ⟨false, Dg.zero⟩⟩], [(0, 33), (33, 33)], none, none, none⟩
theorem ok_27 : TyOK Try.prog 27 ty_27 where
  agg := by kernel_rfl
  size := by kernel_rfl
  zero := by kernel_rfl
  zst := fun _ => rfl
  zsize := by kernel_rfl
  zagg := fun _ => ⟨_, rfl⟩
  fields := .inr ⟨Try.prog.fieldsOf 27, by kernel_rfl, by kernel_rfl⟩
  fsize := fun o z h => by simp [ty_27] at h; omega
  arr := fun _ _ _ h => by cases h
  elem := fun _ _ _ h => by cases h
  ints := fun _ _ _ h => by cases h
  int := fun _ h => by cases h
  bool := fun h => by cases h
  str := fun h => by cases h
  eq := fun _ => ⟨by kernel_rfl, by kernel_rfl⟩
def ty_29 : TI := ⟨true, true, 132, .g [.P ⟨⟨⟨false, Dg.zero⟩, ⟨false, Dg.zero⟩⟩, ⟨⟨false, Dg.zero⟩, ⟨false, Dg.zero⟩⟩⟩], [(0, 66), (66, 66)], none, none, none⟩
theorem ok_29 : TyOK Try.prog 29 ty_29 where
  agg := by kernel_rfl
  size := by kernel_rfl
  zero := by kernel_rfl
  zst := fun _ => rfl
  zsize := by kernel_rfl
  zagg := fun _ => ⟨_, rfl⟩
  fields := .inr ⟨Try.prog.fieldsOf 29, by kernel_rfl, by kernel_rfl⟩
  fsize := fun o z h => by simp [ty_29] at h; omega
  arr := fun _ _ _ h => by cases h
  elem := fun _ _ _ h => by cases h
  ints := fun _ _ _ h => by cases h
  int := fun _ h => by cases h
  bool := fun h => by cases h
  str := fun h => by cases h
  eq := fun _ => ⟨by kernel_rfl, by kernel_rfl⟩
def ty_23 : TI := ⟨true, true, 32, .g [.D Dg.zero], [], some (32, 22, 1), none, none⟩
theorem ok_23 : TyOK Try.prog 23 ty_23 where
  agg := by kernel_rfl
  size := by kernel_rfl
  zero := by kernel_rfl
  zst := fun _ => rfl
  zsize := by kernel_rfl
  zagg := fun _ => ⟨_, rfl⟩
  fields := .inl rfl
  fsize := fun _ _ h => by cases h
  arr := fun _ _ _ h => by cases h; exact ⟨by kernel_rfl, by kernel_rfl⟩
  elem := fun _ _ _ h => by cases h
  ints := fun _ _ _ h => by cases h
  int := fun _ h => by cases h
  bool := fun h => by cases h
  str := fun h => by cases h
  eq := fun _ => ⟨by kernel_rfl, by kernel_rfl⟩
def ty_128 : TI := ⟨true, true, 32, .g [.D Dg.zero], [], some (32, 22, 1), none, none⟩
theorem ok_128 : TyOK Try.prog 128 ty_128 where
  agg := by kernel_rfl
  size := by kernel_rfl
  zero := by kernel_rfl
  zst := fun _ => rfl
  zsize := by kernel_rfl
  zagg := fun _ => ⟨_, rfl⟩
  fields := .inl rfl
  fsize := fun _ _ h => by cases h
  arr := fun _ _ _ h => by cases h; exact ⟨by kernel_rfl, by kernel_rfl⟩
  elem := fun _ _ _ h => by cases h
  ints := fun _ _ _ h => by cases h
  int := fun _ h => by cases h
  bool := fun h => by cases h
  str := fun h => by cases h
  eq := fun _ => ⟨by kernel_rfl, by kernel_rfl⟩
def ty_83 : TI := ⟨true, true, 2, .g [.s (.lit .i64 0), .s (.lit .i64 0)], [(0, 1), (1, 1)], none, none, none⟩
theorem ok_83 : TyOK Try.prog 83 ty_83 where
  agg := by kernel_rfl
  size := by kernel_rfl
  zero := by kernel_rfl
  zst := fun _ => rfl
  zsize := by kernel_rfl
  zagg := fun _ => ⟨_, rfl⟩
  fields := .inr ⟨Try.prog.fieldsOf 83, by kernel_rfl, by kernel_rfl⟩
  fsize := fun o z h => by simp [ty_83] at h; omega
  arr := fun _ _ _ h => by cases h
  elem := fun _ _ _ h => by cases h
  ints := fun _ _ _ h => by cases h
  int := fun _ h => by cases h
  bool := fun h => by cases h
  str := fun h => by cases h
  eq := fun _ => ⟨by kernel_rfl, by kernel_rfl⟩
def ty_110 : TI := ⟨true, true, 1, .g [.s (.tt false)], [(0, 1)], none, none, none⟩
theorem ok_110 : TyOK Try.prog 110 ty_110 where
  agg := by kernel_rfl
  size := by kernel_rfl
  zero := by kernel_rfl
  zst := fun _ => rfl
  zsize := by kernel_rfl
  zagg := fun _ => ⟨_, rfl⟩
  fields := .inr ⟨Try.prog.fieldsOf 110, by kernel_rfl, by kernel_rfl⟩
  fsize := fun o z h => by simp [ty_110] at h; omega
  arr := fun _ _ _ h => by cases h
  elem := fun _ _ _ h => by cases h
  ints := fun _ _ _ h => by cases h
  int := fun _ h => by cases h
  bool := fun h => by cases h
  str := fun h => by cases h
  eq := fun _ => ⟨by kernel_rfl, by kernel_rfl⟩
def ty_138 : TI := ⟨true, true, 64, .g [.D Dg.zero, .D Dg.zero], [], some (64, 22, 1), none, none⟩
theorem ok_138 : TyOK Try.prog 138 ty_138 where
  agg := by kernel_rfl
  size := by kernel_rfl
  zero := by kernel_rfl
  zst := fun _ => rfl
  zsize := by kernel_rfl
  zagg := fun _ => ⟨_, rfl⟩
  fields := .inl rfl
  fsize := fun _ _ h => by cases h
  arr := fun _ _ _ h => by cases h; exact ⟨by kernel_rfl, by kernel_rfl⟩
  elem := fun _ _ _ h => by cases h
  ints := fun _ _ _ h => by cases h
  int := fun _ h => by cases h
  bool := fun h => by cases h
  str := fun h => by cases h
  eq := fun _ => ⟨by kernel_rfl, by kernel_rfl⟩
def ty_52 : TI := ⟨true, true, 264, .g [.P ⟨⟨⟨false, Dg.zero⟩, ⟨false, Dg.zero⟩⟩, ⟨⟨false, Dg.zero⟩, ⟨false, Dg.zero⟩⟩⟩, .P ⟨⟨⟨false, Dg.zero⟩, ⟨false, Dg.zero⟩⟩, ⟨⟨false, Dg.zero⟩, ⟨false, Dg.zero⟩⟩⟩], [(0, 132), (132, 132)], none, none, none⟩
theorem ok_52 : TyOK Try.prog 52 ty_52 where
  agg := by kernel_rfl
  size := by kernel_rfl
  zero := by kernel_rfl
  zst := fun _ => rfl
  zsize := by kernel_rfl
  zagg := fun _ => ⟨_, rfl⟩
  fields := .inr ⟨Try.prog.fieldsOf 52, by kernel_rfl, by kernel_rfl⟩
  fsize := fun o z h => by simp [ty_52] at h; omega
  arr := fun _ _ _ h => by cases h
  elem := fun _ _ _ h => by cases h
  ints := fun _ _ _ h => by cases h
  int := fun _ h => by cases h
  bool := fun h => by cases h
  str := fun h => by cases h
  eq := fun _ => ⟨by kernel_rfl, by kernel_rfl⟩
def ty_54 : TI := ⟨true, true, 264, .g [.P ⟨⟨⟨false, Dg.zero⟩, ⟨false, Dg.zero⟩⟩, ⟨⟨false, Dg.zero⟩, ⟨false, Dg.zero⟩⟩⟩, .P ⟨⟨⟨false, Dg.zero⟩, ⟨false, Dg.zero⟩⟩, ⟨⟨false, Dg.zero⟩, ⟨false, Dg.zero⟩⟩⟩], [(0, 264)], none, none, none⟩
theorem ok_54 : TyOK Try.prog 54 ty_54 where
  agg := by kernel_rfl
  size := by kernel_rfl
  zero := by kernel_rfl
  zst := fun _ => rfl
  zsize := by kernel_rfl
  zagg := fun _ => ⟨_, rfl⟩
  fields := .inr ⟨Try.prog.fieldsOf 54, by kernel_rfl, by kernel_rfl⟩
  fsize := fun o z h => by simp [ty_54] at h; omega
  arr := fun _ _ _ h => by cases h
  elem := fun _ _ _ h => by cases h
  ints := fun _ _ _ h => by cases h
  int := fun _ h => by cases h
  bool := fun h => by cases h
  str := fun h => by cases h
  eq := fun _ => ⟨by kernel_rfl, by kernel_rfl⟩
def ty_63 : TI := ⟨true, true, 396, .g [.P ⟨⟨⟨false, Dg.zero⟩, ⟨false, Dg.zero⟩⟩, ⟨⟨false, Dg.zero⟩, ⟨false, Dg.zero⟩⟩⟩, .P ⟨⟨⟨false, Dg.zero⟩, ⟨false, Dg.zero⟩⟩, ⟨⟨false, Dg.zero⟩, ⟨false, Dg.zero⟩⟩⟩, .P ⟨⟨⟨false, Dg.zero⟩, ⟨false, Dg.zero⟩⟩, ⟨⟨false, Dg.zero⟩, ⟨false, Dg.zero⟩⟩⟩], [(0, 132), (132, 132), (264, 132)], none, none, none⟩
theorem ok_63 : TyOK Try.prog 63 ty_63 where
  agg := by kernel_rfl
  size := by kernel_rfl
  zero := by kernel_rfl
  zst := fun _ => rfl
  zsize := by kernel_rfl
  zagg := fun _ => ⟨_, rfl⟩
  fields := .inr ⟨Try.prog.fieldsOf 63, by kernel_rfl, by kernel_rfl⟩
  fsize := fun o z h => by simp [ty_63] at h; omega
  arr := fun _ _ _ h => by cases h
  elem := fun _ _ _ h => by cases h
  ints := fun _ _ _ h => by cases h
  int := fun _ h => by cases h
  bool := fun h => by cases h
  str := fun h => by cases h
  eq := fun _ => ⟨by kernel_rfl, by kernel_rfl⟩
def ty_65 : TI := ⟨true, true, 396, .g [.P ⟨⟨⟨false, Dg.zero⟩, ⟨false, Dg.zero⟩⟩, ⟨⟨false, Dg.zero⟩, ⟨false, Dg.zero⟩⟩⟩, .P ⟨⟨⟨false, Dg.zero⟩, ⟨false, Dg.zero⟩⟩, ⟨⟨false, Dg.zero⟩, ⟨false, Dg.zero⟩⟩⟩, .P ⟨⟨⟨false, Dg.zero⟩, ⟨false, Dg.zero⟩⟩, ⟨⟨false, Dg.zero⟩, ⟨false, Dg.zero⟩⟩⟩], [(0, 396)], none, none, none⟩
theorem ok_65 : TyOK Try.prog 65 ty_65 where
  agg := by kernel_rfl
  size := by kernel_rfl
  zero := by kernel_rfl
  zst := fun _ => rfl
  zsize := by kernel_rfl
  zagg := fun _ => ⟨_, rfl⟩
  fields := .inr ⟨Try.prog.fieldsOf 65, by kernel_rfl, by kernel_rfl⟩
  fsize := fun o z h => by simp [ty_65] at h; omega
  arr := fun _ _ _ h => by cases h
  elem := fun _ _ _ h => by cases h
  ints := fun _ _ _ h => by cases h
  int := fun _ h => by cases h
  bool := fun h => by cases h
  str := fun h => by cases h
  eq := fun _ => ⟨by kernel_rfl, by kernel_rfl⟩
def ty_58 : TI := ⟨true, true, 198, .g [.R ⟨⟨false, Dg.zero⟩, ⟨false, Dg.zero⟩⟩, .R ⟨⟨false, Dg.zero⟩, ⟨false, Dg.zero⟩⟩, .R ⟨⟨false, Dg.zero⟩, ⟨false, Dg.zero⟩⟩], [], some (3, 27, 66), none, none⟩
theorem ok_58 : TyOK Try.prog 58 ty_58 where
  agg := by kernel_rfl
  size := by kernel_rfl
  zero := by kernel_rfl
  zst := fun _ => rfl
  zsize := by kernel_rfl
  zagg := fun _ => ⟨_, rfl⟩
  fields := .inl rfl
  fsize := fun _ _ h => by cases h
  arr := fun _ _ _ h => by cases h; exact ⟨by kernel_rfl, by kernel_rfl⟩
  elem := fun _ _ _ h => by cases h
  ints := fun _ _ _ h => by cases h
  int := fun _ h => by cases h
  bool := fun h => by cases h
  str := fun h => by cases h
  eq := fun _ => ⟨by kernel_rfl, by kernel_rfl⟩
def ty_66 : TI := ⟨true, true, 1188, .g [.P ⟨⟨⟨false, Dg.zero⟩, ⟨false, Dg.zero⟩⟩, ⟨⟨false, Dg.zero⟩, ⟨false, Dg.zero⟩⟩⟩, .P ⟨⟨⟨false, Dg.zero⟩, ⟨false, Dg.zero⟩⟩, ⟨⟨false, Dg.zero⟩, ⟨false, Dg.zero⟩⟩⟩, .P ⟨⟨⟨false, Dg.zero⟩, ⟨false, Dg.zero⟩⟩, ⟨⟨false, Dg.zero⟩, ⟨false, Dg.zero⟩⟩⟩, .P ⟨⟨⟨false, Dg.zero⟩, ⟨false, Dg.zero⟩⟩, ⟨⟨false, Dg.zero⟩, ⟨false, Dg.zero⟩⟩⟩, .P ⟨⟨⟨false, Dg.zero⟩, ⟨false, Dg.zero⟩⟩, ⟨⟨false, Dg.zero⟩, ⟨false, Dg.zero⟩⟩⟩, .P ⟨⟨⟨false, Dg.zero⟩, ⟨false, Dg.zero⟩⟩, ⟨⟨false, Dg.zero⟩, ⟨false, Dg.zero⟩⟩⟩, .P ⟨⟨⟨false, Dg.zero⟩, ⟨false, Dg.zero⟩⟩, ⟨⟨false, Dg.zero⟩, ⟨false, Dg.zero⟩⟩⟩, .P ⟨⟨⟨false, Dg.zero⟩, ⟨false, Dg.zero⟩⟩, ⟨⟨false, Dg.zero⟩, ⟨false, Dg.zero⟩⟩⟩, .P ⟨⟨⟨false, Dg.zero⟩, ⟨false, Dg.zero⟩⟩, ⟨⟨false, Dg.zero⟩, ⟨false, Dg.zero⟩⟩⟩], [], some (3, 63, 396), none, none⟩
theorem ok_66 : TyOK Try.prog 66 ty_66 where
  agg := by kernel_rfl
  size := by kernel_rfl
  zero := by kernel_rfl
  zst := fun _ => rfl
  zsize := by kernel_rfl
  zagg := fun _ => ⟨_, rfl⟩
  fields := .inl rfl
  fsize := fun _ _ h => by cases h
  arr := fun _ _ _ h => by cases h; exact ⟨by kernel_rfl, by kernel_rfl⟩
  elem := fun _ _ _ h => by cases h
  ints := fun _ _ _ h => by cases h
  int := fun _ h => by cases h
  bool := fun h => by cases h
  str := fun h => by cases h
  eq := fun _ => ⟨by kernel_rfl, by kernel_rfl⟩
def ty_98 : TI := ⟨false, false, 1, .s .nils, [], none, some (22, 1, .int .u32), none⟩
theorem ok_98 : TyOK Try.prog 98 ty_98 where
  agg := by kernel_rfl
  size := by kernel_rfl
  zero := by kernel_rfl
  zst := fun _ => rfl
  zsize := by kernel_rfl
  zagg := fun h => by cases h
  fields := .inl rfl
  fsize := fun _ _ h => by cases h
  arr := fun _ _ _ h => by cases h
  elem := fun _ _ _ h => by cases h; exact ⟨by kernel_rfl, by kernel_rfl, rfl, by kernel_rfl, by kernel_rfl, by decide, by decide⟩
  ints := fun _ _ _ h => by cases h; kernel_rfl
  int := fun _ h => by cases h
  bool := fun h => by cases h
  str := fun h => by cases h
  eq := fun h => by cases h
def ty_99 : TI := ⟨false, false, 1, .s .nils, [], none, some (22, 1, .int .u32), none⟩
theorem ok_99 : TyOK Try.prog 99 ty_99 where
  agg := by kernel_rfl
  size := by kernel_rfl
  zero := by kernel_rfl
  zst := fun _ => rfl
  zsize := by kernel_rfl
  zagg := fun h => by cases h
  fields := .inl rfl
  fsize := fun _ _ h => by cases h
  arr := fun _ _ _ h => by cases h
  elem := fun _ _ _ h => by cases h; exact ⟨by kernel_rfl, by kernel_rfl, rfl, by kernel_rfl, by kernel_rfl, by decide, by decide⟩
  ints := fun _ _ _ h => by cases h; kernel_rfl
  int := fun _ h => by cases h
  bool := fun h => by cases h
  str := fun h => by cases h
  eq := fun h => by cases h
def ty_117 : TI := ⟨false, false, 1, .s .nils, [], none, some (27, 66, .rt), none⟩
theorem ok_117 : TyOK Try.prog 117 ty_117 where
  agg := by kernel_rfl
  size := by kernel_rfl
  zero := by kernel_rfl
  zst := fun _ => rfl
  zsize := by kernel_rfl
  zagg := fun h => by cases h
  fields := .inl rfl
  fsize := fun _ _ h => by cases h
  arr := fun _ _ _ h => by cases h
  elem := fun _ _ _ h => by cases h; exact ⟨by kernel_rfl, by kernel_rfl, rfl, by kernel_rfl, by kernel_rfl, by decide, by decide⟩
  ints := fun _ _ _ h => by cases h
  int := fun _ h => by cases h
  bool := fun h => by cases h
  str := fun h => by cases h
  eq := fun h => by cases h
def ty_55 : TI := ⟨false, false, 1, .s .nils, [], none, some (29, 132, .pt), none⟩
theorem ok_55 : TyOK Try.prog 55 ty_55 where
  agg := by kernel_rfl
  size := by kernel_rfl
  zero := by kernel_rfl
  zst := fun _ => rfl
  zsize := by kernel_rfl
  zagg := fun h => by cases h
  fields := .inl rfl
  fsize := fun _ _ h => by cases h
  arr := fun _ _ _ h => by cases h
  elem := fun _ _ _ h => by cases h; exact ⟨by kernel_rfl, by kernel_rfl, rfl, by kernel_rfl, by kernel_rfl, by decide, by decide⟩
  ints := fun _ _ _ h => by cases h
  int := fun _ h => by cases h
  bool := fun h => by cases h
  str := fun h => by cases h
  eq := fun h => by cases h
def tT : Nat → Option TI
  | 3 => some ty_3
  | 2 => some ty_2
  | 5 => some ty_5
  | 37 => some ty_37
  | 22 => some ty_22
  | 94 => some ty_94
  | 97 => some ty_97
  | 21 => some ty_21
  | 4 => some ty_4
  | 9 => some ty_9
  | 25 => some ty_25
  | 27 => some ty_27
  | 29 => some ty_29
  | 23 => some ty_23
  | 128 => some ty_128
  | 83 => some ty_83
  | 110 => some ty_110
  | 138 => some ty_138
  | 52 => some ty_52
  | 54 => some ty_54
  | 63 => some ty_63
  | 65 => some ty_65
  | 58 => some ty_58
  | 66 => some ty_66
  | 98 => some ty_98
  | 99 => some ty_99
  | 117 => some ty_117
  | 55 => some ty_55
  | _ => none
theorem tok : TOK Try.prog tT := fun t i h => by
  unfold tT at h
  split at h
  · cases h; exact ok_3
  · cases h; exact ok_2
  · cases h; exact ok_5
  · cases h; exact ok_37
  · cases h; exact ok_22
  · cases h; exact ok_94
  · cases h; exact ok_97
  · cases h; exact ok_21
  · cases h; exact ok_4
  · cases h; exact ok_9
  · cases h; exact ok_25
  · cases h; exact ok_27
  · cases h; exact ok_29
  · cases h; exact ok_23
  · cases h; exact ok_128
  · cases h; exact ok_83
  · cases h; exact ok_110
  · cases h; exact ok_138
  · cases h; exact ok_52
  · cases h; exact ok_54
  · cases h; exact ok_63
  · cases h; exact ok_65
  · cases h; exact ok_58
  · cases h; exact ok_66
  · cases h; exact ok_98
  · cases h; exact ok_99
  · cases h; exact ok_117
  · cases h; exact ok_55
  · cases h
theorem mixed : Try.prog.follows .mixedOrders = true := by kernel_rfl
end Go.Eng

