/- The types of this seat, by program. -/
import Derived.Test.YtmajpppjakdodaaEngMW
import Derived.Test.YtmajpppjakdodaaProg
set_option linter.all false
set_option exponentiation.threshold 3000
namespace Go.Eng
open Go.Proofs
set_option maxRecDepth 100000
/-- int -/
def ty_3 : TI := ⟨true, false, 1, .s (.lit .i64 0), [], none, none, some (.int .i64)⟩
theorem ok_3 : TyOK Try.prog 3 ty_3 where
  agg := by kernel_rfl
  size := by kernel_rfl
  zero := by kernel_rfl
  zst := fun _ => rfl
  zsize := by kernel_rfl
  zagg := fun h => by cases h
  fields := .inl rfl
  fsize := fun _ _ h => by cases h
  arr := fun _ _ _ h => by cases h
  elem := fun _ _ _ h => by cases h
  ints := fun _ _ _ h => by cases h
  int := fun _ h => by cases h; kernel_rfl
  bool := fun h => by cases h
  str := fun h => by cases h
  eq := fun _ => ⟨by kernel_rfl, by kernel_rfl⟩
/-- int64 -/
def ty_2 : TI := ⟨true, false, 1, .s (.lit .i64 0), [], none, none, some (.int .i64)⟩
theorem ok_2 : TyOK Try.prog 2 ty_2 where
  agg := by kernel_rfl
  size := by kernel_rfl
  zero := by kernel_rfl
  zst := fun _ => rfl
  zsize := by kernel_rfl
  zagg := fun h => by cases h
  fields := .inl rfl
  fsize := fun _ _ h => by cases h
  arr := fun _ _ _ h => by cases h
  elem := fun _ _ _ h => by cases h
  ints := fun _ _ _ h => by cases h
  int := fun _ h => by cases h; kernel_rfl
  bool := fun h => by cases h
  str := fun h => by cases h
  eq := fun _ => ⟨by kernel_rfl, by kernel_rfl⟩
/-- uint8 -/
def ty_5 : TI := ⟨true, false, 1, .s (.lit .u8 0), [], none, none, some (.int .u8)⟩
theorem ok_5 : TyOK Try.prog 5 ty_5 where
  agg := by kernel_rfl
  size := by kernel_rfl
  zero := by kernel_rfl
  zst := fun _ => rfl
  zsize := by kernel_rfl
  zagg := fun h => by cases h
  fields := .inl rfl
  fsize := fun _ _ h => by cases h
  arr := fun _ _ _ h => by cases h
  elem := fun _ _ _ h => by cases h
  ints := fun _ _ _ h => by cases h
  int := fun _ h => by cases h; kernel_rfl
  bool := fun h => by cases h
  str := fun h => by cases h
  eq := fun _ => ⟨by kernel_rfl, by kernel_rfl⟩
/-- int16 -/
def ty_61 : TI := ⟨true, false, 1, .s (.lit .i16 0), [], none, none, some (.int .i16)⟩
theorem ok_61 : TyOK Try.prog 61 ty_61 where
  agg := by kernel_rfl
  size := by kernel_rfl
  zero := by kernel_rfl
  zst := fun _ => rfl
  zsize := by kernel_rfl
  zagg := fun h => by cases h
  fields := .inl rfl
  fsize := fun _ _ h => by cases h
  arr := fun _ _ _ h => by cases h
  elem := fun _ _ _ h => by cases h
  ints := fun _ _ _ h => by cases h
  int := fun _ h => by cases h; kernel_rfl
  bool := fun h => by cases h
  str := fun h => by cases h
  eq := fun _ => ⟨by kernel_rfl, by kernel_rfl⟩
/-- uint32 -/
def ty_22 : TI := ⟨true, false, 1, .s (.lit .u32 0), [], none, none, some (.int .u32)⟩
theorem ok_22 : TyOK Try.prog 22 ty_22 where
  agg := by kernel_rfl
  size := by kernel_rfl
  zero := by kernel_rfl
  zst := fun _ => rfl
  zsize := by kernel_rfl
  zagg := fun h => by cases h
  fields := .inl rfl
  fsize := fun _ _ h => by cases h
  arr := fun _ _ _ h => by cases h
  elem := fun _ _ _ h => by cases h
  ints := fun _ _ _ h => by cases h
  int := fun _ h => by cases h; kernel_rfl
  bool := fun h => by cases h
  str := fun h => by cases h
  eq := fun _ => ⟨by kernel_rfl, by kernel_rfl⟩
/-- uint64 -/
def ty_80 : TI := ⟨true, false, 1, .s (.lit .u64 0), [], none, none, some (.int .u64)⟩
theorem ok_80 : TyOK Try.prog 80 ty_80 where
  agg := by kernel_rfl
  size := by kernel_rfl
  zero := by kernel_rfl
  zst := fun _ => rfl
  zsize := by kernel_rfl
  zagg := fun h => by cases h
  fields := .inl rfl
  fsize := fun _ _ h => by cases h
  arr := fun _ _ _ h => by cases h
  elem := fun _ _ _ h => by cases h
  ints := fun _ _ _ h => by cases h
  int := fun _ h => by cases h; kernel_rfl
  bool := fun h => by cases h
  str := fun h => by cases h
  eq := fun _ => ⟨by kernel_rfl, by kernel_rfl⟩
/-- uint -/
def ty_81 : TI := ⟨true, false, 1, .s (.lit .u64 0), [], none, none, some (.int .u64)⟩
theorem ok_81 : TyOK Try.prog 81 ty_81 where
  agg := by kernel_rfl
  size := by kernel_rfl
  zero := by kernel_rfl
  zst := fun _ => rfl
  zsize := by kernel_rfl
  zagg := fun h => by cases h
  fields := .inl rfl
  fsize := fun _ _ h => by cases h
  arr := fun _ _ _ h => by cases h
  elem := fun _ _ _ h => by cases h
  ints := fun _ _ _ h => by cases h
  int := fun _ h => by cases h; kernel_rfl
  bool := fun h => by cases h
  str := fun h => by cases h
  eq := fun _ => ⟨by kernel_rfl, by kernel_rfl⟩
/-- int32 -/
def ty_21 : TI := ⟨true, false, 1, .s (.lit .i32 0), [], none, none, some (.int .i32)⟩
theorem ok_21 : TyOK Try.prog 21 ty_21 where
  agg := by kernel_rfl
  size := by kernel_rfl
  zero := by kernel_rfl
  zst := fun _ => rfl
  zsize := by kernel_rfl
  zagg := fun h => by cases h
  fields := .inl rfl
  fsize := fun _ _ h => by cases h
  arr := fun _ _ _ h => by cases h
  elem := fun _ _ _ h => by cases h
  ints := fun _ _ _ h => by cases h
  int := fun _ h => by cases h; kernel_rfl
  bool := fun h => by cases h
  str := fun h => by cases h
  eq := fun _ => ⟨by kernel_rfl, by kernel_rfl⟩
/-- bool -/
def ty_4 : TI := ⟨true, false, 1, .s (.tt false), [], none, none, some .bool⟩
theorem ok_4 : TyOK Try.prog 4 ty_4 where
  agg := by kernel_rfl
  size := by kernel_rfl
  zero := by kernel_rfl
  zst := fun _ => rfl
  zsize := by kernel_rfl
  zagg := fun h => by cases h
  fields := .inl rfl
  fsize := fun _ _ h => by cases h
  arr := fun _ _ _ h => by cases h
  elem := fun _ _ _ h => by cases h
  ints := fun _ _ _ h => by cases h
  int := fun _ h => by cases h
  bool := fun _ => by kernel_rfl
  str := fun h => by cases h
  eq := fun _ => ⟨by kernel_rfl, by kernel_rfl⟩
/-- string -/
def ty_9 : TI := ⟨false, false, 1, .s (.str ByteArray.empty), [], none, none, some .str⟩
theorem ok_9 : TyOK Try.prog 9 ty_9 where
  agg := by kernel_rfl
  size := by kernel_rfl
  zero := by kernel_rfl
  zst := fun _ => rfl
  zsize := by kernel_rfl
  zagg := fun h => by cases h
  fields := .inl rfl
  fsize := fun _ _ h => by cases h
  arr := fun _ _ _ h => by cases h
  elem := fun _ _ _ h => by cases h
  ints := fun _ _ _ h => by cases h
  int := fun _ h => by cases h
  bool := fun h => by cases h
  str := fun _ => by kernel_rfl
  eq := fun h => by cases h
/-- parquet/api.Wide -/
def ty_25 : TI := ⟨true, true, 33, .g [.W ⟨false, Dg.zero⟩], [(0, 1), (1, 32)], none, none, none⟩
theorem ok_25 : TyOK Try.prog 25 ty_25 where
  agg := by kernel_rfl
  size := by kernel_rfl
  zero := by kernel_rfl
  zst := fun _ => rfl
  zsize := by kernel_rfl
  zagg := fun _ => ⟨_, rfl⟩
  fields := .inr ⟨Try.prog.fieldsOf 25, by kernel_rfl, by kernel_rfl⟩
  fsize := fun o z h => by simp [ty_25] at h; omega
  arr := fun _ _ _ h => by cases h
  elem := fun _ _ _ h => by cases h
  ints := fun _ _ _ h => by cases h
  int := fun _ h => by cases h
  bool := fun h => by cases h
  str := fun h => by cases h
  eq := fun _ => ⟨by kernel_rfl, by kernel_rfl⟩
/-- parquet/api.Rat -/
def ty_49 : TI := ⟨true, true, 66, .g [.R ⟨⟨false, Dg.zero⟩, ⟨false, Dg.zero⟩⟩], [(0, 33), (33, 33)], none, none, none⟩
theorem ok_49 : TyOK Try.prog 49 ty_49 where
  agg := by kernel_rfl
  size := by kernel_rfl
  zero := by kernel_rfl
  zst := fun _ => rfl
  zsize := by kernel_rfl
  zagg := fun _ => ⟨_, rfl⟩
  fields := .inr ⟨Try.prog.fieldsOf 49, by kernel_rfl, by kernel_rfl⟩
  fsize := fun o z h => by simp [ty_49] at h; omega
  arr := fun _ _ _ h => by cases h
  elem := fun _ _ _ h => by cases h
  ints := fun _ _ _ h => by cases h
  int := fun _ h => by cases h
  bool := fun h => by cases h
  str := fun h => by cases h
  eq := fun _ => ⟨by kernel_rfl, by kernel_rfl⟩
/-- parquet/api.Point -/
def ty_51 : TI := ⟨true, true, 132, .g [.P ⟨⟨⟨false, Dg.zero⟩, ⟨false, Dg.zero⟩⟩, ⟨⟨false, Dg.zero⟩, ⟨false, Dg.zero⟩⟩⟩], [(0, 66), (66, 66)], none, none, none⟩
theorem ok_51 : TyOK Try.prog 51 ty_51 where
  agg := by kernel_rfl
  size := by kernel_rfl
  zero := by kernel_rfl
  zst := fun _ => rfl
  zsize := by kernel_rfl
  zagg := fun _ => ⟨_, rfl⟩
  fields := .inr ⟨Try.prog.fieldsOf 51, by kernel_rfl, by kernel_rfl⟩
  fsize := fun o z h => by simp [ty_51] at h; omega
  arr := fun _ _ _ h => by cases h
  elem := fun _ _ _ h => by cases h
  ints := fun _ _ _ h => by cases h
  int := fun _ h => by cases h
  bool := fun h => by cases h
  str := fun h => by cases h
  eq := fun _ => ⟨by kernel_rfl, by kernel_rfl⟩
/-- [32]uint32 -/
def ty_23 : TI := ⟨true, true, 32, .g [.D Dg.zero], [], some (32, 22, 1), none, none⟩
theorem ok_23 : TyOK Try.prog 23 ty_23 where
  agg := by kernel_rfl
  size := by kernel_rfl
  zero := by kernel_rfl
  zst := fun _ => rfl
  zsize := by kernel_rfl
  zagg := fun _ => ⟨_, rfl⟩
  fields := .inl rfl
  fsize := fun _ _ h => by cases h
  arr := fun _ _ _ h => by cases h; exact ⟨by kernel_rfl, by kernel_rfl⟩
  elem := fun _ _ _ h => by cases h
  ints := fun _ _ _ h => by cases h
  int := fun _ h => by cases h
  bool := fun h => by cases h
  str := fun h => by cases h
  eq := fun _ => ⟨by kernel_rfl, by kernel_rfl⟩
/-- parquet/wide.amount -/
def ty_74 : TI := ⟨true, true, 32, .g [.D Dg.zero], [], some (32, 22, 1), none, none⟩
theorem ok_74 : TyOK Try.prog 74 ty_74 where
  agg := by kernel_rfl
  size := by kernel_rfl
  zero := by kernel_rfl
  zst := fun _ => rfl
  zsize := by kernel_rfl
  zagg := fun _ => ⟨_, rfl⟩
  fields := .inl rfl
  fsize := fun _ _ h => by cases h
  arr := fun _ _ _ h => by cases h; exact ⟨by kernel_rfl, by kernel_rfl⟩
  elem := fun _ _ _ h => by cases h
  ints := fun _ _ _ h => by cases h
  int := fun _ h => by cases h
  bool := fun h => by cases h
  str := fun h => by cases h
  eq := fun _ => ⟨by kernel_rfl, by kernel_rfl⟩
/-- parquet/ratio.small -/
def ty_130 : TI := ⟨true, true, 2, .g [.s (.lit .i64 0), .s (.lit .i64 0)], [(0, 1), (1, 1)], none, none, none⟩
theorem ok_130 : TyOK Try.prog 130 ty_130 where
  agg := by kernel_rfl
  size := by kernel_rfl
  zero := by kernel_rfl
  zst := fun _ => rfl
  zsize := by kernel_rfl
  zagg := fun _ => ⟨_, rfl⟩
  fields := .inr ⟨Try.prog.fieldsOf 130, by kernel_rfl, by kernel_rfl⟩
  fsize := fun o z h => by simp [ty_130] at h; omega
  arr := fun _ _ _ h => by cases h
  elem := fun _ _ _ h => by cases h
  ints := fun _ _ _ h => by cases h
  int := fun _ h => by cases h
  bool := fun h => by cases h
  str := fun h => by cases h
  eq := fun _ => ⟨by kernel_rfl, by kernel_rfl⟩
/-- parquet/point.sums -/
def ty_108 : TI := ⟨true, true, 1, .g [.s (.tt false)], [(0, 1)], none, none, none⟩
theorem ok_108 : TyOK Try.prog 108 ty_108 where
  agg := by kernel_rfl
  size := by kernel_rfl
  zero := by kernel_rfl
  zst := fun _ => rfl
  zsize := by kernel_rfl
  zagg := fun _ => ⟨_, rfl⟩
  fields := .inr ⟨Try.prog.fieldsOf 108, by kernel_rfl, by kernel_rfl⟩
  fsize := fun o z h => by simp [ty_108] at h; omega
  arr := fun _ _ _ h => by cases h
  elem := fun _ _ _ h => by cases h
  ints := fun _ _ _ h => by cases h
  int := fun _ h => by cases h
  bool := fun h => by cases h
  str := fun h => by cases h
  eq := fun _ => ⟨by kernel_rfl, by kernel_rfl⟩
/-- [64]uint32 -/
def ty_93 : TI := ⟨true, true, 64, .g [.D Dg.zero, .D Dg.zero], [], some (64, 22, 1), none, none⟩
theorem ok_93 : TyOK Try.prog 93 ty_93 where
  agg := by kernel_rfl
  size := by kernel_rfl
  zero := by kernel_rfl
  zst := fun _ => rfl
  zsize := by kernel_rfl
  zagg := fun _ => ⟨_, rfl⟩
  fields := .inl rfl
  fsize := fun _ _ h => by cases h
  arr := fun _ _ _ h => by cases h; exact ⟨by kernel_rfl, by kernel_rfl⟩
  elem := fun _ _ _ h => by cases h
  ints := fun _ _ _ h => by cases h
  int := fun _ h => by cases h
  bool := fun h => by cases h
  str := fun h => by cases h
  eq := fun _ => ⟨by kernel_rfl, by kernel_rfl⟩
/-- [5]string -/
def ty_41 : TI := ⟨false, true, 5, .g [.s (.str ByteArray.empty), .s (.str ByteArray.empty), .s (.str ByteArray.empty), .s (.str ByteArray.empty), .s (.str ByteArray.empty)], [], some (5, 9, 1), none, none⟩
theorem ok_41 : TyOK Try.prog 41 ty_41 where
  agg := by kernel_rfl
  size := by kernel_rfl
  zero := by kernel_rfl
  zst := fun _ => rfl
  zsize := by kernel_rfl
  zagg := fun _ => ⟨_, rfl⟩
  fields := .inl rfl
  fsize := fun _ _ h => by cases h
  arr := fun _ _ _ h => by cases h; exact ⟨by kernel_rfl, by kernel_rfl⟩
  elem := fun _ _ _ h => by cases h
  ints := fun _ _ _ h => by cases h
  int := fun _ h => by cases h
  bool := fun h => by cases h
  str := fun h => by cases h
  eq := fun h => by cases h
/-- []uint8 -/
def ty_86 : TI := ⟨false, false, 1, .s .nils, [], none, some (5, 1, .int .u8), none⟩
theorem ok_86 : TyOK Try.prog 86 ty_86 where
  agg := by kernel_rfl
  size := by kernel_rfl
  zero := by kernel_rfl
  zst := fun _ => rfl
  zsize := by kernel_rfl
  zagg := fun h => by cases h
  fields := .inl rfl
  fsize := fun _ _ h => by cases h
  arr := fun _ _ _ h => by cases h
  elem := fun _ _ _ h => by cases h; exact ⟨by kernel_rfl, by kernel_rfl, rfl, by kernel_rfl, by kernel_rfl, by decide, by decide⟩
  ints := fun _ _ _ h => by cases h; kernel_rfl
  int := fun _ h => by cases h
  bool := fun h => by cases h
  str := fun h => by cases h
  eq := fun h => by cases h
/-- []uint32 -/
def ty_72 : TI := ⟨false, false, 1, .s .nils, [], none, some (22, 1, .int .u32), none⟩
theorem ok_72 : TyOK Try.prog 72 ty_72 where
  agg := by kernel_rfl
  size := by kernel_rfl
  zero := by kernel_rfl
  zst := fun _ => rfl
  zsize := by kernel_rfl
  zagg := fun h => by cases h
  fields := .inl rfl
  fsize := fun _ _ h => by cases h
  arr := fun _ _ _ h => by cases h
  elem := fun _ _ _ h => by cases h; exact ⟨by kernel_rfl, by kernel_rfl, rfl, by kernel_rfl, by kernel_rfl, by decide, by decide⟩
  ints := fun _ _ _ h => by cases h; kernel_rfl
  int := fun _ h => by cases h
  bool := fun h => by cases h
  str := fun h => by cases h
  eq := fun h => by cases h
/-- parquet/parquetref1.mag -/
def ty_88 : TI := ⟨false, false, 1, .s .nils, [], none, some (22, 1, .int .u32), none⟩
theorem ok_88 : TyOK Try.prog 88 ty_88 where
  agg := by kernel_rfl
  size := by kernel_rfl
  zero := by kernel_rfl
  zst := fun _ => rfl
  zsize := by kernel_rfl
  zagg := fun h => by cases h
  fields := .inl rfl
  fsize := fun _ _ h => by cases h
  arr := fun _ _ _ h => by cases h
  elem := fun _ _ _ h => by cases h; exact ⟨by kernel_rfl, by kernel_rfl, rfl, by kernel_rfl, by kernel_rfl, by decide, by decide⟩
  ints := fun _ _ _ h => by cases h; kernel_rfl
  int := fun _ h => by cases h
  bool := fun h => by cases h
  str := fun h => by cases h
  eq := fun h => by cases h
/-- []api.Wide -/
def ty_117 : TI := ⟨false, false, 1, .s .nils, [], none, some (25, 33, .wd), none⟩
theorem ok_117 : TyOK Try.prog 117 ty_117 where
  agg := by kernel_rfl
  size := by kernel_rfl
  zero := by kernel_rfl
  zst := fun _ => rfl
  zsize := by kernel_rfl
  zagg := fun h => by cases h
  fields := .inl rfl
  fsize := fun _ _ h => by cases h
  arr := fun _ _ _ h => by cases h
  elem := fun _ _ _ h => by cases h; exact ⟨by kernel_rfl, by kernel_rfl, rfl, by kernel_rfl, by kernel_rfl, by decide, by decide⟩
  ints := fun _ _ _ h => by cases h
  int := fun _ h => by cases h
  bool := fun h => by cases h
  str := fun h => by cases h
  eq := fun h => by cases h
/-- []api.Rat -/
def ty_104 : TI := ⟨false, false, 1, .s .nils, [], none, some (49, 66, .rt), none⟩
theorem ok_104 : TyOK Try.prog 104 ty_104 where
  agg := by kernel_rfl
  size := by kernel_rfl
  zero := by kernel_rfl
  zst := fun _ => rfl
  zsize := by kernel_rfl
  zagg := fun h => by cases h
  fields := .inl rfl
  fsize := fun _ _ h => by cases h
  arr := fun _ _ _ h => by cases h
  elem := fun _ _ _ h => by cases h; exact ⟨by kernel_rfl, by kernel_rfl, rfl, by kernel_rfl, by kernel_rfl, by decide, by decide⟩
  ints := fun _ _ _ h => by cases h
  int := fun _ h => by cases h
  bool := fun h => by cases h
  str := fun h => by cases h
  eq := fun h => by cases h
/-- []api.Point -/
def ty_103 : TI := ⟨false, false, 1, .s .nils, [], none, some (51, 132, .pt), none⟩
theorem ok_103 : TyOK Try.prog 103 ty_103 where
  agg := by kernel_rfl
  size := by kernel_rfl
  zero := by kernel_rfl
  zst := fun _ => rfl
  zsize := by kernel_rfl
  zagg := fun h => by cases h
  fields := .inl rfl
  fsize := fun _ _ h => by cases h
  arr := fun _ _ _ h => by cases h
  elem := fun _ _ _ h => by cases h; exact ⟨by kernel_rfl, by kernel_rfl, rfl, by kernel_rfl, by kernel_rfl, by decide, by decide⟩
  ints := fun _ _ _ h => by cases h
  int := fun _ h => by cases h
  bool := fun h => by cases h
  str := fun h => by cases h
  eq := fun h => by cases h
def tT : Nat → Option TI
  | 3 => some ty_3
  | 2 => some ty_2
  | 5 => some ty_5
  | 61 => some ty_61
  | 22 => some ty_22
  | 80 => some ty_80
  | 81 => some ty_81
  | 21 => some ty_21
  | 4 => some ty_4
  | 9 => some ty_9
  | 25 => some ty_25
  | 49 => some ty_49
  | 51 => some ty_51
  | 23 => some ty_23
  | 74 => some ty_74
  | 130 => some ty_130
  | 108 => some ty_108
  | 93 => some ty_93
  | 41 => some ty_41
  | 86 => some ty_86
  | 72 => some ty_72
  | 88 => some ty_88
  | 117 => some ty_117
  | 104 => some ty_104
  | 103 => some ty_103
  | _ => none
theorem tok : TOK Try.prog tT := fun t i h => by
  unfold tT at h
  split at h
  · cases h; exact ok_3
  · cases h; exact ok_2
  · cases h; exact ok_5
  · cases h; exact ok_61
  · cases h; exact ok_22
  · cases h; exact ok_80
  · cases h; exact ok_81
  · cases h; exact ok_21
  · cases h; exact ok_4
  · cases h; exact ok_9
  · cases h; exact ok_25
  · cases h; exact ok_49
  · cases h; exact ok_51
  · cases h; exact ok_23
  · cases h; exact ok_74
  · cases h; exact ok_130
  · cases h; exact ok_108
  · cases h; exact ok_93
  · cases h; exact ok_41
  · cases h; exact ok_86
  · cases h; exact ok_72
  · cases h; exact ok_88
  · cases h; exact ok_117
  · cases h; exact ok_104
  · cases h; exact ok_103
  · cases h
theorem mixed : Try.prog.follows .mixedOrders = true := by kernel_rfl
end Go.Eng
