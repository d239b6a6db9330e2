/- The types of this seat, by program. -/
import Derived.Test.YtlcplkldielemaaEngR
import Derived.Test.YtlcplkldielemaaProg
set_option linter.all false
set_option exponentiation.threshold 3000
namespace Go.Eng
open Go.Proofs
set_option maxRecDepth 100000
/-- int -/
def ty_3 : TI := ⟨true, false, 1, .s (.lit .i64 0), [], none, none, some (.int .i64)⟩
theorem ok_3 : TyOK Try.prog 3 ty_3 where
  agg := by kernel_rfl
  size := by kernel_rfl
  zero := by kernel_rfl
  zst := fun _ => rfl
  zsize := by kernel_rfl
  zagg := fun h => by cases h
  fields := .inl rfl
  fsize := fun _ _ h => by cases h
  arr := fun _ _ _ h => by cases h
  elem := fun _ _ _ h => by cases h
  int := fun _ h => by cases h; kernel_rfl
  bool := fun h => by cases h
  str := fun h => by cases h
  eq := fun _ => ⟨by kernel_rfl, by kernel_rfl⟩
/-- int64 -/
def ty_2 : TI := ⟨true, false, 1, .s (.lit .i64 0), [], none, none, some (.int .i64)⟩
theorem ok_2 : TyOK Try.prog 2 ty_2 where
  agg := by kernel_rfl
  size := by kernel_rfl
  zero := by kernel_rfl
  zst := fun _ => rfl
  zsize := by kernel_rfl
  zagg := fun h => by cases h
  fields := .inl rfl
  fsize := fun _ _ h => by cases h
  arr := fun _ _ _ h => by cases h
  elem := fun _ _ _ h => by cases h
  int := fun _ h => by cases h; kernel_rfl
  bool := fun h => by cases h
  str := fun h => by cases h
  eq := fun _ => ⟨by kernel_rfl, by kernel_rfl⟩
/-- uint8 -/
def ty_5 : TI := ⟨true, false, 1, .s (.lit .u8 0), [], none, none, some (.int .u8)⟩
theorem ok_5 : TyOK Try.prog 5 ty_5 where
  agg := by kernel_rfl
  size := by kernel_rfl
  zero := by kernel_rfl
  zst := fun _ => rfl
  zsize := by kernel_rfl
  zagg := fun h => by cases h
  fields := .inl rfl
  fsize := fun _ _ h => by cases h
  arr := fun _ _ _ h => by cases h
  elem := fun _ _ _ h => by cases h
  int := fun _ h => by cases h; kernel_rfl
  bool := fun h => by cases h
  str := fun h => by cases h
  eq := fun _ => ⟨by kernel_rfl, by kernel_rfl⟩
/-- uint32 -/
def ty_39 : TI := ⟨true, false, 1, .s (.lit .u32 0), [], none, none, some (.int .u32)⟩
theorem ok_39 : TyOK Try.prog 39 ty_39 where
  agg := by kernel_rfl
  size := by kernel_rfl
  zero := by kernel_rfl
  zst := fun _ => rfl
  zsize := by kernel_rfl
  zagg := fun h => by cases h
  fields := .inl rfl
  fsize := fun _ _ h => by cases h
  arr := fun _ _ _ h => by cases h
  elem := fun _ _ _ h => by cases h
  int := fun _ h => by cases h; kernel_rfl
  bool := fun h => by cases h
  str := fun h => by cases h
  eq := fun _ => ⟨by kernel_rfl, by kernel_rfl⟩
/-- uint64 -/
def ty_73 : TI := ⟨true, false, 1, .s (.lit .u64 0), [], none, none, some (.int .u64)⟩
theorem ok_73 : TyOK Try.prog 73 ty_73 where
  agg := by kernel_rfl
  size := by kernel_rfl
  zero := by kernel_rfl
  zst := fun _ => rfl
  zsize := by kernel_rfl
  zagg := fun h => by cases h
  fields := .inl rfl
  fsize := fun _ _ h => by cases h
  arr := fun _ _ _ h => by cases h
  elem := fun _ _ _ h => by cases h
  int := fun _ h => by cases h; kernel_rfl
  bool := fun h => by cases h
  str := fun h => by cases h
  eq := fun _ => ⟨by kernel_rfl, by kernel_rfl⟩
/-- uint -/
def ty_37 : TI := ⟨true, false, 1, .s (.lit .u64 0), [], none, none, some (.int .u64)⟩
theorem ok_37 : TyOK Try.prog 37 ty_37 where
  agg := by kernel_rfl
  size := by kernel_rfl
  zero := by kernel_rfl
  zst := fun _ => rfl
  zsize := by kernel_rfl
  zagg := fun h => by cases h
  fields := .inl rfl
  fsize := fun _ _ h => by cases h
  arr := fun _ _ _ h => by cases h
  elem := fun _ _ _ h => by cases h
  int := fun _ h => by cases h; kernel_rfl
  bool := fun h => by cases h
  str := fun h => by cases h
  eq := fun _ => ⟨by kernel_rfl, by kernel_rfl⟩
/-- int32 -/
def ty_21 : TI := ⟨true, false, 1, .s (.lit .i32 0), [], none, none, some (.int .i32)⟩
theorem ok_21 : TyOK Try.prog 21 ty_21 where
  agg := by kernel_rfl
  size := by kernel_rfl
  zero := by kernel_rfl
  zst := fun _ => rfl
  zsize := by kernel_rfl
  zagg := fun h => by cases h
  fields := .inl rfl
  fsize := fun _ _ h => by cases h
  arr := fun _ _ _ h => by cases h
  elem := fun _ _ _ h => by cases h
  int := fun _ h => by cases h; kernel_rfl
  bool := fun h => by cases h
  str := fun h => by cases h
  eq := fun _ => ⟨by kernel_rfl, by kernel_rfl⟩
/-- bool -/
def ty_4 : TI := ⟨true, false, 1, .s (.tt false), [], none, none, some .bool⟩
theorem ok_4 : TyOK Try.prog 4 ty_4 where
  agg := by kernel_rfl
  size := by kernel_rfl
  zero := by kernel_rfl
  zst := fun _ => rfl
  zsize := by kernel_rfl
  zagg := fun h => by cases h
  fields := .inl rfl
  fsize := fun _ _ h => by cases h
  arr := fun _ _ _ h => by cases h
  elem := fun _ _ _ h => by cases h
  int := fun _ h => by cases h
  bool := fun _ => by kernel_rfl
  str := fun h => by cases h
  eq := fun _ => ⟨by kernel_rfl, by kernel_rfl⟩
/-- string -/
def ty_9 : TI := ⟨false, false, 1, .s (.str ByteArray.empty), [], none, none, some .str⟩
theorem ok_9 : TyOK Try.prog 9 ty_9 where
  agg := by kernel_rfl
  size := by kernel_rfl
  zero := by kernel_rfl
  zst := fun _ => rfl
  zsize := by kernel_rfl
  zagg := fun h => by cases h
  fields := .inl rfl
  fsize := fun _ _ h => by cases h
  arr := fun _ _ _ h => by cases h
  elem := fun _ _ _ h => by cases h
  int := fun _ h => by cases h
  bool := fun h => by cases h
  str := fun _ => by kernel_rfl
  eq := fun h => by cases h
/-- parquet/api.Cell -/
def ty_23 : TI := ⟨true, true, 3, .g [.s (.lit .i64 0), .s (.lit .i64 0), .s (.lit .i64 0)], [(0, 1), (1, 1), (2, 1)], none, none, none⟩
theorem ok_23 : TyOK Try.prog 23 ty_23 where
  agg := by kernel_rfl
  size := by kernel_rfl
  zero := by kernel_rfl
  zst := fun _ => rfl
  zsize := by kernel_rfl
  zagg := fun _ => ⟨_, rfl⟩
  fields := .inr ⟨Try.prog.fieldsOf 23, by kernel_rfl, by kernel_rfl⟩
  fsize := fun o z h => by simp [ty_23] at h; omega
  arr := fun _ _ _ h => by cases h
  elem := fun _ _ _ h => by cases h
  int := fun _ h => by cases h
  bool := fun h => by cases h
  str := fun h => by cases h
  eq := fun _ => ⟨by kernel_rfl, by kernel_rfl⟩
/-- parquet/api.Wide -/
def ty_42 : TI := ⟨true, true, 33, .g [.W ⟨false, Dg.zero⟩], [(0, 1), (1, 32)], none, none, none⟩
theorem ok_42 : TyOK Try.prog 42 ty_42 where
  agg := by kernel_rfl
  size := by kernel_rfl
  zero := by kernel_rfl
  zst := fun _ => rfl
  zsize := by kernel_rfl
  zagg := fun _ => ⟨_, rfl⟩
  fields := .inr ⟨Try.prog.fieldsOf 42, by kernel_rfl, by kernel_rfl⟩
  fsize := fun o z h => by simp [ty_42] at h; omega
  arr := fun _ _ _ h => by cases h
  elem := fun _ _ _ h => by cases h
  int := fun _ h => by cases h
  bool := fun h => by cases h
  str := fun h => by cases h
  eq := fun _ => ⟨by kernel_rfl, by kernel_rfl⟩
/-- parquet/api.Rat -/
def ty_44 : TI := ⟨true, true, 66, .g [.R ⟨⟨false, Dg.zero⟩, ⟨false, Dg.zero⟩⟩], [(0, 33), (33, 33)], none, none, none⟩
theorem ok_44 : TyOK Try.prog 44 ty_44 where
  agg := by kernel_rfl
  size := by kernel_rfl
  zero := by kernel_rfl
  zst := fun _ => rfl
  zsize := by kernel_rfl
  zagg := fun _ => ⟨_, rfl⟩
  fields := .inr ⟨Try.prog.fieldsOf 44, by kernel_rfl, by kernel_rfl⟩
  fsize := fun o z h => by simp [ty_44] at h; omega
  arr := fun _ _ _ h => by cases h
  elem := fun _ _ _ h => by cases h
  int := fun _ h => by cases h
  bool := fun h => by cases h
  str := fun h => by cases h
  eq := fun _ => ⟨by kernel_rfl, by kernel_rfl⟩
/-- parquet/api.Point -/
def ty_46 : TI := ⟨true, true, 132, .g [.P ⟨⟨⟨false, Dg.zero⟩, ⟨false, Dg.zero⟩⟩, ⟨⟨false, Dg.zero⟩, ⟨false, Dg.zero⟩⟩⟩], [(0, 66), (66, 66)], none, none, none⟩
theorem ok_46 : TyOK Try.prog 46 ty_46 where
  agg := by kernel_rfl
  size := by kernel_rfl
  zero := by kernel_rfl
  zst := fun _ => rfl
  zsize := by kernel_rfl
  zagg := fun _ => ⟨_, rfl⟩
  fields := .inr ⟨Try.prog.fieldsOf 46, by kernel_rfl, by kernel_rfl⟩
  fsize := fun o z h => by simp [ty_46] at h; omega
  arr := fun _ _ _ h => by cases h
  elem := fun _ _ _ h => by cases h
  int := fun _ h => by cases h
  bool := fun h => by cases h
  str := fun h => by cases h
  eq := fun _ => ⟨by kernel_rfl, by kernel_rfl⟩
/-- [32]uint32 -/
def ty_40 : TI := ⟨true, true, 32, .g [.D Dg.zero], [], some (32, 39, 1), none, none⟩
theorem ok_40 : TyOK Try.prog 40 ty_40 where
  agg := by kernel_rfl
  size := by kernel_rfl
  zero := by kernel_rfl
  zst := fun _ => rfl
  zsize := by kernel_rfl
  zagg := fun _ => ⟨_, rfl⟩
  fields := .inl rfl
  fsize := fun _ _ h => by cases h
  arr := fun _ _ _ h => by cases h; exact ⟨by kernel_rfl, by kernel_rfl⟩
  elem := fun _ _ _ h => by cases h
  int := fun _ h => by cases h
  bool := fun h => by cases h
  str := fun h => by cases h
  eq := fun _ => ⟨by kernel_rfl, by kernel_rfl⟩
/-- parquet/wide.amount -/
def ty_76 : TI := ⟨true, true, 32, .g [.D Dg.zero], [], some (32, 39, 1), none, none⟩
theorem ok_76 : TyOK Try.prog 76 ty_76 where
  agg := by kernel_rfl
  size := by kernel_rfl
  zero := by kernel_rfl
  zst := fun _ => rfl
  zsize := by kernel_rfl
  zagg := fun _ => ⟨_, rfl⟩
  fields := .inl rfl
  fsize := fun _ _ h => by cases h
  arr := fun _ _ _ h => by cases h; exact ⟨by kernel_rfl, by kernel_rfl⟩
  elem := fun _ _ _ h => by cases h
  int := fun _ h => by cases h
  bool := fun h => by cases h
  str := fun h => by cases h
  eq := fun _ => ⟨by kernel_rfl, by kernel_rfl⟩
/-- [4]api.Cell -/
def ty_26 : TI := ⟨true, true, 12, .g [.s (.lit .i64 0), .s (.lit .i64 0), .s (.lit .i64 0), .s (.lit .i64 0), .s (.lit .i64 0), .s (.lit .i64 0), .s (.lit .i64 0), .s (.lit .i64 0), .s (.lit .i64 0), .s (.lit .i64 0), .s (.lit .i64 0), .s (.lit .i64 0)], [], some (4, 23, 3), none, none⟩
theorem ok_26 : TyOK Try.prog 26 ty_26 where
  agg := by kernel_rfl
  size := by kernel_rfl
  zero := by kernel_rfl
  zst := fun _ => rfl
  zsize := by kernel_rfl
  zagg := fun _ => ⟨_, rfl⟩
  fields := .inl rfl
  fsize := fun _ _ h => by cases h
  arr := fun _ _ _ h => by cases h; exact ⟨by kernel_rfl, by kernel_rfl⟩
  elem := fun _ _ _ h => by cases h
  int := fun _ h => by cases h
  bool := fun h => by cases h
  str := fun h => by cases h
  eq := fun _ => ⟨by kernel_rfl, by kernel_rfl⟩
/-- [4]api.Point -/
def ty_47 : TI := ⟨true, true, 528, .g [.P ⟨⟨⟨false, Dg.zero⟩, ⟨false, Dg.zero⟩⟩, ⟨⟨false, Dg.zero⟩, ⟨false, Dg.zero⟩⟩⟩, .P ⟨⟨⟨false, Dg.zero⟩, ⟨false, Dg.zero⟩⟩, ⟨⟨false, Dg.zero⟩, ⟨false, Dg.zero⟩⟩⟩, .P ⟨⟨⟨false, Dg.zero⟩, ⟨false, Dg.zero⟩⟩, ⟨⟨false, Dg.zero⟩, ⟨false, Dg.zero⟩⟩⟩, .P ⟨⟨⟨false, Dg.zero⟩, ⟨false, Dg.zero⟩⟩, ⟨⟨false, Dg.zero⟩, ⟨false, Dg.zero⟩⟩⟩], [], some (4, 46, 132), none, none⟩
theorem ok_47 : TyOK Try.prog 47 ty_47 where
  agg := by kernel_rfl
  size := by kernel_rfl
  zero := by kernel_rfl
  zst := fun _ => rfl
  zsize := by kernel_rfl
  zagg := fun _ => ⟨_, rfl⟩
  fields := .inl rfl
  fsize := fun _ _ h => by cases h
  arr := fun _ _ _ h => by cases h; exact ⟨by kernel_rfl, by kernel_rfl⟩
  elem := fun _ _ _ h => by cases h
  int := fun _ h => by cases h
  bool := fun h => by cases h
  str := fun h => by cases h
  eq := fun _ => ⟨by kernel_rfl, by kernel_rfl⟩
/-- parquet/cell.span -/
def ty_52 : TI := ⟨true, true, 2, .g [.s (.lit .i64 0), .s (.lit .i64 0)], [(0, 1), (1, 1)], none, none, none⟩
theorem ok_52 : TyOK Try.prog 52 ty_52 where
  agg := by kernel_rfl
  size := by kernel_rfl
  zero := by kernel_rfl
  zst := fun _ => rfl
  zsize := by kernel_rfl
  zagg := fun _ => ⟨_, rfl⟩
  fields := .inr ⟨Try.prog.fieldsOf 52, by kernel_rfl, by kernel_rfl⟩
  fsize := fun o z h => by simp [ty_52] at h; omega
  arr := fun _ _ _ h => by cases h
  elem := fun _ _ _ h => by cases h
  int := fun _ h => by cases h
  bool := fun h => by cases h
  str := fun h => by cases h
  eq := fun _ => ⟨by kernel_rfl, by kernel_rfl⟩
/-- parquet/cell.across -/
def ty_54 : TI := ⟨true, true, 2, .g [.s (.lit .i64 0), .s (.lit .i64 0)], [(0, 2)], none, none, none⟩
theorem ok_54 : TyOK Try.prog 54 ty_54 where
  agg := by kernel_rfl
  size := by kernel_rfl
  zero := by kernel_rfl
  zst := fun _ => rfl
  zsize := by kernel_rfl
  zagg := fun _ => ⟨_, rfl⟩
  fields := .inr ⟨Try.prog.fieldsOf 54, by kernel_rfl, by kernel_rfl⟩
  fsize := fun o z h => by simp [ty_54] at h; omega
  arr := fun _ _ _ h => by cases h
  elem := fun _ _ _ h => by cases h
  int := fun _ h => by cases h
  bool := fun h => by cases h
  str := fun h => by cases h
  eq := fun _ => ⟨by kernel_rfl, by kernel_rfl⟩
/-- parquet/cell.box -/
def ty_56 : TI := ⟨true, true, 4, .g [.s (.lit .i64 0), .s (.lit .i64 0), .s (.lit .i64 0), .s (.lit .i64 0)], [(0, 2), (2, 2)], none, none, none⟩
theorem ok_56 : TyOK Try.prog 56 ty_56 where
  agg := by kernel_rfl
  size := by kernel_rfl
  zero := by kernel_rfl
  zst := fun _ => rfl
  zsize := by kernel_rfl
  zagg := fun _ => ⟨_, rfl⟩
  fields := .inr ⟨Try.prog.fieldsOf 56, by kernel_rfl, by kernel_rfl⟩
  fsize := fun o z h => by simp [ty_56] at h; omega
  arr := fun _ _ _ h => by cases h
  elem := fun _ _ _ h => by cases h
  int := fun _ h => by cases h
  bool := fun h => by cases h
  str := fun h => by cases h
  eq := fun _ => ⟨by kernel_rfl, by kernel_rfl⟩
/-- []int -/
def ty_61 : TI := ⟨false, false, 1, .s .nils, [], none, some (3, 1, .int .i64), none⟩
theorem ok_61 : TyOK Try.prog 61 ty_61 where
  agg := by kernel_rfl
  size := by kernel_rfl
  zero := by kernel_rfl
  zst := fun _ => rfl
  zsize := by kernel_rfl
  zagg := fun h => by cases h
  fields := .inl rfl
  fsize := fun _ _ h => by cases h
  arr := fun _ _ _ h => by cases h
  elem := fun _ _ _ h => by cases h; exact ⟨by kernel_rfl, by kernel_rfl, rfl, by kernel_rfl⟩
  int := fun _ h => by cases h
  bool := fun h => by cases h
  str := fun h => by cases h
  eq := fun h => by cases h
/-- []uint32 -/
def ty_79 : TI := ⟨false, false, 1, .s .nils, [], none, some (39, 1, .int .u32), none⟩
theorem ok_79 : TyOK Try.prog 79 ty_79 where
  agg := by kernel_rfl
  size := by kernel_rfl
  zero := by kernel_rfl
  zst := fun _ => rfl
  zsize := by kernel_rfl
  zagg := fun h => by cases h
  fields := .inl rfl
  fsize := fun _ _ h => by cases h
  arr := fun _ _ _ h => by cases h
  elem := fun _ _ _ h => by cases h; exact ⟨by kernel_rfl, by kernel_rfl, rfl, by kernel_rfl⟩
  int := fun _ h => by cases h
  bool := fun h => by cases h
  str := fun h => by cases h
  eq := fun h => by cases h
/-- parquet/parquetref1.mag -/
def ty_80 : TI := ⟨false, false, 1, .s .nils, [], none, some (39, 1, .int .u32), none⟩
theorem ok_80 : TyOK Try.prog 80 ty_80 where
  agg := by kernel_rfl
  size := by kernel_rfl
  zero := by kernel_rfl
  zst := fun _ => rfl
  zsize := by kernel_rfl
  zagg := fun h => by cases h
  fields := .inl rfl
  fsize := fun _ _ h => by cases h
  arr := fun _ _ _ h => by cases h
  elem := fun _ _ _ h => by cases h; exact ⟨by kernel_rfl, by kernel_rfl, rfl, by kernel_rfl⟩
  int := fun _ h => by cases h
  bool := fun h => by cases h
  str := fun h => by cases h
  eq := fun h => by cases h
def tT : Nat → Option TI
  | 3 => some ty_3
  | 2 => some ty_2
  | 5 => some ty_5
  | 39 => some ty_39
  | 73 => some ty_73
  | 37 => some ty_37
  | 21 => some ty_21
  | 4 => some ty_4
  | 9 => some ty_9
  | 23 => some ty_23
  | 42 => some ty_42
  | 44 => some ty_44
  | 46 => some ty_46
  | 40 => some ty_40
  | 76 => some ty_76
  | 26 => some ty_26
  | 47 => some ty_47
  | 52 => some ty_52
  | 54 => some ty_54
  | 56 => some ty_56
  | 61 => some ty_61
  | 79 => some ty_79
  | 80 => some ty_80
  | _ => none
theorem tok : TOK Try.prog tT := fun t i h => by
  unfold tT at h
  split at h
  · cases h; exact ok_3
  · cases h; exact ok_2
  · cases h; exact ok_5
  · cases h; exact ok_39
  · cases h; exact ok_73
  · cases h; exact ok_37
  · cases h; exact ok_21
  · cases h; exact ok_4
  · cases h; exact ok_9
  · cases h; exact ok_23
  · cases h; exact ok_42
  · cases h; exact ok_44
  · cases h; exact ok_46
  · cases h; exact ok_40
  · cases h; exact ok_76
  · cases h; exact ok_26
  · cases h; exact ok_47
  · cases h; exact ok_52
  · cases h; exact ok_54
  · cases h; exact ok_56
  · cases h; exact ok_61
  · cases h; exact ok_79
  · cases h; exact ok_80
  · cases h
theorem mixed : Try.prog.follows .mixedOrders = true := by kernel_rfl
end Go.Eng
