
import Derived.Test.YtjjmpghdjoohfaaGreatEngMW
import Derived.Test.YtjjmpghdjoohfaaGreatProg
set_option linter.all false
set_option exponentiation.threshold 3000
namespace Go.Eng
open Go.Proofs
set_option maxRecDepth 100000
def ty_3 : TI := ⟨true, false, 1, .s (.lit .i64 0), [], none, none, some (.int .i64)⟩
theorem ok_3 : TyOK Tryz.prog 3 ty_3 where
  agg := by kernel_rfl
  size := by kernel_rfl
  zero := by kernel_rfl
  zst := fun _ => rfl
  zsize := by kernel_rfl
  zagg := fun h => by cases h
  fields := .inl rfl
  fsize := fun _ _ h => by cases h
  arr := fun _ _ _ h => by cases h
  elem := fun _ _ _ h => by cases h
  ints := fun _ _ _ h => by cases h
  int := fun _ h => by cases h; kernel_rfl
  bool := fun h => by cases h
  str := fun h => by cases h
  eq := fun _ => ⟨by kernel_rfl, by kernel_rfl⟩
def ty_2 : TI := ⟨true, false, 1, .s (.lit .i64 0), [], none, none, some (.int .i64)⟩
theorem ok_2 : TyOK Tryz.prog 2 ty_2 where
  agg := by kernel_rfl
  size := by kernel_rfl
  zero := by kernel_rfl
  zst := fun _ => rfl
  zsize := by kernel_rfl
  zagg := fun h => by cases h
  fields := .inl rfl
  fsize := fun _ _ h => by cases h
  arr := fun _ _ _ h => by cases h
  elem := fun _ _ _ h => by cases h
  ints := fun _ _ _ h => by cases h
  int := fun _ h => by cases h; kernel_rfl
  bool := fun h => by cases h
  str := fun h => by cases h
  eq := fun _ => ⟨by kernel_rfl, by kernel_rfl⟩
def ty_5 : TI := ⟨true, false, 1, .s (.lit .u8 0), [], none, none, some (.int .u8)⟩
theorem ok_5 : TyOK Tryz.prog 5 ty_5 where
  agg := by kernel_rfl
  size := by kernel_rfl
  zero := by kernel_rfl
  zst := fun _ => rfl
  zsize := by kernel_rfl
  zagg := fun h => by cases h
  fields := .inl rfl
  fsize := fun _ _ h => by cases h
  arr := fun _ _ _ h => by cases h
  elem := fun _ _ _ h => by cases h
  ints := fun _ _ _ h => by cases h
  int := fun _ h => by cases h; kernel_rfl
  bool := fun h => by cases h
  str := fun h => by cases h
  eq := fun _ => ⟨by kernel_rfl, by kernel_rfl⟩
def ty_38 : TI := ⟨true, false, 1, .s (.lit .i8 0), [], none, none, some (.int .i8)⟩
theorem ok_38 : TyOK Tryz.prog 38 ty_38 where
  agg := by kernel_rfl
  size := by kernel_rfl
  zero := by kernel_rfl
  zst := fun _ => rfl
  zsize := by kernel_rfl
  zagg := fun h => by cases h
  fields := .inl rfl
  fsize := fun _ _ h => by cases h
  arr := fun _ _ _ h => by cases h
  elem := fun _ _ _ h => by cases h
  ints := fun _ _ _ h => by cases h
  int := fun _ h => by cases h; kernel_rfl
  bool := fun h => by cases h
  str := fun h => by cases h
  eq := fun _ => ⟨by kernel_rfl, by kernel_rfl⟩
def ty_22 : TI := ⟨true, false, 1, .s (.lit .u32 0), [], none, none, some (.int .u32)⟩
theorem ok_22 : TyOK Tryz.prog 22 ty_22 where
  agg := by kernel_rfl
  size := by kernel_rfl
  zero := by kernel_rfl
  zst := fun _ => rfl
  zsize := by kernel_rfl
  zagg := fun h => by cases h
  fields := .inl rfl
  fsize := fun _ _ h => by cases h
  arr := fun _ _ _ h => by cases h
  elem := fun _ _ _ h => by cases h
  ints := fun _ _ _ h => by cases h
  int := fun _ h => by cases h; kernel_rfl
  bool := fun h => by cases h
  str := fun h => by cases h
  eq := fun _ => ⟨by kernel_rfl, by kernel_rfl⟩
def ty_104 : TI := ⟨true, false, 1, .s (.lit .u64 0), [], none, none, some (.int .u64)⟩
theorem ok_104 : TyOK Tryz.prog 104 ty_104 where
  agg := by kernel_rfl
  size := by kernel_rfl
  zero := by kernel_rfl
  zst := fun _ => rfl
  zsize := by kernel_rfl
  zagg := fun h => by cases h
  fields := .inl rfl
  fsize := fun _ _ h => by cases h
  arr := fun _ _ _ h => by cases h
  elem := fun _ _ _ h => by cases h
  ints := fun _ _ _ h => by cases h
  int := fun _ h => by cases h; kernel_rfl
  bool := fun h => by cases h
  str := fun h => by cases h
  eq := fun _ => ⟨by kernel_rfl, by kernel_rfl⟩
def ty_106 : TI := ⟨true, false, 1, .s (.lit .u64 0), [], none, none, some (.int .u64)⟩
theorem ok_106 : TyOK Tryz.prog 106 ty_106 where
  agg := by kernel_rfl
  size := by kernel_rfl
  zero := by kernel_rfl
  zst := fun _ => rfl
  zsize := by kernel_rfl
  zagg := fun h => by cases h
  fields := .inl rfl
  fsize := fun _ _ h => by cases h
  arr := fun _ _ _ h => by cases h
  elem := fun _ _ _ h => by cases h
  ints := fun _ _ _ h => by cases h
  int := fun _ h => by cases h; kernel_rfl
  bool := fun h => by cases h
  str := fun h => by cases h
  eq := fun _ => ⟨by kernel_rfl, by kernel_rfl⟩
def ty_21 : TI := ⟨true, false, 1, .s (.lit .i32 0), [], none, none, some (.int .i32)⟩
theorem ok_21 : TyOK Tryz.prog 21 ty_21 where
  agg := by kernel_rfl
  size := by kernel_rfl
  zero := by kernel_rfl
  zst := fun _ => rfl
  zsize := by kernel_rfl
  zagg := fun h => by cases h
  fields := .inl rfl
  fsize := fun _ _ h => by cases h
  arr := fun _ _ _ h => by cases h
  elem := fun _ _ _ h => by cases h
  ints := fun _ _ _ h => by cases h
  int := fun _ h => by cases h; kernel_rfl
  bool := fun h => by cases h
  str := fun h => by cases h
  eq := fun _ => ⟨by kernel_rfl, by kernel_rfl⟩
def ty_4 : TI := ⟨true, false, 1, .s (.tt false), [], none, none, some .bool⟩
theorem ok_4 : TyOK Tryz.prog 4 ty_4 where
  agg := by kernel_rfl
  size := by kernel_rfl
  zero := by kernel_rfl
  zst := fun _ => rfl
  zsize := by kernel_rfl
  zagg := fun h => by cases h
  fields := .inl rfl
  fsize := fun _ _ h => by cases h
  arr := fun _ _ _ h => by cases h
  elem := fun _ _ _ h => by cases h
  ints := fun _ _ _ h => by cases h
  int := fun _ h => by cases h
  bool := fun _ => by kernel_rfl
  str := fun h => by cases h
  eq := fun _ => ⟨by kernel_rfl, by kernel_rfl⟩
def ty_9 : TI := ⟨false, false, 1, .s (.str ByteArray.empty), [], none, none, some .str⟩
theorem ok_9 : TyOK Tryz.prog 9 ty_9 where
  agg := by kernel_rfl
  size := by kernel_rfl
  zero := by kernel_rfl
  zst := fun _ => rfl
  zsize := by kernel_rfl
  zagg := fun h => by cases h
  fields := .inl rfl
  fsize := fun _ _ h => by cases h
  arr := fun _ _ _ h => by cases h
  elem := fun _ _ _ h => by cases h
  ints := fun _ _ _ h => by cases h
  int := fun _ h => by cases h
  bool := fun h => by cases h
  str := fun _ => by kernel_rfl
  eq := fun h => by cases h
def ty_25 : TI := ⟨true, true, 33, .g [.W ⟨false, Dg.zero⟩], [(0, 1), (1, 32)], none, none, none⟩
theorem ok_25 : TyOK Tryz.prog 25 ty_25 where
  agg := by kernel_rfl
  size := by kernel_rfl
  zero := by kernel_rfl
  zst := fun _ => rfl
  zsize := by kernel_rfl
  zagg := fun _ => ⟨_, rfl⟩
  fields := .inr ⟨Tryz.prog.fieldsOf 25, by kernel_rfl, by kernel_rfl⟩
  fsize := fun o z h => by simp [ty_25] at h; omega
  arr := fun _ _ _ h => by cases h
  elem := fun _ _ _ h => by cases h
  ints := fun _ _ _ h => by cases h
  int := fun _ h => by cases h
  bool := fun h => by cases h
  str := fun h => by cases h
  eq := fun _ => ⟨by kernel_rfl, by kernel_rfl⟩
def ty_27 : TI := ⟨true, true, 66, .g [.R ⟨⟨false, Dg.zero⟩, ⟨false, Dg.zero⟩⟩], [(0, 33), (33, 33)], none, none, none⟩
theorem ok_27 : TyOK Tryz.prog 27 ty_27 where
  agg := by kernel_rfl
  size := by kernel_rfl
  zero := by kernel_rfl
  zst := fun _ => rfl
  zsize := by kernel_rfl
  zagg := fun _ => ⟨_, rfl⟩
  fields := .inr ⟨Tryz.prog.fieldsOf 27, by kernel_rfl, by kernel_rfl⟩
  fsize := fun o z h => by simp [ty_27] at h; omega
  arr := fun _ _ _ h => by cases h
  elem := fun _ _ _ h => by cases h
  ints := fun _ _ _ h => by cases h
  int := fun _ h => by cases h
  bool := fun h => by cases h
  str := fun h => by cases h
  eq := fun _ => ⟨by kernel_rfl, by kernel_rfl⟩
def ty_29 : TI := ⟨true, true, 132, .g [.P ⟨⟨⟨false, Dg.zero⟩, ⟨false, Dg.zero⟩⟩, ⟨⟨false, Dg.zero⟩, ⟨false, Dg.zero⟩⟩⟩], [(0, 66), (66, 66)], none, none, none⟩
theorem ok_29 : TyOK Tryz.prog 29 ty_29 where
  agg := by kernel_rfl
  size := by kernel_rfl
  zero := by kernel_rfl
  zst := fun _ => rfl
  zsize := by kernel_rfl
  zagg := fun _ => ⟨_, rfl⟩
  fields := .inr ⟨Tryz.prog.fieldsOf 29, by kernel_rfl, by kernel_rfl⟩
  fsize := fun o z h => by simp [ty_29] at h; omega
  arr := fun _ _ _ h => by cases h
  elem := fun _ _ _ h => by cases h
  ints := fun _ _ _ h => by cases h
  int := fun _ h => by cases h
  bool := fun h => by cases h
  str := fun h => by cases h
  eq := fun _ => ⟨by kernel_rfl, by kernel_rfl⟩
def ty_23 : TI := ⟨true, true, 32, .g [.D Dg.zero], [], some (32, 22, 1), none, none⟩
theorem ok_23 : TyOK Tryz.prog 23 ty_23 where
  agg := by kernel_rfl
  size := by kernel_rfl
  zero := by kernel_rfl
  zst := fun _ => rfl
  zsize := by kernel_rfl
  zagg := fun _ => ⟨_, rfl⟩
  fields := .inl rfl
  fsize := fun _ _ h => by cases h
  arr := fun _ _ _ h => by cases h; exact ⟨by kernel_rfl, by kernel_rfl⟩
  elem := fun _ _ _ h => by cases h
  ints := fun _ _ _ h => by cases h
  int := fun _ h => by cases h
  bool := fun h => by cases h
  str := fun h => by cases h
  eq := fun _ => ⟨by kernel_rfl, by kernel_rfl⟩
def ty_144 : TI := ⟨true, true, 32, .g [.D Dg.zero], [], some (32, 22, 1), none, none⟩
theorem ok_144 : TyOK Tryz.prog 144 ty_144 where
  agg := by kernel_rfl
  size := by kernel_rfl
  zero := by kernel_rfl
  zst := fun _ => rfl
  zsize := by kernel_rfl
  zagg := fun _ => ⟨_, rfl⟩
  fields := .inl rfl
  fsize := fun _ _ h => by cases h
  arr := fun _ _ _ h => by cases h; exact ⟨by kernel_rfl, by kernel_rfl⟩
  elem := fun _ _ _ h => by cases h
  ints := fun _ _ _ h => by cases h
  int := fun _ h => by cases h
  bool := fun h => by cases h
  str := fun h => by cases h
  eq := fun _ => ⟨by kernel_rfl, by kernel_rfl⟩
def ty_116 : TI := ⟨true, true, 2, .g [.s (.lit .i64 0), .s (.lit .i64 0)], [(0, 1), (1, 1)], none, none, none⟩
theorem ok_116 : TyOK Tryz.prog 116 ty_116 where
  agg := by kernel_rfl
  size := by kernel_rfl
  zero := by kernel_rfl
  zst := fun _ => rfl
  zsize := by kernel_rfl
  zagg := fun _ => ⟨_, rfl⟩
  fields := .inr ⟨Tryz.prog.fieldsOf 116, by kernel_rfl, by kernel_rfl⟩
  fsize := fun o z h => by simp [ty_116] at h; omega
  arr := fun _ _ _ h => by cases h
  elem := fun _ _ _ h => by cases h
  ints := fun _ _ _ h => by cases h
  int := fun _ h => by cases h
  bool := fun h => by cases h
  str := fun h => by cases h
  eq := fun _ => ⟨by kernel_rfl, by kernel_rfl⟩
def ty_112 : TI := ⟨true, true, 1, .g [.s (.tt false)], [(0, 1)], none, none, none⟩
theorem ok_112 : TyOK Tryz.prog 112 ty_112 where
  agg := by kernel_rfl
  size := by kernel_rfl
  zero := by kernel_rfl
  zst := fun _ => rfl
  zsize := by kernel_rfl
  zagg := fun _ => ⟨_, rfl⟩
  fields := .inr ⟨Tryz.prog.fieldsOf 112, by kernel_rfl, by kernel_rfl⟩
  fsize := fun o z h => by simp [ty_112] at h; omega
  arr := fun _ _ _ h => by cases h
  elem := fun _ _ _ h => by cases h
  ints := fun _ _ _ h => by cases h
  int := fun _ h => by cases h
  bool := fun h => by cases h
  str := fun h => by cases h
  eq := fun _ => ⟨by kernel_rfl, by kernel_rfl⟩
def ty_159 : TI := ⟨true, true, 64, .g [.D Dg.zero, .D Dg.zero], [], some (64, 22, 1), none, none⟩
theorem ok_159 : TyOK Tryz.prog 159 ty_159 where
  agg := by kernel_rfl
  size := by kernel_rfl
  zero := by kernel_rfl
  zst := fun _ => rfl
  zsize := by kernel_rfl
  zagg := fun _ => ⟨_, rfl⟩
  fields := .inl rfl
  fsize := fun _ _ h => by cases h
  arr := fun _ _ _ h => by cases h; exact ⟨by kernel_rfl, by kernel_rfl⟩
  elem := fun _ _ _ h => by cases h
  ints := fun _ _ _ h => by cases h
  int := fun _ h => by cases h
  bool := fun h => by cases h
  str := fun h => by cases h
  eq := fun _ => ⟨by kernel_rfl, by kernel_rfl⟩
def ty_62 : TI := ⟨true, true, 264, .g [.P ⟨⟨⟨false, Dg.zero⟩, ⟨false, Dg.zero⟩⟩, ⟨⟨false, Dg.zero⟩, ⟨false, Dg.zero⟩⟩⟩, .P ⟨⟨⟨false, Dg.zero⟩, ⟨false, Dg.zero⟩⟩, ⟨⟨false, Dg.zero⟩, ⟨false, Dg.zero⟩⟩⟩], [(0, 132), (132, 132)], none, none, none⟩
theorem ok_62 : TyOK Tryz.prog 62 ty_62 where
  agg := by kernel_rfl
  size := by kernel_rfl
  zero := by kernel_rfl
  zst := fun _ => rfl
  zsize := by kernel_rfl
  zagg := fun _ => ⟨_, rfl⟩
  fields := .inr ⟨Tryz.prog.fieldsOf 62, by kernel_rfl, by kernel_rfl⟩
  fsize := fun o z h => by simp [ty_62] at h; omega
  arr := fun _ _ _ h => by cases h
  elem := fun _ _ _ h => by cases h
  ints := fun _ _ _ h => by cases h
  int := fun _ h => by cases h
  bool := fun h => by cases h
  str := fun h => by cases h
  eq := fun _ => ⟨by kernel_rfl, by kernel_rfl⟩
def ty_64 : TI := ⟨true, true, 264, .g [.P ⟨⟨⟨false, Dg.zero⟩, ⟨false, Dg.zero⟩⟩, ⟨⟨false, Dg.zero⟩, ⟨false, Dg.zero⟩⟩⟩, .P ⟨⟨⟨false, Dg.zero⟩, ⟨false, Dg.zero⟩⟩, ⟨⟨false, Dg.zero⟩, ⟨false, Dg.zero⟩⟩⟩], [(0, 264)], none, none, none⟩
theorem ok_64 : TyOK Tryz.prog 64 ty_64 where
  agg := by kernel_rfl
  size := by kernel_rfl
  zero := by kernel_rfl
  zst := fun _ => rfl
  zsize := by kernel_rfl
  zagg := fun _ => ⟨_, rfl⟩
  fields := .inr ⟨Tryz.prog.fieldsOf 64, by kernel_rfl, by kernel_rfl⟩
  fsize := fun o z h => by simp [ty_64] at h; omega
  arr := fun _ _ _ h => by cases h
  elem := fun _ _ _ h => by cases h
  ints := fun _ _ _ h => by cases h
  int := fun _ h => by cases h
  bool := fun h => by cases h
  str := fun h => by cases h
  eq := fun _ => ⟨by kernel_rfl, by kernel_rfl⟩
def ty_82 : TI := ⟨true, true, 396, .g [.P ⟨⟨⟨false, Dg.zero⟩, ⟨false, Dg.zero⟩⟩, ⟨⟨false, Dg.zero⟩, ⟨false, Dg.zero⟩⟩⟩, .P ⟨⟨⟨false, Dg.zero⟩, ⟨false, Dg.zero⟩⟩, ⟨⟨false, Dg.zero⟩, ⟨false, Dg.zero⟩⟩⟩, .P ⟨⟨⟨false, Dg.zero⟩, ⟨false, Dg.zero⟩⟩, ⟨⟨false, Dg.zero⟩, ⟨false, Dg.zero⟩⟩⟩], [(0, 132), (132, 132), (264, 132)], none, none, none⟩
theorem ok_82 : TyOK Tryz.prog 82 ty_82 where
  agg := by kernel_rfl
  size := by kernel_rfl
  zero := by kernel_rfl
  zst := fun _ => rfl
  zsize := by kernel_rfl
  zagg := fun _ => ⟨_, rfl⟩
  fields := .inr ⟨Tryz.prog.fieldsOf 82, by kernel_rfl, by kernel_rfl⟩
  fsize := fun o z h => by simp [ty_82] at h; omega
  arr := fun _ _ _ h => by cases h
  elem := fun _ _ _ h => by cases h
  ints := fun _ _ _ h => by cases h
  int := fun _ h => by cases h
  bool := fun h => by cases h
  str := fun h => by cases h
  eq := fun _ => ⟨by kernel_rfl, by kernel_rfl⟩
def ty_84 : TI := ⟨true, true, 396, .g [.P ⟨⟨⟨false, Dg.zero⟩, ⟨false, Dg.zero⟩⟩, ⟨⟨false, Dg.zero⟩, ⟨false, Dg.zero⟩⟩⟩, .P ⟨⟨⟨false, Dg.zero⟩, ⟨false, Dg.zero⟩⟩, ⟨⟨false, Dg.zero⟩, ⟨false, Dg.zero⟩⟩⟩, .P ⟨⟨⟨false, Dg.zero⟩, ⟨false, Dg.zero⟩⟩, ⟨⟨false, Dg.zero⟩, ⟨false, Dg.zero⟩⟩⟩], [(0, 396)], none, none, none⟩
theorem ok_84 : TyOK Tryz.prog 84 ty_84 where
  agg := by kernel_rfl
  size := by kernel_rfl
  zero := by kernel_rfl
  zst := fun _ => rfl
  zsize := by kernel_rfl
  zagg := fun _ => ⟨_, rfl⟩
  fields := .inr ⟨Tryz.prog.fieldsOf 84, by kernel_rfl, by kernel_rfl⟩
  fsize := fun o z h => by simp [ty_84] at h; omega
  arr := fun _ _ _ h => by cases h
  elem := fun _ _ _ h => by cases h
  ints := fun _ _ _ h => by cases h
  int := fun _ h => by cases h
  bool := fun h => by cases h
  str := fun h => by cases h
  eq := fun _ => ⟨by kernel_rfl, by kernel_rfl⟩
def ty_46 : TI := ⟨true, true, 198, .g [.R ⟨⟨false, Dg.zero⟩, ⟨false, Dg.zero⟩⟩, .R ⟨⟨false, Dg.zero⟩, ⟨false, Dg.zero⟩⟩, .R ⟨⟨false, Dg.zero⟩, ⟨false, Dg.zero⟩⟩], [], some (3, 27, 66), none, none⟩
theorem ok_46 : TyOK Tryz.prog 46 ty_46 where
  agg := by kernel_rfl
  size := by kernel_rfl
  zero := by kernel_rfl
  zst := fun _ => rfl
  zsize := by kernel_rfl
  zagg := fun _ => ⟨_, rfl⟩
  fields := .inl rfl
  fsize := fun _ _ h => by cases h
  arr := fun _ _ _ h => by cases h; exact ⟨by kernel_rfl, by kernel_rfl⟩
  elem := fun _ _ _ h => by cases h
  ints := fun _ _ _ h => by cases h
  int := fun _ h => by cases h
  bool := fun h => by cases h
  str := fun h => by cases h
  eq := fun _ => ⟨by kernel_rfl, by kernel_rfl⟩
def ty_86 : TI := ⟨true, true, 1188, .g [.P ⟨⟨⟨false, Dg.zero⟩, ⟨false, Dg.zero⟩⟩, ⟨⟨false, Dg.zero⟩, ⟨false, Dg.zero⟩⟩⟩, .P ⟨⟨⟨false, Dg.zero⟩, ⟨false, Dg.zero⟩⟩, ⟨⟨false, Dg.zero⟩, ⟨false, Dg.zero⟩⟩⟩, .P ⟨⟨⟨false, Dg.zero⟩, ⟨false, Dg.zero⟩⟩, ⟨⟨false, Dg.zero⟩, ⟨false, Dg.zero⟩⟩⟩, .P ⟨⟨⟨false, Dg.zero⟩, ⟨false, Dg.zero⟩⟩, ⟨⟨false, Dg.zero⟩, ⟨false, Dg.zero⟩⟩⟩, .P ⟨⟨⟨false, Dg.zero⟩, ⟨false, Dg.zero⟩⟩, ⟨⟨false, Dg.zero⟩, ⟨false, Dg.zero⟩⟩⟩, .P ⟨⟨⟨false, Dg.zero⟩, ⟨false, Dg.zero⟩⟩, ⟨⟨false, Dg.zero⟩, ⟨false, Dg.zero⟩⟩⟩, .P ⟨⟨⟨false, Dg.zero⟩, ⟨false, Dg.zero⟩⟩, ⟨⟨false, Dg.zero⟩, ⟨false, Dg.zero⟩⟩⟩, .P ⟨⟨⟨false, Dg.zero⟩, ⟨false, Dg.zero⟩⟩, ⟨⟨false, Dg.zero⟩, ⟨false, Dg.zero⟩⟩⟩, .P ⟨⟨⟨false, Dg.zero⟩, ⟨false, Dg.zero⟩⟩, ⟨⟨false, Dg.zero⟩, ⟨false, Dg.zero⟩⟩⟩], [], some (3, 82, 396), none, none⟩
theorem ok_86 : TyOK Tryz.prog 86 ty_86 where
  agg := by kernel_rfl
  size := by kernel_rfl
  zero := by kernel_rfl
  zst := fun _ => rfl
  zsize := by kernel_rfl
  zagg := fun _ => ⟨_, rfl⟩
  fields := .inl rfl
  fsize := fun _ _ h => by cases h
  arr := fun _ _ _ h => by cases h; exact ⟨by kernel_rfl, by kernel_rfl⟩
  elem := fun _ _ _ h => by cases h
  ints := fun _ _ _ h => by cases h
  int := fun _ h => by cases h
  bool := fun h => by cases h
  str := fun h => by cases h
  eq := fun _ => ⟨by kernel_rfl, by kernel_rfl⟩
def ty_51 : TI := ⟨true, true, 396, .g [.P ⟨⟨⟨false, Dg.zero⟩, ⟨false, Dg.zero⟩⟩, ⟨⟨false, Dg.zero⟩, ⟨false, Dg.zero⟩⟩⟩, .P ⟨⟨⟨false, Dg.zero⟩, ⟨false, Dg.zero⟩⟩, ⟨⟨false, Dg.zero⟩, ⟨false, Dg.zero⟩⟩⟩, .P ⟨⟨⟨false, Dg.zero⟩, ⟨false, Dg.zero⟩⟩, ⟨⟨false, Dg.zero⟩, ⟨false, Dg.zero⟩⟩⟩], [], some (3, 29, 132), none, none⟩
theorem ok_51 : TyOK Tryz.prog 51 ty_51 where
  agg := by kernel_rfl
  size := by kernel_rfl
  zero := by kernel_rfl
  zst := fun _ => rfl
  zsize := by kernel_rfl
  zagg := fun _ => ⟨_, rfl⟩
  fields := .inl rfl
  fsize := fun _ _ h => by cases h
  arr := fun _ _ _ h => by cases h; exact ⟨by kernel_rfl, by kernel_rfl⟩
  elem := fun _ _ _ h => by cases h
  ints := fun _ _ _ h => by cases h
  int := fun _ h => by cases h
  bool := fun h => by cases h
  str := fun h => by cases h
  eq := fun _ => ⟨by kernel_rfl, by kernel_rfl⟩
def ty_94 : TI := ⟨false, false, 1, .s .nils, [], none, some (22, 1, .int .u32), none⟩
theorem ok_94 : TyOK Tryz.prog 94 ty_94 where
  agg := by kernel_rfl
  size := by kernel_rfl
  zero := by kernel_rfl
  zst := fun _ => rfl
  zsize := by kernel_rfl
  zagg := fun h => by cases h
  fields := .inl rfl
  fsize := fun _ _ h => by cases h
  arr := fun _ _ _ h => by cases h
  elem := fun _ _ _ h => by cases h; exact ⟨by kernel_rfl, by kernel_rfl, rfl, by kernel_rfl, by kernel_rfl, by decide, by decide⟩
  ints := fun _ _ _ h => by cases h; kernel_rfl
  int := fun _ h => by cases h
  bool := fun h => by cases h
  str := fun h => by cases h
  eq := fun h => by cases h
def ty_95 : TI := ⟨false, false, 1, .s .nils, [], none, some (22, 1, .int .u32), none⟩
theorem ok_95 : TyOK Tryz.prog 95 ty_95 where
  agg := by kernel_rfl
  size := by kernel_rfl
  zero := by kernel_rfl
  zst := fun _ => rfl
  zsize := by kernel_rfl
  zagg := fun h => by cases h
  fields := .inl rfl
  fsize := fun _ _ h => by cases h
  arr := fun _ _ _ h => by cases h
  elem := fun _ _ _ h => by cases h; exact ⟨by kernel_rfl, by kernel_rfl, rfl, by kernel_rfl, by kernel_rfl, by decide, by decide⟩
  ints := fun _ _ _ h => by cases h; kernel_rfl
  int := fun _ h => by cases h
  bool := fun h => by cases h
  str := fun h => by cases h
  eq := fun h => by cases h
def ty_145 : TI := ⟨false, false, 1, .s .nils, [], none, some (27, 66, .rt), none⟩
theorem ok_145 : TyOK Tryz.prog 145 ty_145 where
  agg := by kernel_rfl
  size := by kernel_rfl
  zero := by kernel_rfl
  zst := fun _ => rfl
  zsize := by kernel_rfl
  zagg := fun h => by cases h
  fields := .inl rfl
  fsize := fun _ _ h => by cases h
  arr := fun _ _ _ h => by cases h
  elem := fun _ _ _ h => by cases h; exact ⟨by kernel_rfl, by kernel_rfl, rfl, by kernel_rfl, by kernel_rfl, by decide, by decide⟩
  ints := fun _ _ _ h => by cases h
  int := fun _ h => by cases h
  bool := fun h => by cases h
  str := fun h => by cases h
  eq := fun h => by cases h
def ty_56 : TI := ⟨false, false, 1, .s .nils, [], none, some (29, 132, .pt), none⟩
theorem ok_56 : TyOK Tryz.prog 56 ty_56 where
  agg := by kernel_rfl
  size := by kernel_rfl
  zero := by kernel_rfl
  zst := fun _ => rfl
  zsize := by kernel_rfl
  zagg := fun h => by cases h
  fields := .inl rfl
  fsize := fun _ _ h => by cases h
  arr := fun _ _ _ h => by cases h
  elem := fun _ _ _ h => by cases h; exact ⟨by kernel_rfl, by kernel_rfl, rfl, by kernel_rfl, by kernel_rfl, by decide, by decide⟩
  ints := fun _ _ _ h => by cases h
  int := fun _ h => by cases h
  bool := fun h => by cases h
  str := fun h => by cases h
  eq := fun h => by cases h
def tT : Nat → Option TI
  | 3 => some ty_3
  | 2 => some ty_2
  | 5 => some ty_5
  | 38 => some ty_38
  | 22 => some ty_22
  | 104 => some ty_104
  | 106 => some ty_106
  | 21 => some ty_21
  | 4 => some ty_4
  | 9 => some ty_9
  | 25 => some ty_25
  | 27 => some ty_27
  | 29 => some ty_29
  | 23 => some ty_23
  | 144 => some ty_144
  | 116 => some ty_116
  | 112 => some ty_112
  | 159 => some ty_159
  | 62 => some ty_62
  | 64 => some ty_64
  | 82 => some ty_82
  | 84 => some ty_84
  | 46 => some ty_46
  | 86 => some ty_86
  | 51 => some ty_51
  | 94 => some ty_94
  | 95 => some ty_95
  | 145 => some ty_145
  | 56 => some ty_56
  | _ => none
theorem tok : TOK Tryz.prog tT := fun t i h => by
  unfold tT at h
  split at h
  · cases h; exact ok_3
  · cases h; exact ok_2
  · cases h; exact ok_5
  · cases h; exact ok_38
  · cases h; exact ok_22
  · cases h; exact ok_104
  · cases h; exact ok_106
  · cases h; exact ok_21
  · cases h; exact ok_4
  · cases h; exact ok_9
  · cases h; exact ok_25
  · cases h; exact ok_27
  · cases h; exact ok_29
  · cases h; exact ok_23
  · cases h; exact ok_144
  · cases h; exact ok_116
  · cases h; exact ok_112
  · cases h; exact ok_159
  · cases h; exact ok_62
  · cases h; exact ok_64
  · cases h; exact ok_82
  · cases h; exact ok_84
  · cases h; exact ok_46
  · cases h; exact ok_86
  · cases h; exact ok_51
  · cases h; exact ok_94
  · cases h; exact ok_95
  · cases h; exact ok_145
  · cases h; exact ok_56
  · cases h
theorem mixed : Tryz.prog.follows .mixedOrders = true := by kernel_rfl
end Go.Eng

