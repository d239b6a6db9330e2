/- Contracts: whole numbers, third part. -/
import Derived.Test.YtmajpppjakdodaaCW2
namespace Go.Eng
open Go.Proofs
set_option maxRecDepth 100000
set_option linter.all false
set_option exponentiation.threshold 3000

def tC2 (A : Alg) (S : SW) : List (Nat × Sem') := (56, heapSem [.v, .pd] A (gTold S)) :: (14, heapSem [.v] A (gIs S)) :: (57, heapSem [.v] A (gBelow S)) :: tC1 A S
theorem tC2OK : COK Try.prog (look (tC2 stdA stdW)) := COK_cons ok_told (COK_cons ok_is (COK_cons ok_below tC1OK))

def gLen32 (A : Alg) (S : SW) : List CV → List Blk → Option LR
  | [.s (.int .u32 n)], [] => some ⟨[A.cmp .leq 0 n, A.cmp .lss n 4294967296], .c (.s (.int .i64 (S.len32 n))), []⟩
  | _, _ => none
def gFrom (A : Alg) (S : SW) : List CV → List Blk → Option LR
  | [.s (.int .i64 n)], [] => some ⟨[A.cmp .leq (-9223372036854775808) n, A.cmp .lss n 9223372036854775808], .c (.g [.W (S.from64 n)]), []⟩
  | _, _ => none
def gNeg (S : SW) : List CV → List Blk → Option LR
  | [.g [.W w]], [] => some ⟨[], .c (.g [.W (S.neg w)]), []⟩
  | _, _ => none
def gWCmp (S : SW) : List CV → List Blk → Option LR
  | [.g [.W v], .g [.W w]], [] => some ⟨[], .c (.s (.int .i64 (S.cmp v w))), []⟩
  | _, _ => none

theorem ok_neg : CallOK Try.prog 21 (heapSem [.v] stdA (gNeg stdW)) := by
  refine callOK_heap (un := ⟨false, none⟩) tok tC2OK mixed (fn := Try.f21) (by kernel_rfl) (by kernel_rfl) (by kernel_rfl) (by decide +kernel) ?_
  intro w Wr args bs r hg ho hWr A L k hA hL hk
  obtain ⟨S, hS⟩ : ∃ S, S = stdW := ⟨_, rfl⟩
  rw [← hS, ← hA]
  unfold gNeg at hg
  split at hg
  · simp only [Option.some.injEq] at hg
    subst hg
    rename_i x
    cbv
    refine hk _ _ (Good.pure rfl fun ρ => ?_)
    subst hS hA
    rfl
  · cases hg

theorem ok_wcmp : CallOK Try.prog 34 (heapSem [.v, .v] stdA (gWCmp stdW)) := by
  refine callOK_heap (un := ⟨false, none⟩) tok tC2OK mixed (fn := Try.f34) (by kernel_rfl) (by kernel_rfl) (by kernel_rfl) (by decide +kernel) ?_
  intro w Wr args bs r hg ho hWr A L k hA hL hk
  obtain ⟨S, hS⟩ : ∃ S, S = stdW := ⟨_, rfl⟩
  rw [← hS, ← hA]
  unfold gWCmp at hg
  split at hg
  · simp only [Option.some.injEq] at hg
    subst hg
    rename_i x y
    cbv
    repeat' first | (with_reducible intro hb; cbv) | with_reducible refine And.intro ?_ ?_
    all_goals refine hk _ _ (Good.pure rfl fun ρ => ?_)
    all_goals subst hS hA
    all_goals simp only [stdA, stdW] at *
    all_goals clear hL hk
    · show Value.int .i64 (-1) = .int .i64 (sgn (wval x) (wval y))
      rw [cmp_val]
      cases hx : wbelow x <;> cases hy : wbelow y <;> simp_all
    · show Value.int .i64 1 = .int .i64 (sgn (wval x) (wval y))
      rw [cmp_val]
      cases hx : wbelow x <;> cases hy : wbelow y <;> simp_all
    · show Value.int .i64 (sgn y.d.n x.d.n) = .int .i64 (sgn (wval x) (wval y))
      rw [cmp_val]
      cases hx : wbelow x <;> cases hy : wbelow y <;> simp_all
    · show Value.int .i64 (sgn x.d.n y.d.n) = .int .i64 (sgn (wval x) (wval y))
      rw [cmp_val]
      cases hx : wbelow x <;> cases hy : wbelow y <;> simp_all
  · cases hg

theorem ok_len32 : CallOK Try.prog 54 (heapSem [.v] stdA (gLen32 stdA stdW)) := by
  refine callOK_heap (un := ⟨false, none⟩) tok noCOK mixed (fn := Try.f54) (by kernel_rfl) (by kernel_rfl) (by kernel_rfl) (by decide +kernel) ?_
  intro w Wr args bs r hg ho hWr A L k hA hL hk
  unfold gLen32 at hg
  split at hg
  · simp only [Option.some.injEq] at hg
    subst hg
    rename_i x
    simp only [List.forall_mem_cons, stdA, stdCmp, decide_eq_true_eq] at ho
    obtain ⟨g1, g2, -⟩ := ho
    have s16 : stdBin .shr .u32 x 16 = x / 65536 := by
      show x.fdiv (2 ^ min (16 : Int).toNat 32) = _
      rw [Int.fdiv_eq_ediv_of_nonneg _ (by decide)]; rfl
    have s8 : ∀ y : Int, stdBin .shr .u32 y 8 = y / 256 := fun y => by
      show y.fdiv (2 ^ min (8 : Int).toNat 32) = _
      rw [Int.fdiv_eq_ediv_of_nonneg _ (by decide)]; rfl
    have u8 : ∀ y : Int, 0 ≤ y → y < 256 → IntKind.u8.wrap y = y := fun y h1 h2 => by rw [IntKind.wrap_u8]; omega
    have fin : ∀ (c : Nat) (y : Int), 0 ≤ y → y < 256 → c < 100 → c + lenOf y.toNat = lenOf x.toNat → stdBin .add .i64 (c : Int) (IntKind.i64.wrap (stdA.sb len8 (IntKind.u8.wrap y))) = ((lenOf x.toNat : Nat) : Int) := fun c y h1 h2 h3 h5 => by
      rw [u8 y h1 h2, len8_at y h1 h2]
      have : lenOf x.toNat < 1000 := by
        unfold lenOf; split
        · omega
        · have := (Nat.log2_lt (k := 32) (n := x.toNat) (by omega)).2 (by omega); omega
      simp only [stdBin, IntKind.wrap_i64]
      omega
    have d16 : ∀ h : 65536 ≤ x, lenOf x.toNat = 16 + lenOf (x / 65536).toNat := fun h => by
      rw [lenOf_div x.toNat 16 (by omega)]; congr 2; omega
    have d8 : ∀ y : Int, 256 ≤ y → lenOf y.toNat = 8 + lenOf (y / 256).toNat := fun y h => by
      rw [lenOf_div y.toNat 8 (by omega)]; congr 2; omega
    have hr : stdW.len32 x = lenOf x.toNat := rfl
    cbv
    repeat' first | (with_reducible intro hb; cbv) | with_reducible refine And.intro ?_ ?_
    all_goals subst hA
    all_goals (rename_i hb0; have hb0 : decide (x ≥ 65536) = _ := hb0; simp only [decide_eq_true_eq, decide_eq_false_iff_not] at hb0)
    · have hb : decide (stdBin .shr .u32 x 16 ≥ 256) = true := hb
      rw [s16] at hb; simp only [decide_eq_true_eq] at hb
      show decide (0 ≤ IntKind.u8.wrap (stdBin .shr .u32 (stdBin .shr .u32 x 16) 8)) = true
      rw [s16, s8, u8 _ (by omega) (by omega)]; simp only [decide_eq_true_eq]; omega
    · have hb : decide (stdBin .shr .u32 x 16 ≥ 256) = true := hb
      rw [s16] at hb; simp only [decide_eq_true_eq] at hb
      show decide (IntKind.u8.wrap (stdBin .shr .u32 (stdBin .shr .u32 x 16) 8) < stdA.slen len8) = true
      rw [s16, s8, u8 _ (by omega) (by omega), len8_size]; simp only [decide_eq_true_eq]; omega
    · have hb : decide (stdBin .shr .u32 x 16 ≥ 256) = true := hb
      rw [s16] at hb; simp only [decide_eq_true_eq] at hb
      refine hk _ _ (Good.pure rfl fun ρ => ?_)
      show Value.int .i64 (stdBin .add .i64 24 (IntKind.i64.wrap (stdA.sb len8 (IntKind.u8.wrap (stdBin .shr .u32 (stdBin .shr .u32 x 16) 8))))) = .int .i64 (stdW.len32 x)
      rw [hr, s16, s8]; refine congrArg _ (fin 24 (x / 65536 / 256) (by omega) (by omega) (by omega) ?_)
      have h1 := d16 (by omega)
      have h2 := d8 (x / 65536) (by omega)
      omega
    · have hb : decide (stdBin .shr .u32 x 16 ≥ 256) = false := hb
      rw [s16] at hb; simp only [decide_eq_false_iff_not] at hb
      show decide (0 ≤ IntKind.u8.wrap (stdBin .shr .u32 x 16)) = true
      rw [s16, u8 _ (by omega) (by omega)]; simp only [decide_eq_true_eq]; omega
    · have hb : decide (stdBin .shr .u32 x 16 ≥ 256) = false := hb
      rw [s16] at hb; simp only [decide_eq_false_iff_not] at hb
      show decide (IntKind.u8.wrap (stdBin .shr .u32 x 16) < stdA.slen len8) = true
      rw [s16, u8 _ (by omega) (by omega), len8_size]; simp only [decide_eq_true_eq]; omega
    · have hb : decide (stdBin .shr .u32 x 16 ≥ 256) = false := hb
      rw [s16] at hb; simp only [decide_eq_false_iff_not] at hb
      refine hk _ _ (Good.pure rfl fun ρ => ?_)
      show Value.int .i64 (stdBin .add .i64 16 (IntKind.i64.wrap (stdA.sb len8 (IntKind.u8.wrap (stdBin .shr .u32 x 16))))) = .int .i64 (stdW.len32 x)
      rw [hr, s16]; refine congrArg _ (fin 16 (x / 65536) (by omega) (by omega) (by omega) ?_)
      have := d16 (by omega)
      omega
    · have hb : decide (x ≥ 256) = true := hb
      simp only [decide_eq_true_eq] at hb
      show decide (0 ≤ IntKind.u8.wrap (stdBin .shr .u32 x 8)) = true
      rw [s8, u8 _ (by omega) (by omega)]; simp only [decide_eq_true_eq]; omega
    · have hb : decide (x ≥ 256) = true := hb
      simp only [decide_eq_true_eq] at hb
      show decide (IntKind.u8.wrap (stdBin .shr .u32 x 8) < stdA.slen len8) = true
      rw [s8, u8 _ (by omega) (by omega), len8_size]; simp only [decide_eq_true_eq]; omega
    · have hb : decide (x ≥ 256) = true := hb
      simp only [decide_eq_true_eq] at hb
      refine hk _ _ (Good.pure rfl fun ρ => ?_)
      show Value.int .i64 (stdBin .add .i64 8 (IntKind.i64.wrap (stdA.sb len8 (IntKind.u8.wrap (stdBin .shr .u32 x 8))))) = .int .i64 (stdW.len32 x)
      rw [hr, s8]; refine congrArg _ (fin 8 (x / 256) (by omega) (by omega) (by omega) ?_)
      have := d8 x (by omega)
      omega
    · have hb : decide (x ≥ 256) = false := hb
      simp only [decide_eq_false_iff_not] at hb
      show decide (0 ≤ IntKind.u8.wrap x) = true
      rw [u8 _ (by omega) (by omega)]; simp only [decide_eq_true_eq]; omega
    · have hb : decide (x ≥ 256) = false := hb
      simp only [decide_eq_false_iff_not] at hb
      show decide (IntKind.u8.wrap x < stdA.slen len8) = true
      rw [u8 _ (by omega) (by omega), len8_size]; simp only [decide_eq_true_eq]; omega
    · have hb : decide (x ≥ 256) = false := hb
      simp only [decide_eq_false_iff_not] at hb
      refine hk _ _ (Good.pure rfl fun ρ => ?_)
      show Value.int .i64 (stdBin .add .i64 0 (IntKind.i64.wrap (stdA.sb len8 (IntKind.u8.wrap x)))) = .int .i64 (stdW.len32 x)
      rw [hr]; refine congrArg _ (fin 0 x (by omega) (by omega) (by omega) ?_)
      omega
  · cases hg

theorem ok_from : CallOK Try.prog 18 (heapSem [.v] stdA (gFrom stdA stdW)) := by
  refine callOK_heap (un := ⟨false, none⟩) tok tC2OK mixed (fn := Try.f18) (by kernel_rfl) (by kernel_rfl) (by kernel_rfl) (by decide +kernel) ?_
  intro w Wr args bs r hg ho hWr A L k hA hL hk
  obtain ⟨S, hS⟩ : ∃ S, S = stdW := ⟨_, rfl⟩
  rw [← hS, ← hA]
  unfold gFrom at hg
  split at hg
  · simp only [Option.some.injEq] at hg
    subst hg
    rename_i x
    simp only [List.forall_mem_cons, stdA, stdCmp, decide_eq_true_eq] at ho
    obtain ⟨g1, g2, -⟩ := ho
    have hw : ∀ t : Int, 0 ≤ t → t < 18446744073709551616 → 0 ≤ IntKind.u32.wrap (stdBin .and .u64 t 4294967295) ∧ IntKind.u32.wrap (stdBin .and .u64 t 4294967295) < 4294967296 ∧ 0 ≤ IntKind.u32.wrap (stdBin .shr .u64 t 32) ∧ IntKind.u32.wrap (stdBin .shr .u64 t 32) < 4294967296 := fun t _ _ => by
      rw [IntKind.wrap_u32, IntKind.wrap_u32]; omega
    cbv
    repeat' first | (with_reducible intro hb; cbv) | with_reducible refine And.intro ?_ ?_
    all_goals subst hS hA
    all_goals have hb : decide (x < 0) = _ := hb
    all_goals simp only [decide_eq_true_eq, decide_eq_false_iff_not] at hb
    all_goals have hn : x < 0 → stdBin .sub .u64 0 (IntKind.u64.wrap x) = -x := fun h => by simp only [stdBin, w_u64]; omega
    all_goals have hp : 0 ≤ x → IntKind.u64.wrap x = x := fun h => by rw [w_u64]; omega
    · show decide (0 ≤ IntKind.u32.wrap (stdBin .and .u64 (stdBin .sub .u64 0 (IntKind.u64.wrap x)) 4294967295)) = true
      rw [hn hb]; simp only [decide_eq_true_eq]; exact (hw _ (by omega) (by omega)).1
    · show decide (IntKind.u32.wrap (stdBin .and .u64 (stdBin .sub .u64 0 (IntKind.u64.wrap x)) 4294967295) < 4294967296) = true
      rw [hn hb]; simp only [decide_eq_true_eq]; exact (hw _ (by omega) (by omega)).2.1
    · show decide (0 ≤ IntKind.u32.wrap (stdBin .shr .u64 (stdBin .sub .u64 0 (IntKind.u64.wrap x)) 32)) = true
      rw [hn hb]; simp only [decide_eq_true_eq]; exact (hw _ (by omega) (by omega)).2.2.1
    · show decide (IntKind.u32.wrap (stdBin .shr .u64 (stdBin .sub .u64 0 (IntKind.u64.wrap x)) 32) < 4294967296) = true
      rw [hn hb]; simp only [decide_eq_true_eq]; exact (hw _ (by omega) (by omega)).2.2.2
    · refine hk _ _ (Good.pure rfl fun ρ => ?_)
      show Value.agg (flats ρ [.W (tld (decide (x < 0)) (stdA.setD (stdA.setD Dg.zero 0 (IntKind.u32.wrap (stdBin .and .u64 (stdBin .sub .u64 0 (IntKind.u64.wrap x)) 4294967295))) 1 (IntKind.u32.wrap (stdBin .shr .u64 (stdBin .sub .u64 0 (IntKind.u64.wrap x)) 32))))]).toArray = .agg (flats ρ [.W (tld (decide (x < 0)) (mk1024 x.natAbs))]).toArray
      rw [hn hb, from_words (-x) (by omega) (by omega), show (-x).toNat = x.natAbs from by omega]
    · show decide (0 ≤ IntKind.u32.wrap (stdBin .and .u64 (IntKind.u64.wrap x) 4294967295)) = true
      rw [hp (by omega)]; simp only [decide_eq_true_eq]; exact (hw _ (by omega) (by omega)).1
    · show decide (IntKind.u32.wrap (stdBin .and .u64 (IntKind.u64.wrap x) 4294967295) < 4294967296) = true
      rw [hp (by omega)]; simp only [decide_eq_true_eq]; exact (hw _ (by omega) (by omega)).2.1
    · show decide (0 ≤ IntKind.u32.wrap (stdBin .shr .u64 (IntKind.u64.wrap x) 32)) = true
      rw [hp (by omega)]; simp only [decide_eq_true_eq]; exact (hw _ (by omega) (by omega)).2.2.1
    · show decide (IntKind.u32.wrap (stdBin .shr .u64 (IntKind.u64.wrap x) 32) < 4294967296) = true
      rw [hp (by omega)]; simp only [decide_eq_true_eq]; exact (hw _ (by omega) (by omega)).2.2.2
    · refine hk _ _ (Good.pure rfl fun ρ => ?_)
      show Value.agg (flats ρ [.W (tld (decide (x < 0)) (stdA.setD (stdA.setD Dg.zero 0 (IntKind.u32.wrap (stdBin .and .u64 (IntKind.u64.wrap x) 4294967295))) 1 (IntKind.u32.wrap (stdBin .shr .u64 (IntKind.u64.wrap x) 32))))]).toArray = .agg (flats ρ [.W (tld (decide (x < 0)) (mk1024 x.natAbs))]).toArray
      rw [hp (by omega), from_words x (by omega) (by omega), show x.toNat = x.natAbs from by omega]
  · cases hg
end Go.Eng
