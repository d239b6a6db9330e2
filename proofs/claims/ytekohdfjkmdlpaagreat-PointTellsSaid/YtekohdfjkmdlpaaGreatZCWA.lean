
import Derived.Test.YtekohdfjkmdlpaaGreatCellSA
import Derived.Test.YtekohdfjkmdlpaaGreatZCellT
set_option linter.all false
set_option exponentiation.threshold 3000
namespace Go.Eng
open Go.Proofs
set_option maxRecDepth 100000
set_option linter.all false
set_option exponentiation.threshold 3000
def noC : Nat → Option Sem' := fun _ => none
theorem noCOK : COK Tryz.prog noC := fun _ _ h => by cases h
def gSize (S : SW) : List CV → List Blk → Option LR
  | [.s (.hp 0 0)], [.fix false [.D d]] => some ⟨[], .c (.s (.int .i64 (S.size d))), []⟩
  | _, _ => none
theorem ok_size : CallOK Tryz.prog 195 (heapSem [.pd] stdA (gSize stdW)) := by
  refine callOK_heap (un := ⟨false, none⟩) tok noCOK mixed (fn := Tryz.f195) (by kernel_rfl) (by kernel_rfl) (by kernel_rfl) (by decide +kernel) ?_
  intro w Wr args bs r hg ho hWr A L k hA hL hk
  unfold gSize at hg
  split at hg
  · simp only [Option.some.injEq] at hg
    subst hg
    rename_i d
    cbv
    refine hL _ _ _ (loop_rule (un := ⟨false, none⟩) tok noCOK mixed (fun n : Int => ⟨[(3, ⟨[], .c (.s (.int .i64 n))⟩), (2, ⟨[], .c (.s (.lit .i64 0))⟩), (0, ⟨[], .c (.s (.hp 0 0))⟩)], [(0, .fix false [.D d])], 1⟩)
      (fun n => 0 ≤ n ∧ n ≤ 32 ∧ d.n < 2 ^ (32 * n.toNat)) (fun n => n.toNat) 32 ⟨by omega, by omega, pow1024 ▸ d.lt⟩
      ⟨⟨⟨rfl, rfl, fun _ => rfl⟩, ⟨rfl, rfl, fun _ => rfl⟩, ⟨rfl, rfl, fun _ => rfl⟩, trivial⟩, ⟨⟨rfl, rfl, fun _ => rfl⟩, trivial⟩, rfl, rfl⟩ (fun _ i hi => hWr i hi) ?_)
    intro n ⟨h0, h32, hlt⟩ A' L' k' hA' hL' hnext hexit hret
    cbv
    repeat' first | (with_reducible intro hb; cbv) | with_reducible refine And.intro ?_ ?_
    · simp only [hA', stdA, stdCmp, stdBin, IntKind.wrap_i64, ofNat_cast, beq_true, Bool.or_eq_true, Bool.not_eq_true', decide_eq_true_eq, decide_eq_false_iff_not]; omega
    · simp only [hA', stdA, stdCmp, stdBin, IntKind.wrap_i64, ofNat_cast, beq_true, Bool.or_eq_true, Bool.not_eq_true', decide_eq_true_eq, decide_eq_false_iff_not]; omega
    · simp only [hA', stdA, stdCmp, stdBin, IntKind.wrap_i64, ofNat_cast, beq_true, Bool.or_eq_true, Bool.not_eq_true', decide_eq_true_eq, decide_eq_false_iff_not]; omega
    · simp only [hA', stdA, stdCmp, stdBin, IntKind.wrap_i64, ofNat_cast, beq_true, Bool.or_eq_true, Bool.not_eq_true', decide_eq_true_eq, decide_eq_false_iff_not]; omega
    · have hx : A'.bin .sub .i64 n 1 = n - 1 := by simp only [hA', stdA, stdBin, IntKind.wrap_i64]; omega
      simp only [hx] at hb ⊢
      simp only [hA', stdA, stdCmp] at hb
      split at hb
      · rename_i hn
        simp only [decide_eq_true_eq, beq_iff_eq, Int.natCast_eq_zero] at hn hb
        refine hnext _ (n - 1) ⟨by omega, by omega, ?_⟩ (by show (n - 1).toNat < n.toNat; omega) ⟨⟨⟨rfl, rfl, fun _ => rfl⟩, ⟨rfl, rfl, fun _ => rfl⟩, ⟨rfl, rfl, fun _ => rfl⟩, trivial⟩, ⟨⟨rfl, rfl, fun _ => rfl⟩, trivial⟩, rfl, rfl⟩
        exact (dig_zero_iff d _ (by rw [show (n - 1).toNat + 1 = n.toNat from by omega]; exact hlt)).1 hb
      · cases hb
    · apply hexit
      cbv
      refine hk _ _ (Good.pure rfl fun ρ => ?_)
      have hx : A'.bin .sub .i64 n 1 = n - 1 := by simp only [hA', stdA, stdBin, IntKind.wrap_i64]; omega
      simp only [hx] at hb
      simp only [hA', stdA, stdCmp] at hb
      show Value.int .i64 n = .int .i64 (dSize d : Int)
      rw [dSize_of (n := n.toNat) hlt]
      · congr 1; omega
      · split at hb
        · rename_i hn
          simp only [decide_eq_true_eq, beq_eq_false_iff_ne, ne_eq, Int.natCast_eq_zero] at hn hb
          right
          have := (dig_zero_iff d (n - 1).toNat (by rw [show (n - 1).toNat + 1 = n.toNat from by omega]; exact hlt))
          rw [show (n - 1).toNat = n.toNat - 1 from by omega] at this hb
          rw [this] at hb
          omega
        · rename_i hn
          simp only [decide_eq_true_eq] at hn
          left; omega
  · cases hg
def gCmp (S : SW) : List CV → List Blk → Option LR
  | [.s (.hp 0 0), .s (.hp 1 0)], [.fix false [.D d], .fix false [.D e]] => some ⟨[], .c (.s (.int .i64 (S.dcmp d e))), []⟩
  | _, _ => none
def gOf : List CV → List Blk → Option LR
  | [.g [.W w]], [] => some ⟨[], .c (.s (.hp 0 0)), [.fix true [.D w.d]]⟩
  | _, _ => none
theorem ok_of : CallOK Tryz.prog 164 (heapSem [.v] stdA gOf) := by
  refine callOK_heap (un := ⟨false, none⟩) tok noCOK mixed (fn := Tryz.f164) (by kernel_rfl) (by kernel_rfl) (by kernel_rfl) (by decide +kernel) ?_
  intro w Wr args bs r hg ho hWr A L k hA hL hk
  unfold gOf at hg
  split at hg
  · simp only [Option.some.injEq] at hg
    subst hg
    cbv
    refine hk _ _ ⟨[1], rfl, by simp, by simp, fun ρ => rfl, fun i t b ht hb => ?_⟩
    cases i with
    | zero => simp at ht hb; subst ht hb; exact ⟨_, rfl, rfl, rfl, fun _ => rfl⟩
    | succ i => simp at ht
  · cases hg
theorem ok_cmp : CallOK Tryz.prog 165 (heapSem [.pd, .pd] stdA (gCmp stdW)) := by
  refine callOK_heap (un := ⟨false, none⟩) tok noCOK mixed (fn := Tryz.f165) (by kernel_rfl) (by kernel_rfl) (by kernel_rfl) (by decide +kernel) ?_
  intro w Wr args bs r hg ho hWr A L k hA hL hk
  unfold gCmp at hg
  split at hg
  · simp only [Option.some.injEq] at hg
    subst hg
    rename_i d e
    cbv
    refine hL _ _ _ (loop_rule (un := ⟨false, none⟩) tok noCOK mixed (fun n : Int => ⟨[(5, ⟨[], .c (.s (.int .i64 n))⟩), (4, ⟨[], .c (.s (.lit .i64 0))⟩), (0, ⟨[], .c (.s (.hp 0 0))⟩), (1, ⟨[], .c (.s (.hp 1 0))⟩)], [(0, .fix false [.D d]), (1, .fix false [.D e])], 2⟩)
      (fun n => -1 ≤ n ∧ n ≤ 31 ∧ sameFrom d e (n + 1).toNat) (fun n => (n + 1).toNat) 31 ?_ ?_ (fun _ i hi => hWr i hi) ?_)
    · exact ⟨by omega, by omega, sameFrom_top d e⟩
    · exact ⟨⟨⟨rfl, rfl, fun _ => rfl⟩, ⟨rfl, rfl, fun _ => rfl⟩, ⟨rfl, rfl, fun _ => rfl⟩, ⟨rfl, rfl, fun _ => rfl⟩, trivial⟩, ⟨⟨rfl, rfl, fun _ => rfl⟩, ⟨rfl, rfl, fun _ => rfl⟩, trivial⟩, rfl, rfl⟩
    intro n ⟨h0, h32, hlt⟩ A' L' k' hA' hL' hnext hexit hret
    cbv
    repeat' first | (with_reducible intro hb; cbv) | with_reducible refine And.intro ?_ ?_
    all_goals try (clear hexit hnext hret hk hL hL'; subst hA'; simp only [stdA, stdCmp, stdBin, IntKind.wrap_i64, ofNat_cast, decide_eq_true_eq, decide_eq_false_iff_not] at *; omega)
    · apply hret
      cbv
      refine hk _ _ (Good.pure rfl fun ρ => ?_)
      rename_i hb0
      simp only [hA', stdA, stdCmp, decide_eq_true_eq] at hb hb0
      show Value.int .i64 (-1) = .int .i64 (sgn d.n e.n)
      have := sameFrom_lt (d := d) (e := e) (n := n.toNat) (by rw [show n.toNat + 1 = (n + 1).toNat from by omega]; exact hlt) (by omega)
      unfold sgn
      rw [if_pos (by omega)]
    · apply hret
      cbv
      refine hk _ _ (Good.pure rfl fun ρ => ?_)
      rename_i hb1 hb0
      simp only [hA', stdA, stdCmp, decide_eq_true_eq] at hb hb0 hb1
      show Value.int .i64 1 = .int .i64 (sgn d.n e.n)
      have := sameFrom_lt (d := e) (e := d) (n := n.toNat) (by rw [show n.toNat + 1 = (n + 1).toNat from by omega]; exact hlt.symm) (by omega)
      unfold sgn
      rw [if_neg (by omega), if_pos (by omega)]
    · rename_i hb1 hb0
      simp only [hA', stdA, stdCmp, decide_eq_true_eq, decide_eq_false_iff_not] at hb hb0 hb1
      have hx : A'.bin .sub .i64 n 1 = n - 1 := by simp only [hA', stdA, stdBin, IntKind.wrap_i64]; omega
      simp only [hx]
      refine hnext _ (n - 1) ?_ ?_ ?_
      · refine ⟨by omega, by omega, ?_⟩
        rw [show (n - 1 + 1).toNat = n.toNat from by omega]
        exact sameFrom_eq (by rw [show n.toNat + 1 = (n + 1).toNat from by omega]; exact hlt) (by omega)
      · show (n - 1 + 1).toNat < (n + 1).toNat; omega
      · exact ⟨⟨⟨rfl, rfl, fun _ => rfl⟩, ⟨rfl, rfl, fun _ => rfl⟩, ⟨rfl, rfl, fun _ => rfl⟩, ⟨rfl, rfl, fun _ => rfl⟩, trivial⟩, ⟨⟨rfl, rfl, fun _ => rfl⟩, ⟨rfl, rfl, fun _ => rfl⟩, trivial⟩, rfl, rfl⟩
    · apply hexit
      cbv
      refine hk _ _ (Good.pure rfl fun ρ => ?_)
      simp only [hA', stdA, stdCmp, decide_eq_false_iff_not] at hb
      show Value.int .i64 0 = .int .i64 (sgn d.n e.n)
      have := sameFrom_zero (d := d) (e := e) (by rw [show (n + 1).toNat = 0 from by omega] at hlt; exact hlt)
      unfold sgn
      rw [if_neg (by omega), if_neg (by omega)]
  · cases hg
end Go.Eng
namespace Go.Eng
open Go.Proofs
set_option maxRecDepth 100000
set_option linter.all false
set_option exponentiation.threshold 3000
def tC1 (A : Alg) (S : SW) : List (Nat × Sem') := [(164, heapSem [.v] A gOf), (195, heapSem [.pd] A (gSize S)), (165, heapSem [.pd, .pd] A (gCmp S))]
theorem tC1OK : COK Tryz.prog (look (tC1 stdA stdW)) := COK_cons ok_of (COK_cons ok_size (COK_cons ok_cmp COK_nil))
theorem dSize_pos (d : Dg) : 0 < dSize d ↔ d.n ≠ 0 := by
  unfold dSize
  split
  · rename_i h; simp [h]
  · rename_i h; simp [h]
def gTold (S : SW) : List CV → List Blk → Option LR
  | [.s (.bool b), .s (.hp 0 0)], [.fix false [.D d]] => some ⟨[], .c (.g [.W (S.told b d)]), []⟩
  | _, _ => none
def gIs (S : SW) : List CV → List Blk → Option LR
  | [.g [.W w]], [] => some ⟨[], .c (.s (.bool (S.isW w))), []⟩
  | _, _ => none
def gBelow (S : SW) : List CV → List Blk → Option LR
  | [.g [.W w]], [] => some ⟨[], .c (.s (.bool (S.below w))), []⟩
  | _, _ => none
theorem ok_told : CallOK Tryz.prog 177 (heapSem [.v, .pd] stdA (gTold stdW)) := by
  refine callOK_heap (un := ⟨false, none⟩) tok tC1OK mixed (fn := Tryz.f177) (by kernel_rfl) (by kernel_rfl) (by kernel_rfl) (by decide +kernel) ?_
  intro w Wr args bs r hg ho hWr A L k hA hL hk
  obtain ⟨S, hS⟩ : ∃ S, S = stdW := ⟨_, rfl⟩
  rw [← hS, ← hA]
  unfold gTold at hg
  split at hg
  · simp only [Option.some.injEq] at hg
    subst hg
    rename_i b d
    cbv
    refine hk _ _ (Good.pure rfl fun ρ => ?_)
    subst hS hA
    show Value.agg (flats ρ [.W ⟨if b = true then decide ((dSize d : Int) > 0) else false, d⟩]).toArray = .agg (flats ρ [.W (tld b d)]).toArray
    have h1 : decide ((dSize d : Int) > 0) = decide (d.n ≠ 0) := by have := dSize_pos d; simp only [decide_eq_decide]; omega
    rw [h1]
    cases b <;> rfl
  · cases hg
theorem ok_is : CallOK Tryz.prog 172 (heapSem [.v] stdA (gIs stdW)) := by
  refine callOK_heap (un := ⟨false, none⟩) tok tC1OK mixed (fn := Tryz.f172) (by kernel_rfl) (by kernel_rfl) (by kernel_rfl) (by decide +kernel) ?_
  intro w Wr args bs r hg ho hWr A L k hA hL hk
  obtain ⟨S, hS⟩ : ∃ S, S = stdW := ⟨_, rfl⟩
  rw [← hS, ← hA]
  unfold gIs at hg
  split at hg
  · simp only [Option.some.injEq] at hg
    subst hg
    rename_i x
    cbv
    repeat' first | (with_reducible intro hb; cbv) | with_reducible refine And.intro ?_ ?_
    all_goals refine hk _ _ (Good.pure rfl fun ρ => ?_)
    all_goals subst hS hA
    all_goals have h1 : decide ((dSize x.d : Int) > 0) = decide (x.d.n ≠ 0) := by have := dSize_pos x.d; simp only [decide_eq_decide]; omega
    · show Value.bool true = .bool (!x.neg || decide (x.d.n ≠ 0))
      have hb : (!x.neg) = true := hb
      rw [hb]; rfl
    · show Value.bool (decide ((dSize x.d : Int) > 0)) = .bool (!x.neg || decide (x.d.n ≠ 0))
      have hb : (!x.neg) = false := hb
      rw [hb, h1]; rfl
  · cases hg
theorem ok_below : CallOK Tryz.prog 163 (heapSem [.v] stdA (gBelow stdW)) := by
  refine callOK_heap (un := ⟨false, none⟩) tok tC1OK mixed (fn := Tryz.f163) (by kernel_rfl) (by kernel_rfl) (by kernel_rfl) (by decide +kernel) ?_
  intro w Wr args bs r hg ho hWr A L k hA hL hk
  obtain ⟨S, hS⟩ : ∃ S, S = stdW := ⟨_, rfl⟩
  rw [← hS, ← hA]
  unfold gBelow at hg
  split at hg
  · simp only [Option.some.injEq] at hg
    subst hg
    rename_i x
    cbv
    repeat' first | (with_reducible intro hb; cbv) | with_reducible refine And.intro ?_ ?_
    all_goals refine hk _ _ (Good.pure rfl fun ρ => ?_)
    all_goals subst hS hA
    all_goals have h1 : decide ((dSize x.d : Int) > 0) = decide (x.d.n ≠ 0) := by have := dSize_pos x.d; simp only [decide_eq_decide]; omega
    · show Value.bool (decide ((dSize x.d : Int) > 0)) = .bool (x.neg && decide (x.d.n ≠ 0))
      have hb : x.neg = true := hb
      rw [hb, h1]; rfl
    · show Value.bool false = .bool (x.neg && decide (x.d.n ≠ 0))
      have hb : x.neg = false := hb
      rw [hb]; rfl
  · cases hg
end Go.Eng
namespace Go.Eng
open Go.Proofs
set_option maxRecDepth 100000
set_option linter.all false
set_option exponentiation.threshold 3000
def tC2 (A : Alg) (S : SW) : List (Nat × Sem') := (177, heapSem [.v, .pd] A (gTold S)) :: (172, heapSem [.v] A (gIs S)) :: (163, heapSem [.v] A (gBelow S)) :: tC1 A S
theorem tC2OK : COK Tryz.prog (look (tC2 stdA stdW)) := COK_cons ok_told (COK_cons ok_is (COK_cons ok_below tC1OK))
def gLen32 (A : Alg) (S : SW) : List CV → List Blk → Option LR
  | [.s (.int .u32 n)], [] => some ⟨[A.cmp .leq 0 n, A.cmp .lss n 4294967296], .c (.s (.int .i64 (S.len32 n))), []⟩
  | _, _ => none
def gFrom (A : Alg) (S : SW) : List CV → List Blk → Option LR
  | [.s (.int .i64 n)], [] => some ⟨[A.cmp .leq (-9223372036854775808) n, A.cmp .lss n 9223372036854775808], .c (.g [.W (S.from64 n)]), []⟩
  | _, _ => none
def gNeg (S : SW) : List CV → List Blk → Option LR
  | [.g [.W w]], [] => some ⟨[], .c (.g [.W (S.neg w)]), []⟩
  | _, _ => none
def gWCmp (S : SW) : List CV → List Blk → Option LR
  | [.g [.W v], .g [.W w]], [] => some ⟨[], .c (.s (.int .i64 (S.cmp v w))), []⟩
  | _, _ => none
theorem ok_neg : CallOK Tryz.prog 173 (heapSem [.v] stdA (gNeg stdW)) := by
  refine callOK_heap (un := ⟨false, none⟩) tok tC2OK mixed (fn := Tryz.f173) (by kernel_rfl) (by kernel_rfl) (by kernel_rfl) (by decide +kernel) ?_
  intro w Wr args bs r hg ho hWr A L k hA hL hk
  obtain ⟨S, hS⟩ : ∃ S, S = stdW := ⟨_, rfl⟩
  rw [← hS, ← hA]
  unfold gNeg at hg
  split at hg
  · simp only [Option.some.injEq] at hg
    subst hg
    rename_i x
    cbv
    refine hk _ _ (Good.pure rfl fun ρ => ?_)
    subst hS hA
    rfl
  · cases hg
theorem ok_wcmp : CallOK Tryz.prog 112 (heapSem [.v, .v] stdA (gWCmp stdW)) := by
  refine callOK_heap (un := ⟨false, none⟩) tok tC2OK mixed (fn := Tryz.f112) (by kernel_rfl) (by kernel_rfl) (by kernel_rfl) (by decide +kernel) ?_
  intro w Wr args bs r hg ho hWr A L k hA hL hk
  obtain ⟨S, hS⟩ : ∃ S, S = stdW := ⟨_, rfl⟩
  rw [← hS, ← hA]
  unfold gWCmp at hg
  split at hg
  · simp only [Option.some.injEq] at hg
    subst hg
    rename_i x y
    cbv
    repeat' first | (with_reducible intro hb; cbv) | with_reducible refine And.intro ?_ ?_
    all_goals refine hk _ _ (Good.pure rfl fun ρ => ?_)
    all_goals subst hS hA
    all_goals simp only [stdA, stdW] at *
    all_goals clear hL hk
    · show Value.int .i64 (-1) = .int .i64 (sgn (wval x) (wval y))
      rw [cmp_val]
      cases hx : wbelow x <;> cases hy : wbelow y <;> simp_all
    · show Value.int .i64 1 = .int .i64 (sgn (wval x) (wval y))
      rw [cmp_val]
      cases hx : wbelow x <;> cases hy : wbelow y <;> simp_all
    · show Value.int .i64 (sgn y.d.n x.d.n) = .int .i64 (sgn (wval x) (wval y))
      rw [cmp_val]
      cases hx : wbelow x <;> cases hy : wbelow y <;> simp_all
    · show Value.int .i64 (sgn x.d.n y.d.n) = .int .i64 (sgn (wval x) (wval y))
      rw [cmp_val]
      cases hx : wbelow x <;> cases hy : wbelow y <;> simp_all
  · cases hg
theorem ok_len32 : CallOK Tryz.prog 196 (heapSem [.v] stdA (gLen32 stdA stdW)) := by
  refine callOK_heap (un := ⟨false, none⟩) tok noCOK mixed (fn := Tryz.f196) (by kernel_rfl) (by kernel_rfl) (by kernel_rfl) (by decide +kernel) ?_
  intro w Wr args bs r hg ho hWr A L k hA hL hk
  unfold gLen32 at hg
  split at hg
  · simp only [Option.some.injEq] at hg
    subst hg
    rename_i x
    simp only [List.forall_mem_cons, stdA, stdCmp, decide_eq_true_eq] at ho
    obtain ⟨g1, g2, -⟩ := ho
    have s16 : stdBin .shr .u32 x 16 = x / 65536 := by
      show x.fdiv (2 ^ min (16 : Int).toNat 32) = _
      rw [Int.fdiv_eq_ediv_of_nonneg _ (by decide)]; rfl
    have s8 : ∀ y : Int, stdBin .shr .u32 y 8 = y / 256 := fun y => by
      show y.fdiv (2 ^ min (8 : Int).toNat 32) = _
      rw [Int.fdiv_eq_ediv_of_nonneg _ (by decide)]; rfl
    have u8 : ∀ y : Int, 0 ≤ y → y < 256 → IntKind.u8.wrap y = y := fun y h1 h2 => by rw [IntKind.wrap_u8]; omega
    have fin : ∀ (c : Nat) (y : Int), 0 ≤ y → y < 256 → c < 100 → c + lenOf y.toNat = lenOf x.toNat → stdBin .add .i64 (c : Int) (IntKind.i64.wrap (stdA.sb len8 (IntKind.u8.wrap y))) = ((lenOf x.toNat : Nat) : Int) := fun c y h1 h2 h3 h5 => by
      rw [u8 y h1 h2, len8_at y h1 h2]
      have : lenOf x.toNat < 1000 := by
        unfold lenOf; split
        · omega
        · have := (Nat.log2_lt (k := 32) (n := x.toNat) (by omega)).2 (by omega); omega
      simp only [stdBin, IntKind.wrap_i64]
      omega
    have d16 : ∀ h : 65536 ≤ x, lenOf x.toNat = 16 + lenOf (x / 65536).toNat := fun h => by
      rw [lenOf_div x.toNat 16 (by omega)]; congr 2; omega
    have d8 : ∀ y : Int, 256 ≤ y → lenOf y.toNat = 8 + lenOf (y / 256).toNat := fun y h => by
      rw [lenOf_div y.toNat 8 (by omega)]; congr 2; omega
    have hr : stdW.len32 x = lenOf x.toNat := rfl
    cbv
    repeat' first | (with_reducible intro hb; cbv) | with_reducible refine And.intro ?_ ?_
    all_goals subst hA
    all_goals (rename_i hb0; have hb0 : decide (x ≥ 65536) = _ := hb0; simp only [decide_eq_true_eq, decide_eq_false_iff_not] at hb0)
    · have hb : decide (stdBin .shr .u32 x 16 ≥ 256) = true := hb
      rw [s16] at hb; simp only [decide_eq_true_eq] at hb
      show decide (0 ≤ IntKind.u8.wrap (stdBin .shr .u32 (stdBin .shr .u32 x 16) 8)) = true
      rw [s16, s8, u8 _ (by omega) (by omega)]; simp only [decide_eq_true_eq]; omega
    · have hb : decide (stdBin .shr .u32 x 16 ≥ 256) = true := hb
      rw [s16] at hb; simp only [decide_eq_true_eq] at hb
      show decide (IntKind.u8.wrap (stdBin .shr .u32 (stdBin .shr .u32 x 16) 8) < stdA.slen len8) = true
      rw [s16, s8, u8 _ (by omega) (by omega), len8_size]; simp only [decide_eq_true_eq]; omega
    · have hb : decide (stdBin .shr .u32 x 16 ≥ 256) = true := hb
      rw [s16] at hb; simp only [decide_eq_true_eq] at hb
      refine hk _ _ (Good.pure rfl fun ρ => ?_)
      show Value.int .i64 (stdBin .add .i64 24 (IntKind.i64.wrap (stdA.sb len8 (IntKind.u8.wrap (stdBin .shr .u32 (stdBin .shr .u32 x 16) 8))))) = .int .i64 (stdW.len32 x)
      rw [hr, s16, s8]; refine congrArg _ (fin 24 (x / 65536 / 256) (by omega) (by omega) (by omega) ?_)
      have h1 := d16 (by omega)
      have h2 := d8 (x / 65536) (by omega)
      omega
    · have hb : decide (stdBin .shr .u32 x 16 ≥ 256) = false := hb
      rw [s16] at hb; simp only [decide_eq_false_iff_not] at hb
      show decide (0 ≤ IntKind.u8.wrap (stdBin .shr .u32 x 16)) = true
      rw [s16, u8 _ (by omega) (by omega)]; simp only [decide_eq_true_eq]; omega
    · have hb : decide (stdBin .shr .u32 x 16 ≥ 256) = false := hb
      rw [s16] at hb; simp only [decide_eq_false_iff_not] at hb
      show decide (IntKind.u8.wrap (stdBin .shr .u32 x 16) < stdA.slen len8) = true
      rw [s16, u8 _ (by omega) (by omega), len8_size]; simp only [decide_eq_true_eq]; omega
    · have hb : decide (stdBin .shr .u32 x 16 ≥ 256) = false := hb
      rw [s16] at hb; simp only [decide_eq_false_iff_not] at hb
      refine hk _ _ (Good.pure rfl fun ρ => ?_)
      show Value.int .i64 (stdBin .add .i64 16 (IntKind.i64.wrap (stdA.sb len8 (IntKind.u8.wrap (stdBin .shr .u32 x 16))))) = .int .i64 (stdW.len32 x)
      rw [hr, s16]; refine congrArg _ (fin 16 (x / 65536) (by omega) (by omega) (by omega) ?_)
      have := d16 (by omega)
      omega
    · have hb : decide (x ≥ 256) = true := hb
      simp only [decide_eq_true_eq] at hb
      show decide (0 ≤ IntKind.u8.wrap (stdBin .shr .u32 x 8)) = true
      rw [s8, u8 _ (by omega) (by omega)]; simp only [decide_eq_true_eq]; omega
    · have hb : decide (x ≥ 256) = true := hb
      simp only [decide_eq_true_eq] at hb
      show decide (IntKind.u8.wrap (stdBin .shr .u32 x 8) < stdA.slen len8) = true
      rw [s8, u8 _ (by omega) (by omega), len8_size]; simp only [decide_eq_true_eq]; omega
    · have hb : decide (x ≥ 256) = true := hb
      simp only [decide_eq_true_eq] at hb
      refine hk _ _ (Good.pure rfl fun ρ => ?_)
      show Value.int .i64 (stdBin .add .i64 8 (IntKind.i64.wrap (stdA.sb len8 (IntKind.u8.wrap (stdBin .shr .u32 x 8))))) = .int .i64 (stdW.len32 x)
      rw [hr, s8]; refine congrArg _ (fin 8 (x / 256) (by omega) (by omega) (by omega) ?_)
      have := d8 x (by omega)
      omega
    · have hb : decide (x ≥ 256) = false := hb
      simp only [decide_eq_false_iff_not] at hb
      show decide (0 ≤ IntKind.u8.wrap x) = true
      rw [u8 _ (by omega) (by omega)]; simp only [decide_eq_true_eq]; omega
    · have hb : decide (x ≥ 256) = false := hb
      simp only [decide_eq_false_iff_not] at hb
      show decide (IntKind.u8.wrap x < stdA.slen len8) = true
      rw [u8 _ (by omega) (by omega), len8_size]; simp only [decide_eq_true_eq]; omega
    · have hb : decide (x ≥ 256) = false := hb
      simp only [decide_eq_false_iff_not] at hb
      refine hk _ _ (Good.pure rfl fun ρ => ?_)
      show Value.int .i64 (stdBin .add .i64 0 (IntKind.i64.wrap (stdA.sb len8 (IntKind.u8.wrap x)))) = .int .i64 (stdW.len32 x)
      rw [hr]; refine congrArg _ (fin 0 x (by omega) (by omega) (by omega) ?_)
      omega
  · cases hg
theorem ok_from : CallOK Tryz.prog 122 (heapSem [.v] stdA (gFrom stdA stdW)) := by
  refine callOK_heap (un := ⟨false, none⟩) tok tC2OK mixed (fn := Tryz.f122) (by kernel_rfl) (by kernel_rfl) (by kernel_rfl) (by decide +kernel) ?_
  intro w Wr args bs r hg ho hWr A L k hA hL hk
  obtain ⟨S, hS⟩ : ∃ S, S = stdW := ⟨_, rfl⟩
  rw [← hS, ← hA]
  unfold gFrom at hg
  split at hg
  · simp only [Option.some.injEq] at hg
    subst hg
    rename_i x
    simp only [List.forall_mem_cons, stdA, stdCmp, decide_eq_true_eq] at ho
    obtain ⟨g1, g2, -⟩ := ho
    have hw : ∀ t : Int, 0 ≤ t → t < 18446744073709551616 → 0 ≤ IntKind.u32.wrap (stdBin .and .u64 t 4294967295) ∧ IntKind.u32.wrap (stdBin .and .u64 t 4294967295) < 4294967296 ∧ 0 ≤ IntKind.u32.wrap (stdBin .shr .u64 t 32) ∧ IntKind.u32.wrap (stdBin .shr .u64 t 32) < 4294967296 := fun t _ _ => by
      rw [IntKind.wrap_u32, IntKind.wrap_u32]; omega
    cbv
    repeat' first | (with_reducible intro hb; cbv) | with_reducible refine And.intro ?_ ?_
    all_goals subst hS hA
    all_goals have hb : decide (x < 0) = _ := hb
    all_goals simp only [decide_eq_true_eq, decide_eq_false_iff_not] at hb
    all_goals have hn : x < 0 → stdBin .sub .u64 0 (IntKind.u64.wrap x) = -x := fun h => by simp only [stdBin, w_u64]; omega
    all_goals have hp : 0 ≤ x → IntKind.u64.wrap x = x := fun h => by rw [w_u64]; omega
    · show decide (0 ≤ IntKind.u32.wrap (stdBin .and .u64 (stdBin .sub .u64 0 (IntKind.u64.wrap x)) 4294967295)) = true
      rw [hn hb]; simp only [decide_eq_true_eq]; exact (hw _ (by omega) (by omega)).1
    · show decide (IntKind.u32.wrap (stdBin .and .u64 (stdBin .sub .u64 0 (IntKind.u64.wrap x)) 4294967295) < 4294967296) = true
      rw [hn hb]; simp only [decide_eq_true_eq]; exact (hw _ (by omega) (by omega)).2.1
    · show decide (0 ≤ IntKind.u32.wrap (stdBin .shr .u64 (stdBin .sub .u64 0 (IntKind.u64.wrap x)) 32)) = true
      rw [hn hb]; simp only [decide_eq_true_eq]; exact (hw _ (by omega) (by omega)).2.2.1
    · show decide (IntKind.u32.wrap (stdBin .shr .u64 (stdBin .sub .u64 0 (IntKind.u64.wrap x)) 32) < 4294967296) = true
      rw [hn hb]; simp only [decide_eq_true_eq]; exact (hw _ (by omega) (by omega)).2.2.2
    · refine hk _ _ (Good.pure rfl fun ρ => ?_)
      show Value.agg (flats ρ [.W (tld (decide (x < 0)) (stdA.setD (stdA.setD Dg.zero 0 (IntKind.u32.wrap (stdBin .and .u64 (stdBin .sub .u64 0 (IntKind.u64.wrap x)) 4294967295))) 1 (IntKind.u32.wrap (stdBin .shr .u64 (stdBin .sub .u64 0 (IntKind.u64.wrap x)) 32))))]).toArray = .agg (flats ρ [.W (tld (decide (x < 0)) (mk1024 x.natAbs))]).toArray
      rw [hn hb, from_words (-x) (by omega) (by omega), show (-x).toNat = x.natAbs from by omega]
    · show decide (0 ≤ IntKind.u32.wrap (stdBin .and .u64 (IntKind.u64.wrap x) 4294967295)) = true
      rw [hp (by omega)]; simp only [decide_eq_true_eq]; exact (hw _ (by omega) (by omega)).1
    · show decide (IntKind.u32.wrap (stdBin .and .u64 (IntKind.u64.wrap x) 4294967295) < 4294967296) = true
      rw [hp (by omega)]; simp only [decide_eq_true_eq]; exact (hw _ (by omega) (by omega)).2.1
    · show decide (0 ≤ IntKind.u32.wrap (stdBin .shr .u64 (IntKind.u64.wrap x) 32)) = true
      rw [hp (by omega)]; simp only [decide_eq_true_eq]; exact (hw _ (by omega) (by omega)).2.2.1
    · show decide (IntKind.u32.wrap (stdBin .shr .u64 (IntKind.u64.wrap x) 32) < 4294967296) = true
      rw [hp (by omega)]; simp only [decide_eq_true_eq]; exact (hw _ (by omega) (by omega)).2.2.2
    · refine hk _ _ (Good.pure rfl fun ρ => ?_)
      show Value.agg (flats ρ [.W (tld (decide (x < 0)) (stdA.setD (stdA.setD Dg.zero 0 (IntKind.u32.wrap (stdBin .and .u64 (IntKind.u64.wrap x) 4294967295))) 1 (IntKind.u32.wrap (stdBin .shr .u64 (IntKind.u64.wrap x) 32))))]).toArray = .agg (flats ρ [.W (tld (decide (x < 0)) (mk1024 x.natAbs))]).toArray
      rw [hp (by omega), from_words x (by omega) (by omega), show x.toNat = x.natAbs from by omega]
  · cases hg
end Go.Eng
namespace Go.Eng
open Go.Proofs
set_option maxRecDepth 100000
set_option linter.all false
set_option exponentiation.threshold 3000
def tC3 (A : Alg) (S : SW) : List (Nat × Sem') := (122, heapSem [.v] A (gFrom A S)) :: (173, heapSem [.v] A (gNeg S)) :: (196, heapSem [.v] A (gLen32 A S)) :: (112, heapSem [.v, .v] A (gWCmp S)) :: tC2 A S
theorem tC3OK : COK Tryz.prog (look (tC3 stdA stdW)) := COK_cons ok_from (COK_cons ok_neg (COK_cons ok_len32 (COK_cons ok_wcmp tC2OK)))
def gBits (S : SW) : List CV → List Blk → Option LR
  | [.g [.W w]], [] => some ⟨[], .c (.s (.int .i64 (S.bits w))), []⟩
  | _, _ => none
def gOne (S : SW) : List CV → List Blk → Option LR
  | [], [] => some ⟨[], .c (.g [.W (S.from64 1)]), []⟩
  | _, _ => none
def gIsOne (S : SW) : List CV → List Blk → Option LR
  | [.g [.W w]], [] => some ⟨[], .c (.s (.bool (S.one w))), []⟩
  | _, _ => none
theorem ok_bits : CallOK Tryz.prog 158 (heapSem [.v] stdA (gBits stdW)) := by
  refine callOK_heap (un := ⟨false, none⟩) tok tC3OK mixed (fn := Tryz.f158) (by kernel_rfl) (by kernel_rfl) (by kernel_rfl) (by decide +kernel) ?_
  intro w Wr args bs r hg ho hWr A L k hA hL hk
  obtain ⟨S, hS⟩ : ∃ S, S = stdW := ⟨_, rfl⟩
  rw [← hS, ← hA]
  unfold gBits at hg
  split at hg
  · simp only [Option.some.injEq] at hg
    subst hg
    rename_i x
    cbv
    repeat' first | (with_reducible intro hb; cbv) | with_reducible refine And.intro ?_ ?_
    all_goals subst hS hA
    · have hb : ((dSize x.d : Int) == 0) = true := hb
      simp only [beq_iff_eq] at hb
      have := dSize_pos x.d
      have h0 : x.d.n = 0 := by omega
      refine hk _ _ (Good.pure rfl fun ρ => ?_)
      show Value.int .i64 0 = .int .i64 ((lenOf x.d.n : Nat) : Int)
      rw [h0]; rfl
    all_goals have hb : ((dSize x.d : Int) == 0) = false := hb
    all_goals simp only [beq_eq_false_iff_ne, ne_eq] at hb
    all_goals have h0 : x.d.n ≠ 0 := by have := dSize_pos x.d; omega
    all_goals obtain ⟨h1, h2, h3, h4⟩ := dSize_spec x.d h0
    all_goals have hx : stdBin .sub .i64 (dSize x.d : Int) 1 = ((dSize x.d - 1 : Nat) : Int) := by simp only [stdBin, IntKind.wrap_i64]; omega
    · show decide (0 ≤ stdBin .sub .i64 (dSize x.d : Int) 1) = true
      rw [hx]; simp only [decide_eq_true_eq]; omega
    · show decide (stdBin .sub .i64 (dSize x.d : Int) 1 < Int.ofNat 32) = true
      rw [hx]; simp only [decide_eq_true_eq, ofNat_cast]; omega
    · show decide (0 ≤ stdBin .sub .i64 (dSize x.d : Int) 1) = true
      rw [hx]; simp only [decide_eq_true_eq]; omega
    · show decide (stdBin .sub .i64 (dSize x.d : Int) 1 < 32) = true
      rw [hx]; simp only [decide_eq_true_eq]; omega
    · show decide (0 ≤ ((x.d.dig (stdBin .sub .i64 (dSize x.d : Int) 1).toNat : Nat) : Int)) = true
      simp only [decide_eq_true_eq]; omega
    · show decide (((x.d.dig (stdBin .sub .i64 (dSize x.d : Int) 1).toNat : Nat) : Int) < 4294967296) = true
      have := dig_lt x.d (stdBin .sub .i64 (dSize x.d : Int) 1).toNat
      simp only [decide_eq_true_eq]; omega
    · refine hk _ _ (Good.pure rfl fun ρ => ?_)
      show Value.int .i64 (stdBin .add .i64 (stdBin .mul .i64 (stdBin .sub .i64 (dSize x.d : Int) 1) 32) ((lenOf (((x.d.dig (stdBin .sub .i64 (dSize x.d : Int) 1).toNat : Nat) : Int)).toNat : Nat) : Int)) = .int .i64 ((lenOf x.d.n : Nat) : Int)
      rw [hx, bits_spec x.d h0, Int.toNat_natCast, Int.toNat_natCast]
      have := lenOf_le (x.d.dig (dSize x.d - 1)) 32 (dig_lt _ _)
      congr 1
      simp only [stdBin, IntKind.wrap_i64]
      omega
  · cases hg
theorem ok_one : CallOK Tryz.prog 123 (heapSem [] stdA (gOne stdW)) := by
  refine callOK_heap (un := ⟨false, none⟩) tok tC3OK mixed (fn := Tryz.f123) (by kernel_rfl) (by kernel_rfl) (by kernel_rfl) (by decide +kernel) ?_
  intro w Wr args bs r hg ho hWr A L k hA hL hk
  obtain ⟨S, hS⟩ : ∃ S, S = stdW := ⟨_, rfl⟩
  rw [← hS, ← hA]
  unfold gOne at hg
  split at hg
  · simp only [Option.some.injEq] at hg
    subst hg
    cbv
    repeat' first | (with_reducible intro hb; cbv) | with_reducible refine And.intro ?_ ?_
    · subst hA; decide
    · subst hA; decide
    refine hk _ _ (Good.pure rfl fun ρ => ?_)
    subst hS
    rfl
  · cases hg
def tC4 (A : Alg) (S : SW) : List (Nat × Sem') := (123, heapSem [] A (gOne S)) :: tC3 A S
theorem tC4OK : COK Tryz.prog (look (tC4 stdA stdW)) := COK_cons ok_one tC3OK
theorem ok_isOne : CallOK Tryz.prog 175 (heapSem [.v] stdA (gIsOne stdW)) := by
  refine callOK_heap (un := ⟨false, none⟩) tok tC4OK mixed (fn := Tryz.f175) (by kernel_rfl) (by kernel_rfl) (by kernel_rfl) (by decide +kernel) ?_
  intro w Wr args bs r hg ho hWr A L k hA hL hk
  obtain ⟨S, hS⟩ : ∃ S, S = stdW := ⟨_, rfl⟩
  rw [← hS, ← hA]
  unfold gIsOne at hg
  split at hg
  · simp only [Option.some.injEq] at hg
    subst hg
    rename_i x
    cbv
    refine hk _ _ (Good.pure rfl fun ρ => ?_)
    subst hS hA
    show Value.bool (sgn (wval x) (wval (stdW.from64 1)) == 0) = .bool (decide (wval x = 1))
    have h1 : wval (stdW.from64 1) = 1 := by
      show ((mk1024 1).n : Int) = 1
      rw [mk1024_n _ (by omega)]; rfl
    rw [h1]
    congr 1
    unfold sgn
    rw [Bool.eq_iff_iff]
    simp only [beq_iff_eq, decide_eq_true_eq]
    split
    · omega
    · split <;> omega
  · cases hg
def tC5 (A : Alg) (S : SW) : List (Nat × Sem') := (158, heapSem [.v] A (gBits S)) :: (175, heapSem [.v] A (gIsOne S)) :: tC4 A S
theorem tC5OK : COK Tryz.prog (look (tC5 stdA stdW)) := COK_cons ok_bits (COK_cons ok_isOne tC4OK)
set_option maxHeartbeats 2000000
end Go.Eng

