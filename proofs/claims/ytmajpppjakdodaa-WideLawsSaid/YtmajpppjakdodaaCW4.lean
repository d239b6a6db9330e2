/- Contracts: whole numbers, fourth part. -/
import Derived.Test.YtmajpppjakdodaaCW3
namespace Go.Eng
open Go.Proofs
set_option maxRecDepth 100000
set_option linter.all false
set_option exponentiation.threshold 3000

def tC3 (A : Alg) (S : SW) : List (Nat × Sem') := (18, heapSem [.v] A (gFrom A S)) :: (21, heapSem [.v] A (gNeg S)) :: (54, heapSem [.v] A (gLen32 A S)) :: (34, heapSem [.v, .v] A (gWCmp S)) :: tC2 A S
theorem tC3OK : COK Try.prog (look (tC3 stdA stdW)) := COK_cons ok_from (COK_cons ok_neg (COK_cons ok_len32 (COK_cons ok_wcmp tC2OK)))

def gBits (S : SW) : List CV → List Blk → Option LR
  | [.g [.W w]], [] => some ⟨[], .c (.s (.int .i64 (S.bits w))), []⟩
  | _, _ => none
def gOne (S : SW) : List CV → List Blk → Option LR
  | [], [] => some ⟨[], .c (.g [.W (S.from64 1)]), []⟩
  | _, _ => none
def gIsOne (S : SW) : List CV → List Blk → Option LR
  | [.g [.W w]], [] => some ⟨[], .c (.s (.bool (S.one w))), []⟩
  | _, _ => none

theorem ok_bits : CallOK Try.prog 15 (heapSem [.v] stdA (gBits stdW)) := by
  refine callOK_heap (un := ⟨false, none⟩) tok tC3OK mixed (fn := Try.f15) (by kernel_rfl) (by kernel_rfl) (by kernel_rfl) (by decide +kernel) ?_
  intro w Wr args bs r hg ho hWr A L k hA hL hk
  obtain ⟨S, hS⟩ : ∃ S, S = stdW := ⟨_, rfl⟩
  rw [← hS, ← hA]
  unfold gBits at hg
  split at hg
  · simp only [Option.some.injEq] at hg
    subst hg
    rename_i x
    cbv
    repeat' first | (with_reducible intro hb; cbv) | with_reducible refine And.intro ?_ ?_
    all_goals subst hS hA
    · have hb : ((dSize x.d : Int) == 0) = true := hb
      simp only [beq_iff_eq] at hb
      have := dSize_pos x.d
      have h0 : x.d.n = 0 := by omega
      refine hk _ _ (Good.pure rfl fun ρ => ?_)
      show Value.int .i64 0 = .int .i64 ((lenOf x.d.n : Nat) : Int)
      rw [h0]; rfl
    all_goals have hb : ((dSize x.d : Int) == 0) = false := hb
    all_goals simp only [beq_eq_false_iff_ne, ne_eq] at hb
    all_goals have h0 : x.d.n ≠ 0 := by have := dSize_pos x.d; omega
    all_goals obtain ⟨h1, h2, h3, h4⟩ := dSize_spec x.d h0
    all_goals have hx : stdBin .sub .i64 (dSize x.d : Int) 1 = ((dSize x.d - 1 : Nat) : Int) := by simp only [stdBin, IntKind.wrap_i64]; omega
    · show decide (0 ≤ stdBin .sub .i64 (dSize x.d : Int) 1) = true
      rw [hx]; simp only [decide_eq_true_eq]; omega
    · show decide (stdBin .sub .i64 (dSize x.d : Int) 1 < Int.ofNat 32) = true
      rw [hx]; simp only [decide_eq_true_eq, ofNat_cast]; omega
    · show decide (0 ≤ stdBin .sub .i64 (dSize x.d : Int) 1) = true
      rw [hx]; simp only [decide_eq_true_eq]; omega
    · show decide (stdBin .sub .i64 (dSize x.d : Int) 1 < 32) = true
      rw [hx]; simp only [decide_eq_true_eq]; omega
    · show decide (0 ≤ ((x.d.dig (stdBin .sub .i64 (dSize x.d : Int) 1).toNat : Nat) : Int)) = true
      simp only [decide_eq_true_eq]; omega
    · show decide (((x.d.dig (stdBin .sub .i64 (dSize x.d : Int) 1).toNat : Nat) : Int) < 4294967296) = true
      have := dig_lt x.d (stdBin .sub .i64 (dSize x.d : Int) 1).toNat
      simp only [decide_eq_true_eq]; omega
    · refine hk _ _ (Good.pure rfl fun ρ => ?_)
      show Value.int .i64 (stdBin .add .i64 (stdBin .mul .i64 (stdBin .sub .i64 (dSize x.d : Int) 1) 32) ((lenOf (((x.d.dig (stdBin .sub .i64 (dSize x.d : Int) 1).toNat : Nat) : Int)).toNat : Nat) : Int)) = .int .i64 ((lenOf x.d.n : Nat) : Int)
      rw [hx, bits_spec x.d h0, Int.toNat_natCast, Int.toNat_natCast]
      have := lenOf_le (x.d.dig (dSize x.d - 1)) 32 (dig_lt _ _)
      congr 1
      simp only [stdBin, IntKind.wrap_i64]
      omega
  · cases hg

theorem ok_one : CallOK Try.prog 102 (heapSem [] stdA (gOne stdW)) := by
  refine callOK_heap (un := ⟨false, none⟩) tok tC3OK mixed (fn := Try.f102) (by kernel_rfl) (by kernel_rfl) (by kernel_rfl) (by decide +kernel) ?_
  intro w Wr args bs r hg ho hWr A L k hA hL hk
  obtain ⟨S, hS⟩ : ∃ S, S = stdW := ⟨_, rfl⟩
  rw [← hS, ← hA]
  unfold gOne at hg
  split at hg
  · simp only [Option.some.injEq] at hg
    subst hg
    cbv
    repeat' first | (with_reducible intro hb; cbv) | with_reducible refine And.intro ?_ ?_
    · subst hA; decide
    · subst hA; decide
    refine hk _ _ (Good.pure rfl fun ρ => ?_)
    subst hS
    rfl
  · cases hg

def tC4 (A : Alg) (S : SW) : List (Nat × Sem') := (102, heapSem [] A (gOne S)) :: tC3 A S
theorem tC4OK : COK Try.prog (look (tC4 stdA stdW)) := COK_cons ok_one tC3OK

theorem ok_isOne : CallOK Try.prog 113 (heapSem [.v] stdA (gIsOne stdW)) := by
  refine callOK_heap (un := ⟨false, none⟩) tok tC4OK mixed (fn := Try.f113) (by kernel_rfl) (by kernel_rfl) (by kernel_rfl) (by decide +kernel) ?_
  intro w Wr args bs r hg ho hWr A L k hA hL hk
  obtain ⟨S, hS⟩ : ∃ S, S = stdW := ⟨_, rfl⟩
  rw [← hS, ← hA]
  unfold gIsOne at hg
  split at hg
  · simp only [Option.some.injEq] at hg
    subst hg
    rename_i x
    cbv
    refine hk _ _ (Good.pure rfl fun ρ => ?_)
    subst hS hA
    show Value.bool (sgn (wval x) (wval (stdW.from64 1)) == 0) = .bool (decide (wval x = 1))
    have h1 : wval (stdW.from64 1) = 1 := by
      show ((mk1024 1).n : Int) = 1
      rw [mk1024_n _ (by omega)]; rfl
    rw [h1]
    congr 1
    unfold sgn
    rw [Bool.eq_iff_iff]
    simp only [beq_iff_eq, decide_eq_true_eq]
    split
    · omega
    · split <;> omega
  · cases hg
def tC5 (A : Alg) (S : SW) : List (Nat × Sem') := (15, heapSem [.v] A (gBits S)) :: (113, heapSem [.v] A (gIsOne S)) :: tC4 A S
theorem tC5OK : COK Try.prog (look (tC5 stdA stdW)) := COK_cons ok_bits (COK_cons ok_isOne tC4OK)

def gGcd (S : SW) : List CV → List Blk → Option LR
  | [.g [.W v], .g [.W w]], [] => some ⟨[S.small v, S.small w], .c (.g [.W (S.gcd v w)]), []⟩
  | _, _ => none

set_option maxHeartbeats 2000000
theorem ok_gcd : CallOK Try.prog 20 (heapSem [.v, .v] stdA (gGcd stdW)) := by
  refine callOK_heap (un := ⟨false, none⟩) tok tC5OK mixed (fn := Try.f20) (by kernel_rfl) (by kernel_rfl) (by kernel_rfl) (by decide +kernel) ?_
  intro w Wr args bs r hg ho hWr A L k hA hL hk
  obtain ⟨S, hS⟩ : ∃ S, S = stdW := ⟨_, rfl⟩
  rw [← hS, ← hA]
  unfold gGcd at hg
  split at hg
  · simp only [Option.some.injEq] at hg
    subst hg
    rename_i x y
    cbv
    refine hL _ _ _ (loop_rule (un := ⟨false, none⟩) tok tC5OK mixed (fun _ : Unit => ⟨[(2, ⟨[], .c (.s (.hp 0 0))⟩), (3, ⟨[], .c (.s (.hp 1 0))⟩), (4, ⟨[], .c (.s (.hp 2 0))⟩)], [(0, .fix true [.W ⟨false, x.d⟩]), (1, .fix true [.W ⟨false, y.d⟩]), (2, .fix true [.W ⟨false, Dg.zero⟩])], 3⟩)
      (fun _ => True) (fun _ => 0) () ?_ ?_ (fun _ i hi => absurd (hWr i hi) (by simp)) ?_)
    · trivial
    · exact ⟨⟨⟨rfl, rfl, fun _ => rfl⟩, ⟨rfl, rfl, fun _ => rfl⟩, ⟨rfl, rfl, fun _ => rfl⟩, trivial⟩, ⟨⟨rfl, rfl, fun _ => rfl⟩, ⟨rfl, rfl, fun _ => rfl⟩, ⟨rfl, rfl, fun _ => rfl⟩, trivial⟩, rfl, rfl⟩
    intro _ _ A' L' k' hA' hL' hnext hexit hret
    rw [← hS, ← hA']
    cbv
    repeat' first | (with_reducible intro hb; cbv) | with_reducible refine And.intro ?_ ?_
    all_goals simp only [List.forall_mem_cons] at ho
    all_goals obtain ⟨ho1, ho2, -⟩ := ho
    all_goals have hx2 := dSize_le2 x.d (by rw [show stdW.small x = decide (x.d.n < 2 ^ 64) from rfl] at ho1; exact of_decide_eq_true ho1)
    all_goals have hy2 := dSize_le2 y.d (by rw [show stdW.small y = decide (y.d.n < 2 ^ 64) from rfl] at ho2; exact of_decide_eq_true ho2)
    · subst hS hA'
      have hb : decide ((dSize y.d : Int) > 2) = true := hb
      simp only [decide_eq_true_eq] at hb
      omega
    · rename_i hb0
      subst hS hA'
      have hb0 : decide ((dSize x.d : Int) > 2) = true := hb0
      simp only [decide_eq_true_eq] at hb0
      omega
    · rename_i hb0
      subst hS hA'
      have hb0 : decide ((dSize x.d : Int) > 2) = true := hb0
      simp only [decide_eq_true_eq] at hb0
      omega
    · clear hb hL' hnext hret
      apply hexit
      clear hexit
      cbv
      have hx64 : x.d.n < 2 ^ 64 := by rw [show stdW.small x = decide (x.d.n < 2 ^ 64) from rfl] at ho1; exact of_decide_eq_true ho1
      have hy64 : y.d.n < 2 ^ 64 := by rw [show stdW.small y = decide (y.d.n < 2 ^ 64) from rfl] at ho2; exact of_decide_eq_true ho2
      with_reducible refine And.intro ?_ ?_
      · intro hb
        cbv
        refine hk _ _ (Good.pure rfl fun ρ => ?_)
        subst hS hA
        have hb : ((dSize y.d : Int) == 0) = true := hb
        simp only [beq_iff_eq] at hb
        have h0 : y.d.n = 0 := by have := dSize_pos y.d; omega
        show Value.agg (flats ρ [.W ⟨false, x.d⟩]).toArray = .agg (flats ρ [.W (stdW.gcd x y)]).toArray
        have : x.d = (stdW.gcd x y).d := Dg.ext' (by show x.d.n = Nat.gcd x.d.n y.d.n; rw [h0, Nat.gcd_zero_right])
        rw [this]; rfl
      · intro hb
        clear hb
        cbv
        refine hL _ _ _ (loop_rule (un := ⟨false, none⟩) tok tC5OK mixed (fun p : Int × Int => ⟨[(8, ⟨[], .c (.s (.int .u64 p.1))⟩), (9, ⟨[], .c (.s (.int .u64 p.2))⟩), (4, ⟨[], .c (.s (.hp 2 0))⟩)], [(2, .fix true [.W ⟨false, Dg.zero⟩])], 3⟩)
          (fun p => 0 ≤ p.1 ∧ p.1 < 18446744073709551616 ∧ 0 ≤ p.2 ∧ p.2 < 18446744073709551616 ∧ Nat.gcd p.1.toNat p.2.toNat = Nat.gcd x.d.n y.d.n) (fun p => p.2.toNat)
          (A.bin .or .u64 (A.bin .shl .u64 (A.wrap .u64 (A.dig x.d 1)) 32) (A.wrap .u64 (A.dig x.d 0)), A.bin .or .u64 (A.bin .shl .u64 (A.wrap .u64 (A.dig y.d 1)) 32) (A.wrap .u64 (A.dig y.d 0))) ?_ ?_ (fun _ i hi => absurd (hWr i hi) (by simp)) ?_)
        · subst hA
          have e1 := to_u64 x.d hx64
          have e2 := to_u64 y.d hy64
          show 0 ≤ stdBin .or .u64 (stdBin .shl .u64 (IntKind.u64.wrap ((x.d.dig 1 : Nat) : Int)) 32) (IntKind.u64.wrap ((x.d.dig 0 : Nat) : Int)) ∧ stdBin .or .u64 (stdBin .shl .u64 (IntKind.u64.wrap ((x.d.dig 1 : Nat) : Int)) 32) (IntKind.u64.wrap ((x.d.dig 0 : Nat) : Int)) < 18446744073709551616 ∧ 0 ≤ stdBin .or .u64 (stdBin .shl .u64 (IntKind.u64.wrap ((y.d.dig 1 : Nat) : Int)) 32) (IntKind.u64.wrap ((y.d.dig 0 : Nat) : Int)) ∧ stdBin .or .u64 (stdBin .shl .u64 (IntKind.u64.wrap ((y.d.dig 1 : Nat) : Int)) 32) (IntKind.u64.wrap ((y.d.dig 0 : Nat) : Int)) < 18446744073709551616 ∧ Nat.gcd (stdBin .or .u64 (stdBin .shl .u64 (IntKind.u64.wrap ((x.d.dig 1 : Nat) : Int)) 32) (IntKind.u64.wrap ((x.d.dig 0 : Nat) : Int))).toNat (stdBin .or .u64 (stdBin .shl .u64 (IntKind.u64.wrap ((y.d.dig 1 : Nat) : Int)) 32) (IntKind.u64.wrap ((y.d.dig 0 : Nat) : Int))).toNat = Nat.gcd x.d.n y.d.n
          rw [e1, e2]
          refine ⟨by omega, by omega, by omega, by omega, ?_⟩
          rw [Int.toNat_natCast, Int.toNat_natCast]
        · exact ⟨⟨⟨rfl, rfl, fun _ => rfl⟩, ⟨rfl, rfl, fun _ => rfl⟩, ⟨rfl, rfl, fun _ => rfl⟩, trivial⟩, ⟨⟨rfl, rfl, fun _ => rfl⟩, trivial⟩, rfl, rfl⟩
        intro p hp A2 L2 k2 hA2 hL2 hnext2 hexit2 hret2
        rw [← hS, ← hA2]
        cbv
        repeat' first | (with_reducible intro hb; cbv) | with_reducible refine And.intro ?_ ?_
        · exact hb
        · obtain ⟨p1, p2, p3, p4, p5⟩ := hp
          have hb : (p.2 != 0) = true := by rw [hA2] at hb; simpa [stdA, stdCmp] using hb
          simp only [bne_iff_ne, ne_eq] at hb
          have hx : A2.bin .rem .u64 p.1 p.2 = p.1 % p.2 := by
            rw [hA2]
            show p.1.tmod p.2 = _
            rw [Int.tmod_eq_emod_of_nonneg p1]
          have h1 := Int.emod_nonneg p.1 hb
          have h2 := Int.emod_lt_of_pos p.1 (show 0 < p.2 by omega)
          refine hnext2 _ (p.2, A2.bin .rem .u64 p.1 p.2) ?_ ?_ ?_
          · rw [hx]
            refine ⟨p3, p4, h1, by omega, ?_⟩
            rw [← p5]
            show Nat.gcd p.2.toNat (p.1 % p.2).toNat = _
            rw [Int.toNat_emod p1 p3, Nat.gcd_comm, ← Nat.gcd_rec, Nat.gcd_comm]
          · show (A2.bin .rem .u64 p.1 p.2).toNat < p.2.toNat
            rw [hx]; omega
          · exact ⟨⟨⟨rfl, rfl, fun _ => rfl⟩, ⟨rfl, rfl, fun _ => rfl⟩, ⟨rfl, rfl, fun _ => rfl⟩, trivial⟩, ⟨⟨rfl, rfl, fun _ => rfl⟩, trivial⟩, rfl, rfl⟩
        · apply hexit2
          clear hexit2 hnext2 hret2
          cbv
          repeat' first | (with_reducible intro hb; cbv) | with_reducible refine And.intro ?_ ?_
          all_goals obtain ⟨p1, p2, p3, p4, p5⟩ := hp
          all_goals have hw : 0 ≤ IntKind.u32.wrap (stdBin .and .u64 p.1 4294967295) ∧ IntKind.u32.wrap (stdBin .and .u64 p.1 4294967295) < 4294967296 ∧ 0 ≤ IntKind.u32.wrap (stdBin .shr .u64 p.1 32) ∧ IntKind.u32.wrap (stdBin .shr .u64 p.1 32) < 4294967296 := by rw [IntKind.wrap_u32, IntKind.wrap_u32]; omega
          · subst hA
            show decide (0 ≤ IntKind.u32.wrap (stdBin .and .u64 p.1 4294967295)) = true
            simp only [decide_eq_true_eq]; exact hw.1
          · subst hA
            show decide (IntKind.u32.wrap (stdBin .and .u64 p.1 4294967295) < 4294967296) = true
            simp only [decide_eq_true_eq]; exact hw.2.1
          · subst hA
            show decide (0 ≤ IntKind.u32.wrap (stdBin .shr .u64 p.1 32)) = true
            simp only [decide_eq_true_eq]; exact hw.2.2.1
          · subst hA
            show decide (IntKind.u32.wrap (stdBin .shr .u64 p.1 32) < 4294967296) = true
            simp only [decide_eq_true_eq]; exact hw.2.2.2
          · refine hk _ _ (Good.pure rfl fun ρ => ?_)
            have hb2 : p.2 = 0 := by rw [hA2] at hb; simpa [stdA, stdCmp] using hb
            subst hS hA
            show Value.agg (flats ρ [.W (tld false (stdA.setD (stdA.setD Dg.zero 0 (IntKind.u32.wrap (stdBin .and .u64 p.1 4294967295))) 1 (IntKind.u32.wrap (stdBin .shr .u64 p.1 32))))]).toArray = .agg (flats ρ [.W (stdW.gcd x y)]).toArray
            rw [from_words p.1 p1 p2]
            have : tld false (mk1024 p.1.toNat) = stdW.gcd x y := by
              rw [hb2, show (0 : Int).toNat = 0 from rfl, Nat.gcd_zero_right] at p5
              have : mk1024 p.1.toNat = (stdW.gcd x y).d := Dg.ext' (by rw [mk1024_n _ (by omega)]; exact p5)
              rw [this]; rfl
            rw [this]
  · cases hg
end Go.Eng
