/- Contract: the statement CellUps. -/
import Derived.Test.YtlcplkldielemaaCC4
import Derived.Test.YtlcplkldielemaaCK
import Derived.Test.YtlcplkldielemaaEngV
namespace Go.Eng
open Go.Proofs
set_option maxRecDepth 100000
set_option linter.all false
set_option exponentiation.threshold 3000

def tL3u (A : Alg) (S : SW) (R : SR) (X : SX) (C : SC) : List (Nat × Sem') := (7, heapSem [] A (gTrue)) :: ((tL2 A S R X C))
theorem tL3uOK : COK Try.prog (look (tL3u stdA stdW stdR stdX stdC)) := COK_cons ok_known (tL2OK)

def gUps (A : Alg) : List CV → List Blk → Option LR
  | args, [] => match ints [.u8, .u8] args with
    | some [x, y] => some ⟨[A.cmp .leq 0 x, A.cmp .lss x 256, A.cmp .leq 0 y, A.cmp .lss y 256], .c (.s (.bool true)), []⟩
    | _ => none
  | _, _ => none

theorem pw2_cases {n : Int} (h : pw2 n = true) (h64 : n < 64) : n = 1 ∨ n = 2 ∨ n = 4 ∨ n = 8 ∨ n = 16 ∨ n = 32 := by
  simp only [pw2, Bool.or_eq_true, decide_eq_true_eq] at h
  omega

theorem cIs_mk {x y n : Int} (h : pw2 n = true) (x0 : 0 ≤ x) (y0 : 0 ≤ y) (x1 : x ≤ 64 - n) (y1 : y ≤ 64 - n) (x2 : x % n = 0) (y2 : y % n = 0) : cIs x y n = true := by
  simp only [cIs, Bool.and_eq_true, decide_eq_true_eq]
  exact ⟨⟨⟨⟨⟨⟨h, x0⟩, y0⟩, x1⟩, y1⟩, x2⟩, y2⟩

theorem cIs_at {x y n : Int} (h : pw2 n = true) (x0 : 0 ≤ x) (x1 : x < 64) (y0 : 0 ≤ y) (y1 : y < 64) : cIs (x - x % n) (y - y % n) n = true := by
  have hn := pw2_bd h
  have hc : n = 64 ∨ n < 64 := by omega
  rcases hc with rfl | hc
  · exact cIs_mk h (by omega) (by omega) (by omega) (by omega) (by omega) (by omega)
  · rcases pw2_cases h hc with rfl | rfl | rfl | rfl | rfl | rfl <;> exact cIs_mk h (by omega) (by omega) (by omega) (by omega) (by omega) (by omega)

theorem ups_step {x y n : Int} (h : pw2 n = true) (h64 : n < 64) (x0 : 0 ≤ x) (x1 : x < 64) (y0 : 0 ≤ y) (y1 : y < 64) :
    stdC.upOK (x - x % n) (y - y % n) n = true ∧ stdC.up1 (x - x % n) (y - y % n) n = x - x % (2 * n) ∧ stdC.up2 (x - x % n) (y - y % n) n = y - y % (2 * n) ∧ stdC.up3 (x - x % n) (y - y % n) n = 2 * n ∧
    pw2 (2 * n) = true ∧ stdC.is (x - x % (2 * n)) (y - y % (2 * n)) (2 * n) = true ∧ stdC.has (x - x % (2 * n)) (y - y % (2 * n)) (2 * n) x y = true ∧
    (x - x % n = x - x % (2 * n) ∨ x - x % n = x - x % (2 * n) + n) ∧ (y - y % n = y - y % (2 * n) ∨ y - y % n = y - y % (2 * n) + n) := by
  have hu : stdC.upOK (x - x % n) (y - y % n) n = true := by
    show (cIs _ _ n && decide (n ≠ 64)) = true
    rw [cIs_at h x0 x1 y0 y1, decide_eq_true (by omega)]; rfl
  have hp : pw2 (2 * n) = true := by rcases pw2_cases h h64 with rfl | rfl | rfl | rfl | rfl | rfl <;> rfl
  have hi := cIs_at hp x0 x1 y0 y1
  refine ⟨hu, ?_, ?_, if_pos hu, hp, hi, ?_, ?_, ?_⟩
  · rw [show stdC.up1 (x - x % n) (y - y % n) n = x - x % n - (x - x % n) % (2 * n) from if_pos hu]
    rcases pw2_cases h h64 with rfl | rfl | rfl | rfl | rfl | rfl <;> omega
  · rw [show stdC.up2 (x - x % n) (y - y % n) n = y - y % n - (y - y % n) % (2 * n) from if_pos hu]
    rcases pw2_cases h h64 with rfl | rfl | rfl | rfl | rfl | rfl <;> omega
  · show (cIs _ _ (2 * n) && decide _ && decide _ && decide _ && decide _) = true
    rw [hi]
    have hn := pw2_bd h
    have a1 := Int.emod_nonneg x (show 2 * n ≠ 0 by omega)
    have a2 := Int.emod_lt_of_pos x (show 0 < 2 * n by omega)
    have a3 := Int.emod_nonneg y (show 2 * n ≠ 0 by omega)
    have a4 := Int.emod_lt_of_pos y (show 0 < 2 * n by omega)
    rw [decide_eq_true (by omega), decide_eq_true (by omega), decide_eq_true (by omega), decide_eq_true (by omega)]; rfl
  · rcases pw2_cases h h64 with rfl | rfl | rfl | rfl | rfl | rfl <;> omega
  · rcases pw2_cases h h64 with rfl | rfl | rfl | rfl | rfl | rfl <;> omega

set_option maxHeartbeats 2000000 in
theorem ok_ups : CallOK Try.prog 4 (heapSem [.v, .v] stdA (gUps stdA)) := by
  refine callOK_heap (un := false) tok tL3uOK mixed (fn := Try.f4) (by kernel_rfl) (by kernel_rfl) (by kernel_rfl) (by decide +kernel) ?_
  intro w Wr args bs r hg ho hWr A L k hA hL hk
  obtain ⟨C, hC⟩ : ∃ C, C = stdC := ⟨_, rfl⟩
  obtain ⟨R, hR⟩ : ∃ R, R = stdR := ⟨_, rfl⟩
  obtain ⟨S, hS⟩ : ∃ S, S = stdW := ⟨_, rfl⟩
  obtain ⟨X, hX⟩ : ∃ X, X = stdX := ⟨_, rfl⟩
  (try rw [← hC])
  (try rw [← hR])
  (try rw [← hS])
  (try rw [← hX])
  (try rw [← hA])
  unfold gUps at hg
  split at hg
  rotate_left
  · cases hg
  split at hg
  rotate_left
  · cases hg
  rename_i x y hargs
  have hargs := ints_eq hargs
  simp only [List.zipWith_cons_cons, List.zipWith_nil_left] at hargs
  subst hargs
  simp only [Option.some.injEq] at hg
  subst hg
  have x0 := (ho_cons ho).1; replace ho := (ho_cons ho).2
  have x1 := (ho_cons ho).1; replace ho := (ho_cons ho).2
  have y0 := (ho_cons ho).1; replace ho := (ho_cons ho).2
  have y1 := (ho_cons ho).1; replace ho := (ho_cons ho).2
  clear ho
  simp only [stdA, stdCmp, decide_eq_true_eq] at x0 x1 y0 y1
  have m64 : ∀ z : Int, 0 ≤ z → z < 256 → IntKind.i64.wrap (stdBin .rem .u8 z 64) = z % 64 := fun z h1 h2 => by
    simp only [stdBin, IntKind.wrap_i64]; rw [Int.tmod_eq_emod_of_nonneg h1]; omega
  refine runF_body rfl ?_
  with_reducible refine run_seq_cut fun kk hn hx => ?_
  cbv
  repeat' first | (with_reducible intro hb; cbv) | with_reducible refine And.intro ?_ ?_
  all_goals first | (with_reducible refine hn _ ?_; clear hn hx kk) | ((try subst hA); (try subst hS); (try subst hR); (try subst hX); (try subst hC); decide +kernel)
  with_reducible refine run_seq_cut fun kk hn hx => ?_
  cbv
  repeat' first | (with_reducible intro hb; cbv) | with_reducible refine And.intro ?_ ?_
  all_goals first | (with_reducible refine hn _ ?_; clear hn hx kk) | ((try subst hA); (try subst hS); (try subst hR); (try subst hX); (try subst hC); decide +kernel)
  with_reducible refine run_seq_cut fun kk hn hx => ?_
  cbv
  repeat' first | (with_reducible intro hb; cbv) | with_reducible refine And.intro ?_ ?_
  all_goals first | (with_reducible refine hn _ ?_; clear hn hx kk) | ((try subst hA); (try subst hS); (try subst hR); (try subst hX); (try subst hC); decide +kernel)
  with_reducible refine run_seq_cut fun kk hn hx => ?_
  cbv
  obtain ⟨P, hP⟩ : ∃ P : Int → Int, ∀ n, P n = x % 64 - x % 64 % n := ⟨_, fun _ => rfl⟩
  obtain ⟨Q, hQ⟩ : ∃ Q : Int → Int, ∀ n, Q n = y % 64 - y % 64 % n := ⟨_, fun _ => rfl⟩
  refine hL _ _ _ (loop_rule (un := false) tok tL3uOK mixed (fun n : Int => ⟨[(6, ⟨[], .c (.s (.int .i64 n))⟩), (5, ⟨[], .c (.s (.hp 0 0))⟩), (0, ⟨[], .c (.s (.int .u8 x))⟩), (1, ⟨[], .c (.s (.int .u8 y))⟩)], [(0, .fix true [.s (.int .i64 (P n)), .s (.int .i64 (Q n)), .s (.int .i64 n)])], 1⟩)
    (fun n => pw2 n = true) (fun n => (64 - n).toNat) 1 rfl ?_ (fun _ i hi => absurd (hWr i hi) (by simp)) ?_)
  · refine ⟨⟨⟨rfl, rfl, fun _ => rfl⟩, ⟨rfl, rfl, fun _ => rfl⟩, ⟨rfl, rfl, fun _ => rfl⟩, ⟨rfl, rfl, fun _ => rfl⟩, trivial⟩, ⟨⟨rfl, rfl, fun ρ => ?_⟩, trivial⟩, rfl, rfl⟩
    have e1 : P 1 = IntKind.i64.wrap (stdBin .rem .u8 x 64) := by rw [m64 x x0 x1, hP]; omega
    have e2 : Q 1 = IntKind.i64.wrap (stdBin .rem .u8 y 64) := by rw [m64 y y0 y1, hQ]; omega
    subst hA
    show flats ρ [.s (.int .i64 (IntKind.i64.wrap (stdBin .rem .u8 x 64))), .s (.int .i64 (IntKind.i64.wrap (stdBin .rem .u8 y 64))), .s (.int .i64 1)] = _
    rw [e1, e2]
  intro n hI A2 L2 k2 hA2 hL2 hnext hexit hret
  rw [← hA2]
  rw [← hC, ← hR, ← hS, ← hX]
  with_reducible refine run_seq_cut fun k3 hn3 hx3 => ?_
  cbv
  with_reducible refine And.intro ?_ ?_
  · with_reducible intro hb
    cbv
    have hn64 : n < 64 := by
      have h : decide (n < 64) = true := by rw [hA2] at hb; exact hb
      exact of_decide_eq_true h
    have st := ups_step hI hn64 (show 0 ≤ x % 64 by omega) (show x % 64 < 64 by omega) (show 0 ≤ y % 64 by omega) (show y % 64 < 64 by omega)
    rw [← hP, ← hQ, ← hP, ← hQ] at st
    clear hb
    with_reducible refine hn3 _ ?_
    clear hn3 hx3 k3
    with_reducible refine run_seq_cut fun k4 hn4 hx4 => ?_
    with_reducible refine run_block_cut fun k5 n5 e5 x5 r5 => ?_
    with_reducible refine run_seq_cut fun kk hn hx => ?_
    cbv
    repeat' first | (with_reducible intro hb; cbv) | with_reducible refine And.intro ?_ ?_
    all_goals first | (with_reducible refine hn _ ?_; clear hn hx kk) | skip
    with_reducible refine run_seq_cut fun kk hn hx => ?_
    cbv
    repeat' first | (with_reducible intro hb; cbv) | with_reducible refine And.intro ?_ ?_
    repeat' first | (with_reducible intro hb; cbv) | with_reducible refine And.intro ?_ ?_
    · exfalso
      clear hL hL2 hk hn4 hx4 n5 e5 x5 r5 hn hx hnext hexit hret
      subst hA2 hC
      have hb : (if (if (if (if (if (!stdC.upOK (P n) (Q n) n) = true then true else (stdC.up3 (P n) (Q n) n != stdBin .mul .i64 2 n)) = true then true else (!stdC.is (stdC.up1 (P n) (Q n) n) (stdC.up2 (P n) (Q n) n) (stdC.up3 (P n) (Q n) n))) = true then true
        else (!stdC.has (stdC.up1 (P n) (Q n) n) (stdC.up2 (P n) (Q n) n) (stdC.up3 (P n) (Q n) n) (IntKind.i64.wrap (stdBin .rem .u8 x 64)) (IntKind.i64.wrap (stdBin .rem .u8 y 64)))) = true then true else decide (stdC.up1 (P n) (Q n) n > P n)) = true then true else decide (stdC.up2 (P n) (Q n) n > Q n)) = true := hb
      obtain ⟨s1, s2, s3, s4, s5, s6, s7, s8, s9⟩ := st
      have hm : stdBin .mul .i64 2 n = 2 * n := by have := pw2_bd hI; simp only [stdBin, IntKind.wrap_i64]; omega
      rw [s1, s2, s3, s4, s6, hm, m64 x x0 x1, m64 y y0 y1, s7] at hb
      have hi := pw2_bd hI
      simp [show ¬ P (2 * n) > P n by omega, show ¬ Q (2 * n) > Q n by omega] at hb
    · with_reducible refine hn _ ?_
      clear hn hx kk hb
      with_reducible refine run_seq_cut fun kk hn hx => ?_
      cbv
      repeat' with_reducible refine And.intro ?_ ?_
      · subst hC; show stdC.is (stdC.up1 (P n) (Q n) n) (stdC.up2 (P n) (Q n) n) (stdC.up3 (P n) (Q n) n) = true
        rw [st.2.1, st.2.2.1, st.2.2.2.1]; exact st.2.2.2.2.2.1
      · subst hC hA2; show (stdC.up3 (P n) (Q n) n != 1) = true
        rw [st.2.2.2.1]; simp; omega
      with_reducible refine hn _ ?_
      clear hn hx kk
      with_reducible refine run_seq_cut fun kk hn hx => ?_
      cbv
      repeat' first | (with_reducible intro hb; cbv) | with_reducible refine And.intro ?_ ?_
      · exfalso
        clear hL hL2 hk hn4 hx4 n5 e5 x5 r5 hn hx hnext hexit hret
        subst hA2 hC
        have hi := pw2_bd hI
        have bp : 0 ≤ P (2 * n) ∧ P (2 * n) < 64 := by rw [hP]; have := Int.emod_nonneg (x % 64) (show 2 * n ≠ 0 by omega); have := cIs_bd st.2.2.2.2.2.1; rw [hP] at this; omega
        have bq : 0 ≤ Q (2 * n) ∧ Q (2 * n) < 64 := by rw [hQ]; have := Int.emod_nonneg (y % 64) (show 2 * n ≠ 0 by omega); have := cIs_bd st.2.2.2.2.2.1; rw [hQ] at this; omega
        obtain ⟨s1, s2, s3, s4, s5, s6, s7, s8, s9⟩ := st
        have eq2 : stdBin .quo .i64 (2 * n) 2 = n := by simp only [stdBin, IntKind.wrap_i64]; rw [Int.tdiv_eq_ediv_of_nonneg (by omega)]; omega
        have ea : stdBin .add .i64 (P (2 * n)) n = P (2 * n) + n := by simp only [stdBin, IntKind.wrap_i64]; omega
        have eb : stdBin .add .i64 (Q (2 * n)) n = Q (2 * n) + n := by simp only [stdBin, IntKind.wrap_i64]; omega
        rw [s2, s3, s4] at hb
        simp only [stdA, stdCmp, eq2, ea, eb, beq_self_eq_true, Bool.and_true] at hb
        rcases s8 with s8 | s8 <;> rcases s9 with s9 | s9 <;> rw [s8, s9] at hb <;> simp at hb
      · with_reducible refine hn _ ?_
        clear hn hx kk hb
        cbv
        refine n5 _ ?_
        refine hn4 _ ?_
        cbv
        have hi := pw2_bd hI
        have e1 : A2.bin .mul .i64 2 n = 2 * n := by rw [hA2]; show stdBin .mul .i64 2 n = _; simp only [stdBin, IntKind.wrap_i64]; omega
        have e2 : C.up1 (P n) (Q n) n = P (2 * n) := by rw [hC]; exact st.2.1
        have e3 : C.up2 (P n) (Q n) n = Q (2 * n) := by rw [hC]; exact st.2.2.1
        have e4 : C.up3 (P n) (Q n) n = 2 * n := by rw [hC]; exact st.2.2.2.1
        refine hnext _ (2 * n) st.2.2.2.2.1 (by show (64 - 2 * n).toNat < (64 - n).toNat; omega) ⟨⟨⟨rfl, rfl, fun ρ => congrArg (Value.int .i64) e1⟩, ⟨rfl, rfl, fun _ => rfl⟩, ⟨rfl, rfl, fun _ => rfl⟩, ⟨rfl, rfl, fun _ => rfl⟩, trivial⟩, ⟨⟨rfl, rfl, fun ρ => ?_⟩, trivial⟩, rfl, rfl⟩
        show flats ρ [.s (.int .i64 (C.up1 (P n) (Q n) n)), .s (.int .i64 (C.up2 (P n) (Q n) n)), .s (.int .i64 (C.up3 (P n) (Q n) n))] = _
        rw [e2, e3, e4]
  · with_reducible intro hb
    cbv
    refine hx3 _ _ (by simp) ?_
    refine hexit _ _ ?_
    cbv
    have hn64 : n = 64 := by
      have h : decide (n < 64) = false := by rw [hA2] at hb; exact hb
      have h1 := of_decide_eq_false h
      have h2 := pw2_bd hI
      omega
    have p0 : P n = 0 := by rw [hP, hn64]; omega
    have q0 : Q n = 0 := by rw [hQ, hn64]; omega
    clear hnext hexit hret hn3 hx3 hL2 hb
    rw [p0, q0, hn64]
    with_reducible refine hn _ ?_
    clear hn hx kk
    cbv
    refine hk _ _ (Good.pure rfl fun ρ => ?_)
    clear hk hL
    refine congrArg Value.bool ?_
    subst hA hC
    show (if ((0 : Int) == 0 && ((0 : Int) == 0 && ((64 : Int) == 64))) = true then (!stdC.upOK 0 0 64) else false) = true
    decide +kernel
end Go.Eng
