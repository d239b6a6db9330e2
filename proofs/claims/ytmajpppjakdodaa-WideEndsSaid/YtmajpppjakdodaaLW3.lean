/- The law WideEnds. -/
import Derived.Test.YtmajpppjakdodaaLW2
namespace Go.Eng
open Go.Proofs
set_option maxRecDepth 100000
set_option linter.all false
set_option exponentiation.threshold 3000
set_option maxHeartbeats 4000000

def gLawEnds (A : Alg) : List CV → List Blk → Option LR
  | [.s (.int .u8 n), .s (.bool _)], [] => some ⟨[A.cmp .leq 0 n, A.cmp .lss n 256], .c (.s (.bool true)), []⟩
  | _, _ => none

/-- the words set so far -/
def EnI (i : Int) (d : Dg) : Prop := 0 ≤ i ∧ i ≤ 32 ∧ d.n = 2 ^ (32 * i.toNat) - 1

structure EnStep (A : Alg) (i : Int) (d : Dg) : Prop where
  o1 : A.cmp .leq 0 i = true
  o3 : A.cmp .leq 0 4294967295 = true
  o4 : A.cmp .lss 4294967295 4294967296 = true
  nx : EnI (i + 1) (A.setD d i 4294967295)
  ad : A.bin .add .i64 i 1 = i + 1
  ms : (32 - (i + 1)).toNat < (32 - i).toNat

theorem en_step {i : Int} {d : Dg} (hI : EnI i d) (A : Alg) (hA : A = stdA) (hb : A.cmp .lss i 32 = true) : EnStep A i d := by
  subst hA
  have hb : i < 32 := of_decide_eq_true hb
  obtain ⟨i0, i1, h⟩ := hI
  have hP := Nat.two_pow_pos (32 * i.toNat)
  exact {
    o1 := leq_of _ rfl _ _ i0
    o3 := rfl
    o4 := rfl
    nx := by
      refine ⟨by omega, by omega, ?_⟩
      show (d.set i.toNat (4294967295 : Int).toNat).n = _
      rw [Dg.set_top d i.toNat _ (by omega) (by decide) (by omega), h, show (i + 1).toNat = i.toNat + 1 by omega, pow_step]
      show 2 ^ (32 * i.toNat) - 1 + 2 ^ (32 * i.toNat) * 4294967295 = _
      generalize 2 ^ (32 * i.toNat) = P at *
      omega
    ad := by show stdBin .add .i64 i 1 = i + 1; simp only [stdBin, IntKind.wrap_i64]; omega
    ms := by omega }

theorem en_end {i : Int} {d : Dg} (hI : EnI i d) (A : Alg) (hA : A = stdA) (hb : A.cmp .lss i 32 = false) : d = mk1024 (2 ^ 1024 - 1) := by
  subst hA
  have hb : ¬ i < 32 := of_decide_eq_false hb
  obtain ⟨i0, i1, h⟩ := hI
  apply Dg.ext'
  rw [h, show i.toNat = 32 by omega]
  show 2 ^ 1024 - 1 = (2 ^ 1024 - 1) % 2 ^ 1024
  rw [Nat.mod_eq_of_lt (Nat.sub_lt (Nat.two_pow_pos _) (by decide))]

/-- what the law asks of the greatest number and of one -/
def endsB (A : Alg) (V : SV) (S : SW) (E o : Wd) (n : Int) : Bool :=
  A.ite (A.ite (A.ite (A.ite (A.ite (A.ite (A.ite (A.ite (A.ite (A.ite (A.ite (A.ite (A.not (V.addOK E o)) (A.eqW (V.add E o) (S.from64 0)) false) (V.subOK E o) false) (V.addOK (V.sub E o) o) false) (A.eqW (V.add (V.sub E o) o) E) false) (A.not (V.shiftOK o 1024)) false) (A.beq (V.shiftOK o (A.bin .mul .i64 (A.wrap .i64 n) 4)) (A.cmp .leq (A.bin .mul .i64 (A.wrap .i64 n) 4) 1023)) false) (A.ite (A.not (V.shiftOK o (A.bin .mul .i64 (A.wrap .i64 n) 4))) true (A.cmp .eql (S.bits (V.shift o (A.bin .mul .i64 (A.wrap .i64 n) 4))) (A.bin .add .i64 (A.bin .mul .i64 (A.wrap .i64 n) 4) 1))) false) (A.not (V.mulOK E (S.from64 2))) false) (A.eqW (V.mul E (S.from64 2)) (S.from64 0)) false) (V.subOK E E) false) (A.eqW (V.sub E E) (S.from64 0)) false) (A.cmp .eql (S.bits E) 1024) false

theorem ends_all : ∀ k : Nat, k < 256 → endsB stdA stdV stdW ⟨true, mk1024 (2 ^ 1024 - 1)⟩ (stdW.from64 (-1)) (k : Int) = true ∧ endsB stdA stdV stdW ⟨false, mk1024 (2 ^ 1024 - 1)⟩ (stdW.from64 1) (k : Int) = true := by decide +kernel

theorem ends_n (A : Alg) (hA : A = stdA) (V : SV) (hV : V = stdV) (S : SW) (hS : S = stdW) (d : Dg) (hd : d = mk1024 (2 ^ 1024 - 1)) (n : Int) (n0 : 0 ≤ n) (n1 : n < 256) (z : Bool) :
    (z = true → endsB A V S ⟨z, d⟩ (S.from64 (-1)) n = true) ∧ (z = false → endsB A V S ⟨z, d⟩ (S.from64 1) n = true) := by
  subst hA hV hS hd
  have := ends_all n.toNat (by omega)
  rw [Int.toNat_of_nonneg n0] at this
  exact ⟨fun h => by subst h; exact this.1, fun h => by subst h; exact this.2⟩

theorem ok_wideEnds : CallOK Try.prog 8 (heapSem [.v, .v] stdA (gLawEnds stdA)) := by
  refine callOK_heap (un := ⟨false, some [0,1,4,5,6,7,8,9,10,11,12,13,14,15,16,17,18,19,20,21,23,27,34]⟩) tok tW2OK mixed (fn := Try.f8) (by kernel_rfl) (by kernel_rfl) (by kernel_rfl) (by decide +kernel) ?_
  intro w Wr args bs r hg ho hWr A L k hA hL hk
  obtain ⟨S, hS⟩ : ∃ S, S = stdW := ⟨_, rfl⟩
  obtain ⟨T, hT⟩ : ∃ T, T = stdT := ⟨_, rfl⟩
  obtain ⟨V, hV⟩ : ∃ V, V = stdV := ⟨_, rfl⟩
  (try rw [← hS])
  (try rw [← hT])
  (try rw [← hV])
  (try rw [← hA])
  unfold gLawEnds at hg
  split at hg
  rotate_left
  · cases hg
  simp only [Option.some.injEq] at hg
  subst hg
  rename_i n z
  have n0 := (ho_cons ho).1
  have n1 := (ho_cons (ho_cons ho).2).1
  clear ho
  simp only [stdA, stdCmp, decide_eq_true_eq] at n0 n1
  have im : ∀ b c : Bool, c = true → A.imp b c = true := fun b c h => by subst hA h; show (!b || true) = true; simp
  have i0 : EnI 0 Dg.zero := ⟨Int.le_refl 0, by decide, rfl⟩
  cbv
  repeat' first | (with_reducible intro hb; cbv) | with_reducible refine And.intro ?_ ?_
  · subst hA
    cases hb
  refine hL _ _ _ (loop_rule (un := ⟨false, some [0, 1, 4, 5, 6, 27]⟩) tok tW2OK mixed (fun p : Int × Dg => ⟨[(6, ⟨[], .c (.s (.int .i64 p.1))⟩), (5, ⟨[], .c (.s (.hp 0 0))⟩), (0, ⟨[], .c (.s (.int .u8 n))⟩), (1, ⟨[], .c (.s (.bool z))⟩)], [(0, .fix true [.W ⟨z, p.2⟩])], 1⟩)
    (fun p => EnI p.1 p.2) (fun p => (32 - p.1).toNat) (0, Dg.zero) i0 ?_ (fun _ i hi => by have := hWr i hi; simp at this) ?_)
  · exact ⟨⟨⟨rfl, rfl, fun _ => rfl⟩, ⟨rfl, rfl, fun _ => rfl⟩, ⟨rfl, rfl, fun _ => rfl⟩, ⟨rfl, rfl, fun _ => rfl⟩, trivial⟩, ⟨leRefl rfl, trivial⟩, rfl, rfl⟩
  clear i0
  rintro ⟨i, d⟩ hI A2 L2 k2 hA2 hL2 hnext hexit hret
  have st := fun hb : A2.cmp .lss i 32 = true => en_step hI A2 hA2 hb
  have en := fun hb : A2.cmp .lss i 32 = false => en_end hI A2 hA2 hb
  clear hI
  rw [← hA2, ← hS, ← hV, ← hT]
  cbv
  repeat' first | (with_reducible intro hb; cbv) | with_reducible refine And.intro ?_ ?_
  all_goals first | exact (st hb).o1 | exact hb | exact (st hb).o3 | exact (st hb).o4 | skip
  · refine hnext _ (i + 1, _) (st hb).nx (st hb).ms ?_
    have ead := (st hb).ad
    exact ⟨⟨⟨rfl, rfl, leI ead⟩, ⟨rfl, rfl, fun _ => rfl⟩, ⟨rfl, rfl, fun _ => rfl⟩, ⟨rfl, rfl, fun _ => rfl⟩, trivial⟩, ⟨leRefl rfl, trivial⟩, rfl, rfl⟩
  · apply hexit
    have hd := en hb
    have fin := ends_n A hA V hV S hS d hd n n0 n1 z
    clear hexit hnext hret st en hb
    refine run_seq_cut fun kk hn hx => ?_
    cbv
    repeat' first | (with_reducible intro hb; cbv) | with_reducible refine And.intro ?_ ?_
    all_goals first | (with_reducible refine hn _ ?_; clear hn hx kk) | ((try subst hA); (try subst hS); (try subst hR); (try subst hX); (try subst hC); (try subst hV); (try subst hT); decide +kernel)
    refine run_seq_cut fun kk hn hx => ?_
    cbv
    with_reducible refine And.intro ?_ ?_
    · intro hb
      cbv
      repeat' first | (with_reducible intro hb; cbv) | with_reducible refine And.intro ?_ ?_
      all_goals first | (with_reducible refine hn _ ?_; clear hn hx kk) | ((try subst hA); (try subst hS); (try subst hR); (try subst hX); (try subst hC); (try subst hV); (try subst hT); decide +kernel)
      with_reducible refine run_seq_cut fun kk hn hx => ?_
      cbv
      repeat' first | (with_reducible intro hb; cbv) | with_reducible refine And.intro ?_ ?_
      all_goals first | (with_reducible refine hn _ ?_; clear hn hx kk) | ((try subst hA); (try subst hS); (try subst hR); (try subst hX); (try subst hC); (try subst hV); (try subst hT); decide +kernel)
      with_reducible refine run_seq_cut fun kk hn hx => ?_
      cbv
      repeat' first | (with_reducible intro hb; cbv) | with_reducible refine And.intro ?_ ?_
      all_goals first | (with_reducible refine hn _ ?_; clear hn hx kk) | ((try subst hA); (try subst hS); (try subst hR); (try subst hX); (try subst hC); (try subst hV); (try subst hT); decide +kernel)
      with_reducible refine run_seq_cut fun kk hn hx => ?_
      cbv
      repeat' first | (with_reducible intro hb; cbv) | with_reducible refine And.intro ?_ ?_
      all_goals first | (with_reducible refine hn _ ?_; clear hn hx kk) | ((try subst hA); (try subst hS); (try subst hR); (try subst hX); (try subst hC); (try subst hV); (try subst hT); decide +kernel)
      with_reducible refine run_seq_cut fun kk hn hx => ?_
      cbv
      repeat' first | (with_reducible intro hb; cbv) | with_reducible refine And.intro ?_ ?_
      all_goals first | (with_reducible refine hn _ ?_; clear hn hx kk) | ((try subst hA); (try subst hS); (try subst hR); (try subst hX); (try subst hC); (try subst hV); (try subst hT); decide +kernel)
      with_reducible refine run_seq_cut fun kk hn hx => ?_
      cbv
      repeat' first | (with_reducible intro hb; cbv) | with_reducible refine And.intro ?_ ?_
      all_goals first | (with_reducible refine hn _ ?_; clear hn hx kk) | ((try subst hA); (try subst hS); (try subst hR); (try subst hX); (try subst hC); (try subst hV); (try subst hT); decide +kernel)
      with_reducible refine run_seq_cut fun kk hn hx => ?_
      cbv
      repeat' first | (with_reducible intro hb; cbv) | with_reducible refine And.intro ?_ ?_
      all_goals first | (with_reducible refine hn _ ?_; clear hn hx kk) | ((try subst hA); (try subst hS); (try subst hR); (try subst hX); (try subst hC); (try subst hV); (try subst hT); decide +kernel)
      with_reducible refine run_seq_cut fun kk hn hx => ?_
      cbv
      repeat' first | (with_reducible intro hb; cbv) | with_reducible refine And.intro ?_ ?_
      all_goals first | (with_reducible refine hn _ ?_; clear hn hx kk) | ((try subst hA); (try subst hS); (try subst hR); (try subst hX); (try subst hC); (try subst hV); (try subst hT); decide +kernel)
      with_reducible refine run_seq_cut fun kk hn hx => ?_
      with_reducible refine Dr_run (by decide +kernel) ?_
      with_reducible refine Dr_cut 20 fun P hP => ?_
      cbv
      with_reducible refine hP _ ?_
      clear hP P
      with_reducible refine Dr_cut 20 fun P hP => ?_
      cbv
      with_reducible refine hP _ ?_
      clear hP P
      with_reducible refine Dr_cut 15 fun P hP => ?_
      cbv
      with_reducible refine hP _ ?_
      clear hP P
      cbv
      repeat' with_reducible refine And.intro ?_ ?_
      all_goals first | (with_reducible refine hn _ ?_; clear hn hx kk) | exact im _ _ (leq_of A hA _ _ (by decide)) | exact im _ _ (lss_of A hA _ _ (by decide))
      cbv
      refine hk _ _ (Good.pure rfl fun ρ => ?_)
      refine congrArg Value.bool ?_
      exact fin.1 hb
    · intro hb
      cbv
      repeat' first | (with_reducible intro hb; cbv) | with_reducible refine And.intro ?_ ?_
      all_goals first | (with_reducible refine hn _ ?_; clear hn hx kk) | ((try subst hA); (try subst hS); (try subst hR); (try subst hX); (try subst hC); (try subst hV); (try subst hT); decide +kernel)
      with_reducible refine run_seq_cut fun kk hn hx => ?_
      cbv
      repeat' first | (with_reducible intro hb; cbv) | with_reducible refine And.intro ?_ ?_
      all_goals first | (with_reducible refine hn _ ?_; clear hn hx kk) | ((try subst hA); (try subst hS); (try subst hR); (try subst hX); (try subst hC); (try subst hV); (try subst hT); decide +kernel)
      with_reducible refine run_seq_cut fun kk hn hx => ?_
      cbv
      repeat' first | (with_reducible intro hb; cbv) | with_reducible refine And.intro ?_ ?_
      all_goals first | (with_reducible refine hn _ ?_; clear hn hx kk) | ((try subst hA); (try subst hS); (try subst hR); (try subst hX); (try subst hC); (try subst hV); (try subst hT); decide +kernel)
      with_reducible refine run_seq_cut fun kk hn hx => ?_
      cbv
      repeat' first | (with_reducible intro hb; cbv) | with_reducible refine And.intro ?_ ?_
      all_goals first | (with_reducible refine hn _ ?_; clear hn hx kk) | ((try subst hA); (try subst hS); (try subst hR); (try subst hX); (try subst hC); (try subst hV); (try subst hT); decide +kernel)
      with_reducible refine run_seq_cut fun kk hn hx => ?_
      cbv
      repeat' first | (with_reducible intro hb; cbv) | with_reducible refine And.intro ?_ ?_
      all_goals first | (with_reducible refine hn _ ?_; clear hn hx kk) | ((try subst hA); (try subst hS); (try subst hR); (try subst hX); (try subst hC); (try subst hV); (try subst hT); decide +kernel)
      with_reducible refine run_seq_cut fun kk hn hx => ?_
      cbv
      repeat' first | (with_reducible intro hb; cbv) | with_reducible refine And.intro ?_ ?_
      all_goals first | (with_reducible refine hn _ ?_; clear hn hx kk) | ((try subst hA); (try subst hS); (try subst hR); (try subst hX); (try subst hC); (try subst hV); (try subst hT); decide +kernel)
      with_reducible refine run_seq_cut fun kk hn hx => ?_
      cbv
      repeat' first | (with_reducible intro hb; cbv) | with_reducible refine And.intro ?_ ?_
      all_goals first | (with_reducible refine hn _ ?_; clear hn hx kk) | ((try subst hA); (try subst hS); (try subst hR); (try subst hX); (try subst hC); (try subst hV); (try subst hT); decide +kernel)
      with_reducible refine run_seq_cut fun kk hn hx => ?_
      cbv
      repeat' first | (with_reducible intro hb; cbv) | with_reducible refine And.intro ?_ ?_
      all_goals first | (with_reducible refine hn _ ?_; clear hn hx kk) | ((try subst hA); (try subst hS); (try subst hR); (try subst hX); (try subst hC); (try subst hV); (try subst hT); decide +kernel)
      with_reducible refine run_seq_cut fun kk hn hx => ?_
      with_reducible refine Dr_run (by decide +kernel) ?_
      with_reducible refine Dr_cut 20 fun P hP => ?_
      cbv
      with_reducible refine hP _ ?_
      clear hP P
      with_reducible refine Dr_cut 20 fun P hP => ?_
      cbv
      with_reducible refine hP _ ?_
      clear hP P
      with_reducible refine Dr_cut 15 fun P hP => ?_
      cbv
      with_reducible refine hP _ ?_
      clear hP P
      cbv
      repeat' with_reducible refine And.intro ?_ ?_
      all_goals first | (with_reducible refine hn _ ?_; clear hn hx kk) | exact im _ _ (leq_of A hA _ _ (by decide)) | exact im _ _ (lss_of A hA _ _ (by decide))
      cbv
      refine hk _ _ (Good.pure rfl fun ρ => ?_)
      refine congrArg Value.bool ?_
      exact fin.2 hb

def tW3 (A : Alg) (S : SW) (V : SV) (T : ST) : List (Nat × Sem') := (8, heapSem [.v, .v] A (gLawEnds A)) :: ((tW2 A S V T))
theorem tW3OK : COK Try.prog (look (tW3 stdA stdW stdV stdT)) := COK_cons ok_wideEnds (tW2OK)
end Go.Eng
