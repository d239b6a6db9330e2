/- Contract: the statement CellFours. -/
import Derived.Test.YtlcplkldielemaaCC4
import Derived.Test.YtlcplkldielemaaCF
import Derived.Test.YtlcplkldielemaaEngV
namespace Go.Eng
open Go.Proofs
set_option maxRecDepth 100000
set_option linter.all false
set_option exponentiation.threshold 3000

def tL3f (A : Alg) (S : SW) (R : SR) (X : SX) (C : SC) : List (Nat × Sem') := (7, heapSem [] A (gTrue)) :: ((tL2 A S R X C))
theorem tL3fOK : COK Try.prog (look (tL3f stdA stdW stdR stdX stdC)) := COK_cons ok_known (tL2OK)

def gFours (A : Alg) : List CV → List Blk → Option LR
  | [.g [.s (.int .i64 x), .s (.int .i64 y), .s (.int .i64 s)], .s (.int .u8 p), .s (.int .u8 q)], [] => some ⟨[A.cmp .leq 0 p, A.cmp .lss p 256, A.cmp .leq 0 q, A.cmp .lss q 256], .c (.s (.bool true)), []⟩
  | _, _ => none

theorem in_part {x s H p P : Int} (eh : s = 2 * H) (hp : 0 < H) (x0 : 0 ≤ x) (x1 : x + 2 * H ≤ 64) (p0 : 0 ≤ p) (p1 : p < 256) (hP : P = stdBin .add .i64 x (stdBin .rem .i64 (IntKind.i64.wrap p) s)) : x ≤ P ∧ P < x + 2 * H := by
  have e1 : IntKind.i64.wrap p = p := by rw [IntKind.wrap_i64]; omega
  have e2 : stdBin .rem .i64 p s = p % s := Int.tmod_eq_emod_of_nonneg p0
  have h1 := Int.emod_nonneg p (show s ≠ 0 by omega)
  have h2 := Int.emod_lt_of_pos p (show 0 < s by omega)
  rw [hP, e1, e2]
  simp only [stdBin, IntKind.wrap_i64]
  omega

/-- how many of the first i quarters have the point -/
def cq (P Q X Y i : Int) : Int := (if 0 < i ∧ P < X ∧ Q < Y then 1 else 0) + (if 1 < i ∧ X ≤ P ∧ Q < Y then 1 else 0) + (if 2 < i ∧ P < X ∧ Y ≤ Q then 1 else 0) + (if 3 < i ∧ X ≤ P ∧ Y ≤ Q then 1 else 0)
theorem cq0 {P Q X Y : Int} : cq P Q X Y 0 = 0 := by simp [cq]
theorem cq_b {P Q X Y i : Int} : 0 ≤ cq P Q X Y i ∧ cq P Q X Y i ≤ 4 := by unfold cq; constructor <;> (repeat' split) <;> omega
theorem cqt {a : Int} (h : 0 ≤ a ∧ a ≤ 4) : stdBin .add .i64 a 1 = a + 1 := by simp only [stdBin, IntKind.wrap_i64]; omega
theorem cqt0 {P Q X Y : Int} (h : P < X ∧ Q < Y) : stdBin .add .i64 (cq P Q X Y 0) 1 = cq P Q X Y 1 := by rw [cqt cq_b]; simp [cq, h.1, h.2]
theorem cqt1 {P Q X Y : Int} (h : X ≤ P ∧ Q < Y) : stdBin .add .i64 (cq P Q X Y 1) 1 = cq P Q X Y 2 := by rw [cqt cq_b]; simp [cq, h.1, h.2]
theorem cqt2 {P Q X Y : Int} (h : P < X ∧ Y ≤ Q) : stdBin .add .i64 (cq P Q X Y 2) 1 = cq P Q X Y 3 := by rw [cqt cq_b]; simp [cq, h.1, h.2]
theorem cqt3 {P Q X Y : Int} (h : X ≤ P ∧ Y ≤ Q) : stdBin .add .i64 (cq P Q X Y 3) 1 = cq P Q X Y 4 := by rw [cqt cq_b]; simp [cq, h.1, h.2]
theorem cqf0 {P Q X Y : Int} (h : ¬ (P < X ∧ Q < Y)) : cq P Q X Y 0 = cq P Q X Y 1 := by simp [cq]; omega
theorem cqf1 {P Q X Y : Int} (h : ¬ (X ≤ P ∧ Q < Y)) : cq P Q X Y 1 = cq P Q X Y 2 := by simp [cq]; omega
theorem cqf2 {P Q X Y : Int} (h : ¬ (P < X ∧ Y ≤ Q)) : cq P Q X Y 2 = cq P Q X Y 3 := by simp [cq]; omega
theorem cqf3 {P Q X Y : Int} (h : ¬ (X ≤ P ∧ Y ≤ Q)) : cq P Q X Y 3 = cq P Q X Y 4 := by simp [cq]; omega
theorem cq4 {P Q X Y x y H : Int} (h1 : x ≤ P ∧ P < x + 2 * H) (h2 : y ≤ Q ∧ Q < y + 2 * H) (h3 : X = x + H) (h4 : Y = y + H) : cq P Q X Y 4 = 1 := by
  have : (P < X ∧ Q < Y) ∨ (X ≤ P ∧ Q < Y) ∨ (P < X ∧ Y ≤ Q) ∨ (X ≤ P ∧ Y ≤ Q) := by omega
  unfold cq
  rcases this with h | h | h | h <;> (repeat' split) <;> omega

set_option maxHeartbeats 8000000 in
theorem ok_fours : CallOK Try.prog 3 (heapSem [.v, .v, .v] stdA (gFours stdA)) := by
  refine callOK_heap (un := ⟨false, some [0,1,2,3,6,7,8,9,10,11,12,13,14,16,24,44,91,131,135,154]⟩) tok tL3fOK mixed (fn := Try.f3) (by kernel_rfl) (by kernel_rfl) (by kernel_rfl) (by decide +kernel) ?_
  intro w Wr args bs r hg ho hWr A L k hA hL hk
  obtain ⟨C, hC⟩ : ∃ C, C = stdC := ⟨_, rfl⟩
  obtain ⟨R, hR⟩ : ∃ R, R = stdR := ⟨_, rfl⟩
  obtain ⟨S, hS⟩ : ∃ S, S = stdW := ⟨_, rfl⟩
  obtain ⟨X, hX⟩ : ∃ X, X = stdX := ⟨_, rfl⟩
  (try rw [← hC])
  (try rw [← hR])
  (try rw [← hS])
  (try rw [← hX])
  (try rw [← hA])
  unfold gFours at hg
  split at hg
  rotate_left
  · cases hg
  simp only [Option.some.injEq] at hg
  subst hg
  rename_i x y s p q
  have p0 := (ho_cons ho).1; replace ho := (ho_cons ho).2
  have p1 := (ho_cons ho).1; replace ho := (ho_cons ho).2
  have q0 := (ho_cons ho).1; replace ho := (ho_cons ho).2
  have q1 := (ho_cons ho).1; replace ho := (ho_cons ho).2
  clear ho
  simp only [stdA, stdCmp, decide_eq_true_eq] at p0 p1 q0 q1
  refine runF_body rfl ?_
  with_reducible refine run_seq_cut fun kk hn hx => ?_
  cbv
  repeat' first | (with_reducible intro hb; cbv) | with_reducible refine And.intro ?_ ?_
  all_goals first | (with_reducible refine hn _ ?_; clear hn hx kk) | ((try subst hA); (try subst hS); (try subst hR); (try subst hX); (try subst hC); decide +kernel)
  with_reducible refine run_seq_cut fun kk hn hx => ?_
  cbv
  repeat' first | (with_reducible intro hb; cbv) | with_reducible refine And.intro ?_ ?_
  all_goals first | (with_reducible refine hn _ ?_; clear hn hx kk) | ((try subst hA); (try subst hS); (try subst hR); (try subst hX); (try subst hC); decide +kernel)
  with_reducible refine run_seq_cut fun kk hn hx => ?_
  cbv
  repeat' first | (with_reducible intro hb; cbv) | with_reducible refine And.intro ?_ ?_
  · with_reducible refine hx _ _ (by simp) ?_
    cbv
    exact hk _ _ (Good.pure rfl fun ρ => rfl)
  with_reducible refine hn _ ?_
  clear hn hx kk
  have hs : cIs x y s = true ∧ (s == 1) = false := by
    rw [hA, hC] at hb; exact or_ff hb
  clear hb
  with_reducible refine run_seq_cut fun kk hn hx => ?_
  cbv
  repeat' with_reducible refine And.intro ?_ ?_
  · subst hC; exact hs.1
  · subst hA; show (s != 1) = true; rw [bne, hs.2]; rfl
  obtain ⟨H, hH⟩ : ∃ H, H = A.bin .quo .i64 s 2 := ⟨_, rfl⟩
  obtain ⟨X1, hX1⟩ : ∃ X1, X1 = A.bin .add .i64 x H := ⟨_, rfl⟩
  obtain ⟨Y1, hY1⟩ : ∃ Y1, Y1 = A.bin .add .i64 y H := ⟨_, rfl⟩
  simp only [← hH, ← hX1, ← hY1]
  have F : Fours x y s H X1 Y1 := by rw [hX1, hY1, hH, hA]; exact fours_mk hs.1 (by simpa using hs.2)
  have aX : stdBin .add .i64 x H = X1 := by rw [hX1, hA]; rfl
  have aY : stdBin .add .i64 y H = Y1 := by rw [hY1, hA]; rfl
  have hp : 0 < H := by rcases F.hh with h | h | h | h | h | h <;> omega
  have aX2 : stdBin .add .i64 X1 H = x + 2 * H := by have := F.x1; have := F.x0; have := F.eX; simp only [stdBin, IntKind.wrap_i64]; omega
  have aY2 : stdBin .add .i64 Y1 H = y + 2 * H := by have := F.y1; have := F.y0; have := F.eY; simp only [stdBin, IntKind.wrap_i64]; omega
  clear hH hX1 hY1
  with_reducible refine hn _ ?_
  clear hn hx kk
  with_reducible refine run_seq_cut fun kk hn hx => ?_
  cbv
  repeat' with_reducible refine And.intro ?_ ?_
  · subst hA; show (s != 0) = true; have := cIs_bd hs.1; rw [bne_iff_ne]; omega
  · subst hA; show (s != 0) = true; have := cIs_bd hs.1; rw [bne_iff_ne]; omega
  obtain ⟨P, hP⟩ : ∃ P, P = A.bin .add .i64 x (A.bin .rem .i64 (A.wrap .i64 p) s) := ⟨_, rfl⟩
  obtain ⟨Q, hQ⟩ : ∃ Q, Q = A.bin .add .i64 y (A.bin .rem .i64 (A.wrap .i64 q) s) := ⟨_, rfl⟩
  simp only [← hP, ← hQ]
  have bP : x ≤ P ∧ P < x + 2 * H := in_part F.eh hp F.x0 F.x1 p0 p1 (by rw [hP, hA]; rfl)
  have bQ : y ≤ Q ∧ Q < y + 2 * H := in_part F.eh hp F.y0 F.y1 q0 q1 (by rw [hQ, hA]; rfl)
  clear hP hQ
  have eX := F.eX
  have eY := F.eY
  have nx : ¬ x = X1 := by omega
  have nx' : ¬ X1 = x := by omega
  have ny : ¬ y = Y1 := by omega
  have ny' : ¬ Y1 = y := by omega
  obtain ⟨c, hcq⟩ : ∃ c : Int → Int, c = cq P Q X1 Y1 := ⟨_, rfl⟩
  with_reducible refine hn _ ?_
  clear hn hx kk
  with_reducible refine run_seq_cut fun kk hn hx => ?_
  cbv
  with_reducible refine hn _ ?_
  clear hn hx kk
  with_reducible refine run_seq_cut fun kw hnw hxw => ?_
  with_reducible refine run_seq_cut fun kk hn hx => ?_
  cbv
  with_reducible refine hn _ ?_
  clear hn hx kk
  with_reducible refine run_block_cut fun kb nb eb xb rb => ?_
  cbv
  refine hL _ _ _ (loop_rule (un := ⟨false, some [0, 1, 2, 3, 6, 7, 8, 9, 10, 11, 12, 13, 14, 16, 24, 44, 91, 131, 135, 154]⟩) tok tL3fOK mixed (fun i : Int => ⟨[(11, ⟨[], .c (.s (.lit .i64 i))⟩), (10, ⟨[], .c (.s (.int .i64 (c i)))⟩), (7, ⟨[], .c (.s (.hp 1 0))⟩), (3, ⟨[], .c (.s (.hp 0 0))⟩), (8, ⟨[], .c (.s (.int .i64 P))⟩), (9, ⟨[], .c (.s (.int .i64 Q))⟩)], [(0, .fix true [.s (.int .i64 x), .s (.int .i64 y), .s (.int .i64 s)]), (1, .fix true [.s (.int .i64 x), .s (.int .i64 y), .s (.int .i64 H), .s (.int .i64 X1), .s (.int .i64 y), .s (.int .i64 H), .s (.int .i64 x), .s (.int .i64 Y1), .s (.int .i64 H), .s (.int .i64 X1), .s (.int .i64 Y1), .s (.int .i64 H)])], 2⟩)
    (fun i => i = 0 ∨ i = 1 ∨ i = 2 ∨ i = 3 ∨ i = 4) (fun i => (4 - i).toNat) 0 (.inl rfl) ?_ (fun _ i hi => absurd (hWr i hi) (by simp)) ?_)
  · have h0 : c 0 = 0 := by rw [hcq]; exact cq0
    rw [h0]
    exact ⟨⟨⟨rfl, rfl, fun _ => rfl⟩, ⟨rfl, rfl, fun _ => rfl⟩, ⟨rfl, rfl, fun _ => rfl⟩, ⟨rfl, rfl, fun _ => rfl⟩, ⟨rfl, rfl, fun _ => rfl⟩, ⟨rfl, rfl, fun _ => rfl⟩, trivial⟩, ⟨⟨rfl, rfl, fun _ => rfl⟩, ⟨rfl, rfl, fun _ => rfl⟩, trivial⟩, rfl, rfl⟩
  intro i hI A2 L2 k2 hA2 hL2 hnext hexit hret
  rw [← hA2, ← hC, ← hR, ← hS, ← hX]
  rcases hI with rfl | rfl | rfl | rfl | rfl
  · with_reducible refine run_seq_cut fun kk hn hx => ?_
    cbv
    with_reducible refine hn _ ?_
    clear hn hx kk
    with_reducible refine run_seq_cut fun ki hni hxi => ?_
    with_reducible refine run_block_cut fun k5 n5 e5 x5 r5 => ?_
    with_reducible refine run_seq_cut fun kk hn hx => ?_
    cbv
    with_reducible refine hn _ ?_
    clear hn hx kk
    with_reducible refine run_seq_cut fun kk hn hx => ?_
    with_reducible refine run_seq_cut fun kd hd hxd => ?_
    with_reducible refine Dr_run ?_
    with_reducible refine Dr_cut 20 fun P hP => ?_
    cbv
    with_reducible refine hP _ ?_
    clear hP P
    cbv
    with_reducible refine hd _ ?_
    clear hd hxd kd
    cbv
    repeat' first | (with_reducible intro hb; cbv) | with_reducible refine And.intro ?_ ?_
    · exfalso
      clear hL hk hnw hxw kw nb eb xb rb hL2 hexit hret hx hn hni hxi n5 e5 x5 r5 hnext
      subst hA2 hC
      have c1 : stdC.is x y H = true := F.cis (.inl rfl) (.inl rfl)
      obtain ⟨c2, c3, c4, c5⟩ := F.up (u := x) (v := y) (.inl rfl) (.inl rfl)
      have hk := F.key
      have hh := F.hpos
      have c6 : ¬ stdC.key x y H < stdC.key x y s := by omega
      simp [stdA, stdCmp, c1, c2, c3, c4, c5, c6] at hb
    with_reducible refine hn _ ?_
    clear hn hx kk hb
    with_reducible refine run_seq_cut fun kk hn hx => ?_
    with_reducible refine run_seq_cut fun kd hd hxd => ?_
    with_reducible refine Dr_run ?_
    with_reducible refine Dr_cut 20 fun P hP => ?_
    cbv
    with_reducible refine hP _ ?_
    clear hP P
    cbv
    with_reducible refine hd _ ?_
    clear hd hxd kd
    cbv
    repeat' first | (with_reducible intro hb; cbv) | with_reducible refine And.intro ?_ ?_
    · with_reducible refine hn _ ?_
      clear hn hx kk
      have hc : (P < X1 ∧ Q < Y1) := by
        clear hL hk hnw hxw kw nb eb xb rb hL2 hexit hret hni hxi n5 e5 x5 r5 hnext
        subst hA2
        simp [stdA, stdCmp, aX, aY, aX2, aY2] at hb
        omega
      clear hb
      with_reducible refine run_seq_cut fun kk hn hx => ?_
      cbv
      with_reducible refine hn _ ?_
      clear hn hx kk
      with_reducible refine run_block_cut fun kc nc ec xc rc => ?_
      cbv
      refine hL2 _ _ _ (loop_rule (un := ⟨false, some [0, 1, 2, 3, 6, 7, 8, 9, 10, 11, 12, 13, 14, 16, 24, 44, 91, 131, 135, 154]⟩) tok tL3fOK mixed (fun k : Int => ⟨[(14, ⟨[], .c (.s (.lit .i64 k))⟩), (11, ⟨[], .c (.s (.lit .i64 0))⟩), (10, ⟨[], .c (.s (.int .i64 (c 1)))⟩), (7, ⟨[], .c (.s (.hp 1 0))⟩), (3, ⟨[], .c (.s (.hp 0 0))⟩), (8, ⟨[], .c (.s (.int .i64 P))⟩), (9, ⟨[], .c (.s (.int .i64 Q))⟩)], [(0, .fix true [.s (.int .i64 x), .s (.int .i64 y), .s (.int .i64 s)]), (1, .fix true [.s (.int .i64 x), .s (.int .i64 y), .s (.int .i64 H), .s (.int .i64 X1), .s (.int .i64 y), .s (.int .i64 H), .s (.int .i64 x), .s (.int .i64 Y1), .s (.int .i64 H), .s (.int .i64 X1), .s (.int .i64 Y1), .s (.int .i64 H)])], 2⟩)
        (fun k => k = 0 ∨ k = 1 ∨ k = 2 ∨ k = 3 ∨ k = 4) (fun k => (4 - k).toNat) 0 (.inl rfl) ?_ (fun _ i hi => absurd (hWr i hi) (by simp)) ?_)
      · have hq : A2.bin .add .i64 (c 0) 1 = c 1 := by subst hA2 hcq; exact cqt0 hc
        exact ⟨⟨⟨rfl, rfl, fun _ => rfl⟩, ⟨rfl, rfl, fun _ => rfl⟩, ⟨rfl, rfl, fun _ => congrArg (Value.int .i64) hq⟩, ⟨rfl, rfl, fun _ => rfl⟩, ⟨rfl, rfl, fun _ => rfl⟩, ⟨rfl, rfl, fun _ => rfl⟩, ⟨rfl, rfl, fun _ => rfl⟩, trivial⟩, ⟨⟨rfl, rfl, fun _ => rfl⟩, ⟨rfl, rfl, fun _ => rfl⟩, trivial⟩, rfl, rfl⟩
      intro k hI A3 L3 k3 hA3 hL3 hnext3 hexit3 hret3
      rw [← hA3, ← hC, ← hR, ← hS, ← hX]
      rcases hI with rfl | rfl | rfl | rfl | rfl
      · with_reducible refine run_seq_cut fun kk hn hx => ?_
        cbv
        with_reducible refine hn _ ?_
        clear hn hx kk
        with_reducible refine run_seq_cut fun kk hn hx => ?_
        cbv
        repeat' first | (with_reducible intro hb; cbv) | with_reducible refine And.intro ?_ ?_
        · exfalso
          clear hL hk hnw hxw kw nb eb xb rb hL2 hexit hret hx hn hni hxi n5 e5 x5 r5 hnext nc ec xc rc hL3 hnext3 hexit3 hret3
          subst hA3 hC
          have c1 := F.bes (u := x) (v := y) (u' := x) (v' := y) (.inl rfl) (.inl rfl) (.inl rfl) (.inl rfl)
          simp [nx, nx', ny, ny'] at c1
          simp [stdA, stdCmp, c1] at hb
        with_reducible refine hn _ ?_
        clear hn hx kk hb
        cbv
        exact hnext3 _ 1 (by omega) (by decide) ⟨⟨⟨rfl, rfl, fun _ => rfl⟩, ⟨rfl, rfl, fun _ => rfl⟩, ⟨rfl, rfl, fun _ => rfl⟩, ⟨rfl, rfl, fun _ => rfl⟩, ⟨rfl, rfl, fun _ => rfl⟩, ⟨rfl, rfl, fun _ => rfl⟩, ⟨rfl, rfl, fun _ => rfl⟩, trivial⟩, ⟨⟨rfl, rfl, fun _ => rfl⟩, ⟨rfl, rfl, fun _ => rfl⟩, trivial⟩, rfl, rfl⟩
      · with_reducible refine run_seq_cut fun kk hn hx => ?_
        cbv
        with_reducible refine hn _ ?_
        clear hn hx kk
        with_reducible refine run_seq_cut fun kk hn hx => ?_
        cbv
        repeat' first | (with_reducible intro hb; cbv) | with_reducible refine And.intro ?_ ?_
        · exfalso
          clear hL hk hnw hxw kw nb eb xb rb hL2 hexit hret hx hn hni hxi n5 e5 x5 r5 hnext nc ec xc rc hL3 hnext3 hexit3 hret3
          subst hA3 hC
          have c1 := F.bes (u := x) (v := y) (u' := X1) (v' := y) (.inl rfl) (.inl rfl) (.inr rfl) (.inl rfl)
          simp [nx, nx', ny, ny'] at c1
          simp [stdA, stdCmp, c1] at hb
        with_reducible refine hn _ ?_
        clear hn hx kk hb
        cbv
        exact hnext3 _ 2 (by omega) (by decide) ⟨⟨⟨rfl, rfl, fun _ => rfl⟩, ⟨rfl, rfl, fun _ => rfl⟩, ⟨rfl, rfl, fun _ => rfl⟩, ⟨rfl, rfl, fun _ => rfl⟩, ⟨rfl, rfl, fun _ => rfl⟩, ⟨rfl, rfl, fun _ => rfl⟩, ⟨rfl, rfl, fun _ => rfl⟩, trivial⟩, ⟨⟨rfl, rfl, fun _ => rfl⟩, ⟨rfl, rfl, fun _ => rfl⟩, trivial⟩, rfl, rfl⟩
      · with_reducible refine run_seq_cut fun kk hn hx => ?_
        cbv
        with_reducible refine hn _ ?_
        clear hn hx kk
        with_reducible refine run_seq_cut fun kk hn hx => ?_
        cbv
        repeat' first | (with_reducible intro hb; cbv) | with_reducible refine And.intro ?_ ?_
        · exfalso
          clear hL hk hnw hxw kw nb eb xb rb hL2 hexit hret hx hn hni hxi n5 e5 x5 r5 hnext nc ec xc rc hL3 hnext3 hexit3 hret3
          subst hA3 hC
          have c1 := F.bes (u := x) (v := y) (u' := x) (v' := Y1) (.inl rfl) (.inl rfl) (.inl rfl) (.inr rfl)
          simp [nx, nx', ny, ny'] at c1
          simp [stdA, stdCmp, c1] at hb
        with_reducible refine hn _ ?_
        clear hn hx kk hb
        cbv
        exact hnext3 _ 3 (by omega) (by decide) ⟨⟨⟨rfl, rfl, fun _ => rfl⟩, ⟨rfl, rfl, fun _ => rfl⟩, ⟨rfl, rfl, fun _ => rfl⟩, ⟨rfl, rfl, fun _ => rfl⟩, ⟨rfl, rfl, fun _ => rfl⟩, ⟨rfl, rfl, fun _ => rfl⟩, ⟨rfl, rfl, fun _ => rfl⟩, trivial⟩, ⟨⟨rfl, rfl, fun _ => rfl⟩, ⟨rfl, rfl, fun _ => rfl⟩, trivial⟩, rfl, rfl⟩
      · with_reducible refine run_seq_cut fun kk hn hx => ?_
        cbv
        with_reducible refine hn _ ?_
        clear hn hx kk
        with_reducible refine run_seq_cut fun kk hn hx => ?_
        cbv
        repeat' first | (with_reducible intro hb; cbv) | with_reducible refine And.intro ?_ ?_
        · exfalso
          clear hL hk hnw hxw kw nb eb xb rb hL2 hexit hret hx hn hni hxi n5 e5 x5 r5 hnext nc ec xc rc hL3 hnext3 hexit3 hret3
          subst hA3 hC
          have c1 := F.bes (u := x) (v := y) (u' := X1) (v' := Y1) (.inl rfl) (.inl rfl) (.inr rfl) (.inr rfl)
          simp [nx, nx', ny, ny'] at c1
          simp [stdA, stdCmp, c1] at hb
        with_reducible refine hn _ ?_
        clear hn hx kk hb
        cbv
        exact hnext3 _ 4 (by omega) (by decide) ⟨⟨⟨rfl, rfl, fun _ => rfl⟩, ⟨rfl, rfl, fun _ => rfl⟩, ⟨rfl, rfl, fun _ => rfl⟩, ⟨rfl, rfl, fun _ => rfl⟩, ⟨rfl, rfl, fun _ => rfl⟩, ⟨rfl, rfl, fun _ => rfl⟩, ⟨rfl, rfl, fun _ => rfl⟩, trivial⟩, ⟨⟨rfl, rfl, fun _ => rfl⟩, ⟨rfl, rfl, fun _ => rfl⟩, trivial⟩, rfl, rfl⟩
      · with_reducible refine run_seq_cut fun kk hn hx => ?_
        cbv
        with_reducible refine hx _ _ (by simp) ?_
        with_reducible refine hexit3 _ _ ?_
        with_reducible refine ec _ ?_
        with_reducible refine n5 _ ?_
        with_reducible refine hni _ ?_
        clear hn hx kk hnext3 hexit3 hret3 nc ec xc rc n5 e5 x5 r5 hni hxi
        cbv
        exact hnext _ 1 (by omega) (by decide) ⟨⟨⟨rfl, rfl, fun _ => rfl⟩, ⟨rfl, rfl, fun _ => rfl⟩, ⟨rfl, rfl, fun _ => rfl⟩, ⟨rfl, rfl, fun _ => rfl⟩, ⟨rfl, rfl, fun _ => rfl⟩, ⟨rfl, rfl, fun _ => rfl⟩, trivial⟩, ⟨⟨rfl, rfl, fun _ => rfl⟩, ⟨rfl, rfl, fun _ => rfl⟩, trivial⟩, rfl, rfl⟩
    · with_reducible refine hn _ ?_
      clear hn hx kk
      have hc : ¬ (P < X1 ∧ Q < Y1) := by
        clear hL hk hnw hxw kw nb eb xb rb hL2 hexit hret hni hxi n5 e5 x5 r5 hnext
        subst hA2
        simp [stdA, stdCmp, aX, aY, aX2, aY2] at hb
        omega
      clear hb
      with_reducible refine run_seq_cut fun kk hn hx => ?_
      cbv
      with_reducible refine hn _ ?_
      clear hn hx kk
      with_reducible refine run_block_cut fun kc nc ec xc rc => ?_
      cbv
      refine hL2 _ _ _ (loop_rule (un := ⟨false, some [0, 1, 2, 3, 6, 7, 8, 9, 10, 11, 12, 13, 14, 16, 24, 44, 91, 131, 135, 154]⟩) tok tL3fOK mixed (fun k : Int => ⟨[(14, ⟨[], .c (.s (.lit .i64 k))⟩), (11, ⟨[], .c (.s (.lit .i64 0))⟩), (10, ⟨[], .c (.s (.int .i64 (c 1)))⟩), (7, ⟨[], .c (.s (.hp 1 0))⟩), (3, ⟨[], .c (.s (.hp 0 0))⟩), (8, ⟨[], .c (.s (.int .i64 P))⟩), (9, ⟨[], .c (.s (.int .i64 Q))⟩)], [(0, .fix true [.s (.int .i64 x), .s (.int .i64 y), .s (.int .i64 s)]), (1, .fix true [.s (.int .i64 x), .s (.int .i64 y), .s (.int .i64 H), .s (.int .i64 X1), .s (.int .i64 y), .s (.int .i64 H), .s (.int .i64 x), .s (.int .i64 Y1), .s (.int .i64 H), .s (.int .i64 X1), .s (.int .i64 Y1), .s (.int .i64 H)])], 2⟩)
        (fun k => k = 0 ∨ k = 1 ∨ k = 2 ∨ k = 3 ∨ k = 4) (fun k => (4 - k).toNat) 0 (.inl rfl) ?_ (fun _ i hi => absurd (hWr i hi) (by simp)) ?_)
      · have hq : c 0 = c 1 := by rw [hcq]; exact cqf0 hc
        rw [hq]
        exact ⟨⟨⟨rfl, rfl, fun _ => rfl⟩, ⟨rfl, rfl, fun _ => rfl⟩, ⟨rfl, rfl, fun _ => rfl⟩, ⟨rfl, rfl, fun _ => rfl⟩, ⟨rfl, rfl, fun _ => rfl⟩, ⟨rfl, rfl, fun _ => rfl⟩, ⟨rfl, rfl, fun _ => rfl⟩, trivial⟩, ⟨⟨rfl, rfl, fun _ => rfl⟩, ⟨rfl, rfl, fun _ => rfl⟩, trivial⟩, rfl, rfl⟩
      intro k hI A3 L3 k3 hA3 hL3 hnext3 hexit3 hret3
      rw [← hA3, ← hC, ← hR, ← hS, ← hX]
      rcases hI with rfl | rfl | rfl | rfl | rfl
      · with_reducible refine run_seq_cut fun kk hn hx => ?_
        cbv
        with_reducible refine hn _ ?_
        clear hn hx kk
        with_reducible refine run_seq_cut fun kk hn hx => ?_
        cbv
        repeat' first | (with_reducible intro hb; cbv) | with_reducible refine And.intro ?_ ?_
        · exfalso
          clear hL hk hnw hxw kw nb eb xb rb hL2 hexit hret hx hn hni hxi n5 e5 x5 r5 hnext nc ec xc rc hL3 hnext3 hexit3 hret3
          subst hA3 hC
          have c1 := F.bes (u := x) (v := y) (u' := x) (v' := y) (.inl rfl) (.inl rfl) (.inl rfl) (.inl rfl)
          simp [nx, nx', ny, ny'] at c1
          simp [stdA, stdCmp, c1] at hb
        with_reducible refine hn _ ?_
        clear hn hx kk hb
        cbv
        exact hnext3 _ 1 (by omega) (by decide) ⟨⟨⟨rfl, rfl, fun _ => rfl⟩, ⟨rfl, rfl, fun _ => rfl⟩, ⟨rfl, rfl, fun _ => rfl⟩, ⟨rfl, rfl, fun _ => rfl⟩, ⟨rfl, rfl, fun _ => rfl⟩, ⟨rfl, rfl, fun _ => rfl⟩, ⟨rfl, rfl, fun _ => rfl⟩, trivial⟩, ⟨⟨rfl, rfl, fun _ => rfl⟩, ⟨rfl, rfl, fun _ => rfl⟩, trivial⟩, rfl, rfl⟩
      · with_reducible refine run_seq_cut fun kk hn hx => ?_
        cbv
        with_reducible refine hn _ ?_
        clear hn hx kk
        with_reducible refine run_seq_cut fun kk hn hx => ?_
        cbv
        repeat' first | (with_reducible intro hb; cbv) | with_reducible refine And.intro ?_ ?_
        · exfalso
          clear hL hk hnw hxw kw nb eb xb rb hL2 hexit hret hx hn hni hxi n5 e5 x5 r5 hnext nc ec xc rc hL3 hnext3 hexit3 hret3
          subst hA3 hC
          have c1 := F.bes (u := x) (v := y) (u' := X1) (v' := y) (.inl rfl) (.inl rfl) (.inr rfl) (.inl rfl)
          simp [nx, nx', ny, ny'] at c1
          simp [stdA, stdCmp, c1] at hb
        with_reducible refine hn _ ?_
        clear hn hx kk hb
        cbv
        exact hnext3 _ 2 (by omega) (by decide) ⟨⟨⟨rfl, rfl, fun _ => rfl⟩, ⟨rfl, rfl, fun _ => rfl⟩, ⟨rfl, rfl, fun _ => rfl⟩, ⟨rfl, rfl, fun _ => rfl⟩, ⟨rfl, rfl, fun _ => rfl⟩, ⟨rfl, rfl, fun _ => rfl⟩, ⟨rfl, rfl, fun _ => rfl⟩, trivial⟩, ⟨⟨rfl, rfl, fun _ => rfl⟩, ⟨rfl, rfl, fun _ => rfl⟩, trivial⟩, rfl, rfl⟩
      · with_reducible refine run_seq_cut fun kk hn hx => ?_
        cbv
        with_reducible refine hn _ ?_
        clear hn hx kk
        with_reducible refine run_seq_cut fun kk hn hx => ?_
        cbv
        repeat' first | (with_reducible intro hb; cbv) | with_reducible refine And.intro ?_ ?_
        · exfalso
          clear hL hk hnw hxw kw nb eb xb rb hL2 hexit hret hx hn hni hxi n5 e5 x5 r5 hnext nc ec xc rc hL3 hnext3 hexit3 hret3
          subst hA3 hC
          have c1 := F.bes (u := x) (v := y) (u' := x) (v' := Y1) (.inl rfl) (.inl rfl) (.inl rfl) (.inr rfl)
          simp [nx, nx', ny, ny'] at c1
          simp [stdA, stdCmp, c1] at hb
        with_reducible refine hn _ ?_
        clear hn hx kk hb
        cbv
        exact hnext3 _ 3 (by omega) (by decide) ⟨⟨⟨rfl, rfl, fun _ => rfl⟩, ⟨rfl, rfl, fun _ => rfl⟩, ⟨rfl, rfl, fun _ => rfl⟩, ⟨rfl, rfl, fun _ => rfl⟩, ⟨rfl, rfl, fun _ => rfl⟩, ⟨rfl, rfl, fun _ => rfl⟩, ⟨rfl, rfl, fun _ => rfl⟩, trivial⟩, ⟨⟨rfl, rfl, fun _ => rfl⟩, ⟨rfl, rfl, fun _ => rfl⟩, trivial⟩, rfl, rfl⟩
      · with_reducible refine run_seq_cut fun kk hn hx => ?_
        cbv
        with_reducible refine hn _ ?_
        clear hn hx kk
        with_reducible refine run_seq_cut fun kk hn hx => ?_
        cbv
        repeat' first | (with_reducible intro hb; cbv) | with_reducible refine And.intro ?_ ?_
        · exfalso
          clear hL hk hnw hxw kw nb eb xb rb hL2 hexit hret hx hn hni hxi n5 e5 x5 r5 hnext nc ec xc rc hL3 hnext3 hexit3 hret3
          subst hA3 hC
          have c1 := F.bes (u := x) (v := y) (u' := X1) (v' := Y1) (.inl rfl) (.inl rfl) (.inr rfl) (.inr rfl)
          simp [nx, nx', ny, ny'] at c1
          simp [stdA, stdCmp, c1] at hb
        with_reducible refine hn _ ?_
        clear hn hx kk hb
        cbv
        exact hnext3 _ 4 (by omega) (by decide) ⟨⟨⟨rfl, rfl, fun _ => rfl⟩, ⟨rfl, rfl, fun _ => rfl⟩, ⟨rfl, rfl, fun _ => rfl⟩, ⟨rfl, rfl, fun _ => rfl⟩, ⟨rfl, rfl, fun _ => rfl⟩, ⟨rfl, rfl, fun _ => rfl⟩, ⟨rfl, rfl, fun _ => rfl⟩, trivial⟩, ⟨⟨rfl, rfl, fun _ => rfl⟩, ⟨rfl, rfl, fun _ => rfl⟩, trivial⟩, rfl, rfl⟩
      · with_reducible refine run_seq_cut fun kk hn hx => ?_
        cbv
        with_reducible refine hx _ _ (by simp) ?_
        with_reducible refine hexit3 _ _ ?_
        with_reducible refine ec _ ?_
        with_reducible refine n5 _ ?_
        with_reducible refine hni _ ?_
        clear hn hx kk hnext3 hexit3 hret3 nc ec xc rc n5 e5 x5 r5 hni hxi
        cbv
        exact hnext _ 1 (by omega) (by decide) ⟨⟨⟨rfl, rfl, fun _ => rfl⟩, ⟨rfl, rfl, fun _ => rfl⟩, ⟨rfl, rfl, fun _ => rfl⟩, ⟨rfl, rfl, fun _ => rfl⟩, ⟨rfl, rfl, fun _ => rfl⟩, ⟨rfl, rfl, fun _ => rfl⟩, trivial⟩, ⟨⟨rfl, rfl, fun _ => rfl⟩, ⟨rfl, rfl, fun _ => rfl⟩, trivial⟩, rfl, rfl⟩
  · with_reducible refine run_seq_cut fun kk hn hx => ?_
    cbv
    with_reducible refine hn _ ?_
    clear hn hx kk
    with_reducible refine run_seq_cut fun ki hni hxi => ?_
    with_reducible refine run_block_cut fun k5 n5 e5 x5 r5 => ?_
    with_reducible refine run_seq_cut fun kk hn hx => ?_
    cbv
    with_reducible refine hn _ ?_
    clear hn hx kk
    with_reducible refine run_seq_cut fun kk hn hx => ?_
    with_reducible refine run_seq_cut fun kd hd hxd => ?_
    with_reducible refine Dr_run ?_
    with_reducible refine Dr_cut 20 fun P hP => ?_
    cbv
    with_reducible refine hP _ ?_
    clear hP P
    cbv
    with_reducible refine hd _ ?_
    clear hd hxd kd
    cbv
    repeat' first | (with_reducible intro hb; cbv) | with_reducible refine And.intro ?_ ?_
    · exfalso
      clear hL hk hnw hxw kw nb eb xb rb hL2 hexit hret hx hn hni hxi n5 e5 x5 r5 hnext
      subst hA2 hC
      have c1 : stdC.is X1 y H = true := F.cis (.inr rfl) (.inl rfl)
      obtain ⟨c2, c3, c4, c5⟩ := F.up (u := X1) (v := y) (.inr rfl) (.inl rfl)
      have hk := F.key
      have hh := F.hpos
      have c6 : ¬ stdC.key X1 y H < stdC.key x y s := by omega
      have c7 : stdC.cmp x y H X1 y H = -1 := Fours.cmp_lt (by omega)
      simp [stdA, stdCmp, c1, c2, c3, c4, c5, c6, c7] at hb
    with_reducible refine hn _ ?_
    clear hn hx kk hb
    with_reducible refine run_seq_cut fun kk hn hx => ?_
    with_reducible refine run_seq_cut fun kd hd hxd => ?_
    with_reducible refine Dr_run ?_
    with_reducible refine Dr_cut 20 fun P hP => ?_
    cbv
    with_reducible refine hP _ ?_
    clear hP P
    cbv
    with_reducible refine hd _ ?_
    clear hd hxd kd
    cbv
    repeat' first | (with_reducible intro hb; cbv) | with_reducible refine And.intro ?_ ?_
    · with_reducible refine hn _ ?_
      clear hn hx kk
      have hc : (X1 ≤ P ∧ Q < Y1) := by
        clear hL hk hnw hxw kw nb eb xb rb hL2 hexit hret hni hxi n5 e5 x5 r5 hnext
        subst hA2
        simp [stdA, stdCmp, aX, aY, aX2, aY2] at hb
        omega
      clear hb
      with_reducible refine run_seq_cut fun kk hn hx => ?_
      cbv
      with_reducible refine hn _ ?_
      clear hn hx kk
      with_reducible refine run_block_cut fun kc nc ec xc rc => ?_
      cbv
      refine hL2 _ _ _ (loop_rule (un := ⟨false, some [0, 1, 2, 3, 6, 7, 8, 9, 10, 11, 12, 13, 14, 16, 24, 44, 91, 131, 135, 154]⟩) tok tL3fOK mixed (fun k : Int => ⟨[(14, ⟨[], .c (.s (.lit .i64 k))⟩), (11, ⟨[], .c (.s (.lit .i64 1))⟩), (10, ⟨[], .c (.s (.int .i64 (c 2)))⟩), (7, ⟨[], .c (.s (.hp 1 0))⟩), (3, ⟨[], .c (.s (.hp 0 0))⟩), (8, ⟨[], .c (.s (.int .i64 P))⟩), (9, ⟨[], .c (.s (.int .i64 Q))⟩)], [(0, .fix true [.s (.int .i64 x), .s (.int .i64 y), .s (.int .i64 s)]), (1, .fix true [.s (.int .i64 x), .s (.int .i64 y), .s (.int .i64 H), .s (.int .i64 X1), .s (.int .i64 y), .s (.int .i64 H), .s (.int .i64 x), .s (.int .i64 Y1), .s (.int .i64 H), .s (.int .i64 X1), .s (.int .i64 Y1), .s (.int .i64 H)])], 2⟩)
        (fun k => k = 0 ∨ k = 1 ∨ k = 2 ∨ k = 3 ∨ k = 4) (fun k => (4 - k).toNat) 0 (.inl rfl) ?_ (fun _ i hi => absurd (hWr i hi) (by simp)) ?_)
      · have hq : A2.bin .add .i64 (c 1) 1 = c 2 := by subst hA2 hcq; exact cqt1 hc
        exact ⟨⟨⟨rfl, rfl, fun _ => rfl⟩, ⟨rfl, rfl, fun _ => rfl⟩, ⟨rfl, rfl, fun _ => congrArg (Value.int .i64) hq⟩, ⟨rfl, rfl, fun _ => rfl⟩, ⟨rfl, rfl, fun _ => rfl⟩, ⟨rfl, rfl, fun _ => rfl⟩, ⟨rfl, rfl, fun _ => rfl⟩, trivial⟩, ⟨⟨rfl, rfl, fun _ => rfl⟩, ⟨rfl, rfl, fun _ => rfl⟩, trivial⟩, rfl, rfl⟩
      intro k hI A3 L3 k3 hA3 hL3 hnext3 hexit3 hret3
      rw [← hA3, ← hC, ← hR, ← hS, ← hX]
      rcases hI with rfl | rfl | rfl | rfl | rfl
      · with_reducible refine run_seq_cut fun kk hn hx => ?_
        cbv
        with_reducible refine hn _ ?_
        clear hn hx kk
        with_reducible refine run_seq_cut fun kk hn hx => ?_
        cbv
        repeat' first | (with_reducible intro hb; cbv) | with_reducible refine And.intro ?_ ?_
        · exfalso
          clear hL hk hnw hxw kw nb eb xb rb hL2 hexit hret hx hn hni hxi n5 e5 x5 r5 hnext nc ec xc rc hL3 hnext3 hexit3 hret3
          subst hA3 hC
          have c1 := F.bes (u := X1) (v := y) (u' := x) (v' := y) (.inr rfl) (.inl rfl) (.inl rfl) (.inl rfl)
          simp [nx, nx', ny, ny'] at c1
          simp [stdA, stdCmp, c1] at hb
        with_reducible refine hn _ ?_
        clear hn hx kk hb
        cbv
        exact hnext3 _ 1 (by omega) (by decide) ⟨⟨⟨rfl, rfl, fun _ => rfl⟩, ⟨rfl, rfl, fun _ => rfl⟩, ⟨rfl, rfl, fun _ => rfl⟩, ⟨rfl, rfl, fun _ => rfl⟩, ⟨rfl, rfl, fun _ => rfl⟩, ⟨rfl, rfl, fun _ => rfl⟩, ⟨rfl, rfl, fun _ => rfl⟩, trivial⟩, ⟨⟨rfl, rfl, fun _ => rfl⟩, ⟨rfl, rfl, fun _ => rfl⟩, trivial⟩, rfl, rfl⟩
      · with_reducible refine run_seq_cut fun kk hn hx => ?_
        cbv
        with_reducible refine hn _ ?_
        clear hn hx kk
        with_reducible refine run_seq_cut fun kk hn hx => ?_
        cbv
        repeat' first | (with_reducible intro hb; cbv) | with_reducible refine And.intro ?_ ?_
        · exfalso
          clear hL hk hnw hxw kw nb eb xb rb hL2 hexit hret hx hn hni hxi n5 e5 x5 r5 hnext nc ec xc rc hL3 hnext3 hexit3 hret3
          subst hA3 hC
          have c1 := F.bes (u := X1) (v := y) (u' := X1) (v' := y) (.inr rfl) (.inl rfl) (.inr rfl) (.inl rfl)
          simp [nx, nx', ny, ny'] at c1
          simp [stdA, stdCmp, c1] at hb
        with_reducible refine hn _ ?_
        clear hn hx kk hb
        cbv
        exact hnext3 _ 2 (by omega) (by decide) ⟨⟨⟨rfl, rfl, fun _ => rfl⟩, ⟨rfl, rfl, fun _ => rfl⟩, ⟨rfl, rfl, fun _ => rfl⟩, ⟨rfl, rfl, fun _ => rfl⟩, ⟨rfl, rfl, fun _ => rfl⟩, ⟨rfl, rfl, fun _ => rfl⟩, ⟨rfl, rfl, fun _ => rfl⟩, trivial⟩, ⟨⟨rfl, rfl, fun _ => rfl⟩, ⟨rfl, rfl, fun _ => rfl⟩, trivial⟩, rfl, rfl⟩
      · with_reducible refine run_seq_cut fun kk hn hx => ?_
        cbv
        with_reducible refine hn _ ?_
        clear hn hx kk
        with_reducible refine run_seq_cut fun kk hn hx => ?_
        cbv
        repeat' first | (with_reducible intro hb; cbv) | with_reducible refine And.intro ?_ ?_
        · exfalso
          clear hL hk hnw hxw kw nb eb xb rb hL2 hexit hret hx hn hni hxi n5 e5 x5 r5 hnext nc ec xc rc hL3 hnext3 hexit3 hret3
          subst hA3 hC
          have c1 := F.bes (u := X1) (v := y) (u' := x) (v' := Y1) (.inr rfl) (.inl rfl) (.inl rfl) (.inr rfl)
          simp [nx, nx', ny, ny'] at c1
          simp [stdA, stdCmp, c1] at hb
        with_reducible refine hn _ ?_
        clear hn hx kk hb
        cbv
        exact hnext3 _ 3 (by omega) (by decide) ⟨⟨⟨rfl, rfl, fun _ => rfl⟩, ⟨rfl, rfl, fun _ => rfl⟩, ⟨rfl, rfl, fun _ => rfl⟩, ⟨rfl, rfl, fun _ => rfl⟩, ⟨rfl, rfl, fun _ => rfl⟩, ⟨rfl, rfl, fun _ => rfl⟩, ⟨rfl, rfl, fun _ => rfl⟩, trivial⟩, ⟨⟨rfl, rfl, fun _ => rfl⟩, ⟨rfl, rfl, fun _ => rfl⟩, trivial⟩, rfl, rfl⟩
      · with_reducible refine run_seq_cut fun kk hn hx => ?_
        cbv
        with_reducible refine hn _ ?_
        clear hn hx kk
        with_reducible refine run_seq_cut fun kk hn hx => ?_
        cbv
        repeat' first | (with_reducible intro hb; cbv) | with_reducible refine And.intro ?_ ?_
        · exfalso
          clear hL hk hnw hxw kw nb eb xb rb hL2 hexit hret hx hn hni hxi n5 e5 x5 r5 hnext nc ec xc rc hL3 hnext3 hexit3 hret3
          subst hA3 hC
          have c1 := F.bes (u := X1) (v := y) (u' := X1) (v' := Y1) (.inr rfl) (.inl rfl) (.inr rfl) (.inr rfl)
          simp [nx, nx', ny, ny'] at c1
          simp [stdA, stdCmp, c1] at hb
        with_reducible refine hn _ ?_
        clear hn hx kk hb
        cbv
        exact hnext3 _ 4 (by omega) (by decide) ⟨⟨⟨rfl, rfl, fun _ => rfl⟩, ⟨rfl, rfl, fun _ => rfl⟩, ⟨rfl, rfl, fun _ => rfl⟩, ⟨rfl, rfl, fun _ => rfl⟩, ⟨rfl, rfl, fun _ => rfl⟩, ⟨rfl, rfl, fun _ => rfl⟩, ⟨rfl, rfl, fun _ => rfl⟩, trivial⟩, ⟨⟨rfl, rfl, fun _ => rfl⟩, ⟨rfl, rfl, fun _ => rfl⟩, trivial⟩, rfl, rfl⟩
      · with_reducible refine run_seq_cut fun kk hn hx => ?_
        cbv
        with_reducible refine hx _ _ (by simp) ?_
        with_reducible refine hexit3 _ _ ?_
        with_reducible refine ec _ ?_
        with_reducible refine n5 _ ?_
        with_reducible refine hni _ ?_
        clear hn hx kk hnext3 hexit3 hret3 nc ec xc rc n5 e5 x5 r5 hni hxi
        cbv
        exact hnext _ 2 (by omega) (by decide) ⟨⟨⟨rfl, rfl, fun _ => rfl⟩, ⟨rfl, rfl, fun _ => rfl⟩, ⟨rfl, rfl, fun _ => rfl⟩, ⟨rfl, rfl, fun _ => rfl⟩, ⟨rfl, rfl, fun _ => rfl⟩, ⟨rfl, rfl, fun _ => rfl⟩, trivial⟩, ⟨⟨rfl, rfl, fun _ => rfl⟩, ⟨rfl, rfl, fun _ => rfl⟩, trivial⟩, rfl, rfl⟩
    · with_reducible refine hn _ ?_
      clear hn hx kk
      have hc : ¬ (X1 ≤ P ∧ Q < Y1) := by
        clear hL hk hnw hxw kw nb eb xb rb hL2 hexit hret hni hxi n5 e5 x5 r5 hnext
        subst hA2
        simp [stdA, stdCmp, aX, aY, aX2, aY2] at hb
        omega
      clear hb
      with_reducible refine run_seq_cut fun kk hn hx => ?_
      cbv
      with_reducible refine hn _ ?_
      clear hn hx kk
      with_reducible refine run_block_cut fun kc nc ec xc rc => ?_
      cbv
      refine hL2 _ _ _ (loop_rule (un := ⟨false, some [0, 1, 2, 3, 6, 7, 8, 9, 10, 11, 12, 13, 14, 16, 24, 44, 91, 131, 135, 154]⟩) tok tL3fOK mixed (fun k : Int => ⟨[(14, ⟨[], .c (.s (.lit .i64 k))⟩), (11, ⟨[], .c (.s (.lit .i64 1))⟩), (10, ⟨[], .c (.s (.int .i64 (c 2)))⟩), (7, ⟨[], .c (.s (.hp 1 0))⟩), (3, ⟨[], .c (.s (.hp 0 0))⟩), (8, ⟨[], .c (.s (.int .i64 P))⟩), (9, ⟨[], .c (.s (.int .i64 Q))⟩)], [(0, .fix true [.s (.int .i64 x), .s (.int .i64 y), .s (.int .i64 s)]), (1, .fix true [.s (.int .i64 x), .s (.int .i64 y), .s (.int .i64 H), .s (.int .i64 X1), .s (.int .i64 y), .s (.int .i64 H), .s (.int .i64 x), .s (.int .i64 Y1), .s (.int .i64 H), .s (.int .i64 X1), .s (.int .i64 Y1), .s (.int .i64 H)])], 2⟩)
        (fun k => k = 0 ∨ k = 1 ∨ k = 2 ∨ k = 3 ∨ k = 4) (fun k => (4 - k).toNat) 0 (.inl rfl) ?_ (fun _ i hi => absurd (hWr i hi) (by simp)) ?_)
      · have hq : c 1 = c 2 := by rw [hcq]; exact cqf1 hc
        rw [hq]
        exact ⟨⟨⟨rfl, rfl, fun _ => rfl⟩, ⟨rfl, rfl, fun _ => rfl⟩, ⟨rfl, rfl, fun _ => rfl⟩, ⟨rfl, rfl, fun _ => rfl⟩, ⟨rfl, rfl, fun _ => rfl⟩, ⟨rfl, rfl, fun _ => rfl⟩, ⟨rfl, rfl, fun _ => rfl⟩, trivial⟩, ⟨⟨rfl, rfl, fun _ => rfl⟩, ⟨rfl, rfl, fun _ => rfl⟩, trivial⟩, rfl, rfl⟩
      intro k hI A3 L3 k3 hA3 hL3 hnext3 hexit3 hret3
      rw [← hA3, ← hC, ← hR, ← hS, ← hX]
      rcases hI with rfl | rfl | rfl | rfl | rfl
      · with_reducible refine run_seq_cut fun kk hn hx => ?_
        cbv
        with_reducible refine hn _ ?_
        clear hn hx kk
        with_reducible refine run_seq_cut fun kk hn hx => ?_
        cbv
        repeat' first | (with_reducible intro hb; cbv) | with_reducible refine And.intro ?_ ?_
        · exfalso
          clear hL hk hnw hxw kw nb eb xb rb hL2 hexit hret hx hn hni hxi n5 e5 x5 r5 hnext nc ec xc rc hL3 hnext3 hexit3 hret3
          subst hA3 hC
          have c1 := F.bes (u := X1) (v := y) (u' := x) (v' := y) (.inr rfl) (.inl rfl) (.inl rfl) (.inl rfl)
          simp [nx, nx', ny, ny'] at c1
          simp [stdA, stdCmp, c1] at hb
        with_reducible refine hn _ ?_
        clear hn hx kk hb
        cbv
        exact hnext3 _ 1 (by omega) (by decide) ⟨⟨⟨rfl, rfl, fun _ => rfl⟩, ⟨rfl, rfl, fun _ => rfl⟩, ⟨rfl, rfl, fun _ => rfl⟩, ⟨rfl, rfl, fun _ => rfl⟩, ⟨rfl, rfl, fun _ => rfl⟩, ⟨rfl, rfl, fun _ => rfl⟩, ⟨rfl, rfl, fun _ => rfl⟩, trivial⟩, ⟨⟨rfl, rfl, fun _ => rfl⟩, ⟨rfl, rfl, fun _ => rfl⟩, trivial⟩, rfl, rfl⟩
      · with_reducible refine run_seq_cut fun kk hn hx => ?_
        cbv
        with_reducible refine hn _ ?_
        clear hn hx kk
        with_reducible refine run_seq_cut fun kk hn hx => ?_
        cbv
        repeat' first | (with_reducible intro hb; cbv) | with_reducible refine And.intro ?_ ?_
        · exfalso
          clear hL hk hnw hxw kw nb eb xb rb hL2 hexit hret hx hn hni hxi n5 e5 x5 r5 hnext nc ec xc rc hL3 hnext3 hexit3 hret3
          subst hA3 hC
          have c1 := F.bes (u := X1) (v := y) (u' := X1) (v' := y) (.inr rfl) (.inl rfl) (.inr rfl) (.inl rfl)
          simp [nx, nx', ny, ny'] at c1
          simp [stdA, stdCmp, c1] at hb
        with_reducible refine hn _ ?_
        clear hn hx kk hb
        cbv
        exact hnext3 _ 2 (by omega) (by decide) ⟨⟨⟨rfl, rfl, fun _ => rfl⟩, ⟨rfl, rfl, fun _ => rfl⟩, ⟨rfl, rfl, fun _ => rfl⟩, ⟨rfl, rfl, fun _ => rfl⟩, ⟨rfl, rfl, fun _ => rfl⟩, ⟨rfl, rfl, fun _ => rfl⟩, ⟨rfl, rfl, fun _ => rfl⟩, trivial⟩, ⟨⟨rfl, rfl, fun _ => rfl⟩, ⟨rfl, rfl, fun _ => rfl⟩, trivial⟩, rfl, rfl⟩
      · with_reducible refine run_seq_cut fun kk hn hx => ?_
        cbv
        with_reducible refine hn _ ?_
        clear hn hx kk
        with_reducible refine run_seq_cut fun kk hn hx => ?_
        cbv
        repeat' first | (with_reducible intro hb; cbv) | with_reducible refine And.intro ?_ ?_
        · exfalso
          clear hL hk hnw hxw kw nb eb xb rb hL2 hexit hret hx hn hni hxi n5 e5 x5 r5 hnext nc ec xc rc hL3 hnext3 hexit3 hret3
          subst hA3 hC
          have c1 := F.bes (u := X1) (v := y) (u' := x) (v' := Y1) (.inr rfl) (.inl rfl) (.inl rfl) (.inr rfl)
          simp [nx, nx', ny, ny'] at c1
          simp [stdA, stdCmp, c1] at hb
        with_reducible refine hn _ ?_
        clear hn hx kk hb
        cbv
        exact hnext3 _ 3 (by omega) (by decide) ⟨⟨⟨rfl, rfl, fun _ => rfl⟩, ⟨rfl, rfl, fun _ => rfl⟩, ⟨rfl, rfl, fun _ => rfl⟩, ⟨rfl, rfl, fun _ => rfl⟩, ⟨rfl, rfl, fun _ => rfl⟩, ⟨rfl, rfl, fun _ => rfl⟩, ⟨rfl, rfl, fun _ => rfl⟩, trivial⟩, ⟨⟨rfl, rfl, fun _ => rfl⟩, ⟨rfl, rfl, fun _ => rfl⟩, trivial⟩, rfl, rfl⟩
      · with_reducible refine run_seq_cut fun kk hn hx => ?_
        cbv
        with_reducible refine hn _ ?_
        clear hn hx kk
        with_reducible refine run_seq_cut fun kk hn hx => ?_
        cbv
        repeat' first | (with_reducible intro hb; cbv) | with_reducible refine And.intro ?_ ?_
        · exfalso
          clear hL hk hnw hxw kw nb eb xb rb hL2 hexit hret hx hn hni hxi n5 e5 x5 r5 hnext nc ec xc rc hL3 hnext3 hexit3 hret3
          subst hA3 hC
          have c1 := F.bes (u := X1) (v := y) (u' := X1) (v' := Y1) (.inr rfl) (.inl rfl) (.inr rfl) (.inr rfl)
          simp [nx, nx', ny, ny'] at c1
          simp [stdA, stdCmp, c1] at hb
        with_reducible refine hn _ ?_
        clear hn hx kk hb
        cbv
        exact hnext3 _ 4 (by omega) (by decide) ⟨⟨⟨rfl, rfl, fun _ => rfl⟩, ⟨rfl, rfl, fun _ => rfl⟩, ⟨rfl, rfl, fun _ => rfl⟩, ⟨rfl, rfl, fun _ => rfl⟩, ⟨rfl, rfl, fun _ => rfl⟩, ⟨rfl, rfl, fun _ => rfl⟩, ⟨rfl, rfl, fun _ => rfl⟩, trivial⟩, ⟨⟨rfl, rfl, fun _ => rfl⟩, ⟨rfl, rfl, fun _ => rfl⟩, trivial⟩, rfl, rfl⟩
      · with_reducible refine run_seq_cut fun kk hn hx => ?_
        cbv
        with_reducible refine hx _ _ (by simp) ?_
        with_reducible refine hexit3 _ _ ?_
        with_reducible refine ec _ ?_
        with_reducible refine n5 _ ?_
        with_reducible refine hni _ ?_
        clear hn hx kk hnext3 hexit3 hret3 nc ec xc rc n5 e5 x5 r5 hni hxi
        cbv
        exact hnext _ 2 (by omega) (by decide) ⟨⟨⟨rfl, rfl, fun _ => rfl⟩, ⟨rfl, rfl, fun _ => rfl⟩, ⟨rfl, rfl, fun _ => rfl⟩, ⟨rfl, rfl, fun _ => rfl⟩, ⟨rfl, rfl, fun _ => rfl⟩, ⟨rfl, rfl, fun _ => rfl⟩, trivial⟩, ⟨⟨rfl, rfl, fun _ => rfl⟩, ⟨rfl, rfl, fun _ => rfl⟩, trivial⟩, rfl, rfl⟩
  · with_reducible refine run_seq_cut fun kk hn hx => ?_
    cbv
    with_reducible refine hn _ ?_
    clear hn hx kk
    with_reducible refine run_seq_cut fun ki hni hxi => ?_
    with_reducible refine run_block_cut fun k5 n5 e5 x5 r5 => ?_
    with_reducible refine run_seq_cut fun kk hn hx => ?_
    cbv
    with_reducible refine hn _ ?_
    clear hn hx kk
    with_reducible refine run_seq_cut fun kk hn hx => ?_
    with_reducible refine run_seq_cut fun kd hd hxd => ?_
    with_reducible refine Dr_run ?_
    with_reducible refine Dr_cut 20 fun P hP => ?_
    cbv
    with_reducible refine hP _ ?_
    clear hP P
    cbv
    with_reducible refine hd _ ?_
    clear hd hxd kd
    cbv
    repeat' first | (with_reducible intro hb; cbv) | with_reducible refine And.intro ?_ ?_
    · exfalso
      clear hL hk hnw hxw kw nb eb xb rb hL2 hexit hret hx hn hni hxi n5 e5 x5 r5 hnext
      subst hA2 hC
      have c1 : stdC.is x Y1 H = true := F.cis (.inl rfl) (.inr rfl)
      obtain ⟨c2, c3, c4, c5⟩ := F.up (u := x) (v := Y1) (.inl rfl) (.inr rfl)
      have hk := F.key
      have hh := F.hpos
      have c6 : ¬ stdC.key x Y1 H < stdC.key x y s := by omega
      have c7 : stdC.cmp X1 y H x Y1 H = -1 := Fours.cmp_lt (by omega)
      simp [stdA, stdCmp, c1, c2, c3, c4, c5, c6, c7] at hb
    with_reducible refine hn _ ?_
    clear hn hx kk hb
    with_reducible refine run_seq_cut fun kk hn hx => ?_
    with_reducible refine run_seq_cut fun kd hd hxd => ?_
    with_reducible refine Dr_run ?_
    with_reducible refine Dr_cut 20 fun P hP => ?_
    cbv
    with_reducible refine hP _ ?_
    clear hP P
    cbv
    with_reducible refine hd _ ?_
    clear hd hxd kd
    cbv
    repeat' first | (with_reducible intro hb; cbv) | with_reducible refine And.intro ?_ ?_
    · with_reducible refine hn _ ?_
      clear hn hx kk
      have hc : (P < X1 ∧ Y1 ≤ Q) := by
        clear hL hk hnw hxw kw nb eb xb rb hL2 hexit hret hni hxi n5 e5 x5 r5 hnext
        subst hA2
        simp [stdA, stdCmp, aX, aY, aX2, aY2] at hb
        omega
      clear hb
      with_reducible refine run_seq_cut fun kk hn hx => ?_
      cbv
      with_reducible refine hn _ ?_
      clear hn hx kk
      with_reducible refine run_block_cut fun kc nc ec xc rc => ?_
      cbv
      refine hL2 _ _ _ (loop_rule (un := ⟨false, some [0, 1, 2, 3, 6, 7, 8, 9, 10, 11, 12, 13, 14, 16, 24, 44, 91, 131, 135, 154]⟩) tok tL3fOK mixed (fun k : Int => ⟨[(14, ⟨[], .c (.s (.lit .i64 k))⟩), (11, ⟨[], .c (.s (.lit .i64 2))⟩), (10, ⟨[], .c (.s (.int .i64 (c 3)))⟩), (7, ⟨[], .c (.s (.hp 1 0))⟩), (3, ⟨[], .c (.s (.hp 0 0))⟩), (8, ⟨[], .c (.s (.int .i64 P))⟩), (9, ⟨[], .c (.s (.int .i64 Q))⟩)], [(0, .fix true [.s (.int .i64 x), .s (.int .i64 y), .s (.int .i64 s)]), (1, .fix true [.s (.int .i64 x), .s (.int .i64 y), .s (.int .i64 H), .s (.int .i64 X1), .s (.int .i64 y), .s (.int .i64 H), .s (.int .i64 x), .s (.int .i64 Y1), .s (.int .i64 H), .s (.int .i64 X1), .s (.int .i64 Y1), .s (.int .i64 H)])], 2⟩)
        (fun k => k = 0 ∨ k = 1 ∨ k = 2 ∨ k = 3 ∨ k = 4) (fun k => (4 - k).toNat) 0 (.inl rfl) ?_ (fun _ i hi => absurd (hWr i hi) (by simp)) ?_)
      · have hq : A2.bin .add .i64 (c 2) 1 = c 3 := by subst hA2 hcq; exact cqt2 hc
        exact ⟨⟨⟨rfl, rfl, fun _ => rfl⟩, ⟨rfl, rfl, fun _ => rfl⟩, ⟨rfl, rfl, fun _ => congrArg (Value.int .i64) hq⟩, ⟨rfl, rfl, fun _ => rfl⟩, ⟨rfl, rfl, fun _ => rfl⟩, ⟨rfl, rfl, fun _ => rfl⟩, ⟨rfl, rfl, fun _ => rfl⟩, trivial⟩, ⟨⟨rfl, rfl, fun _ => rfl⟩, ⟨rfl, rfl, fun _ => rfl⟩, trivial⟩, rfl, rfl⟩
      intro k hI A3 L3 k3 hA3 hL3 hnext3 hexit3 hret3
      rw [← hA3, ← hC, ← hR, ← hS, ← hX]
      rcases hI with rfl | rfl | rfl | rfl | rfl
      · with_reducible refine run_seq_cut fun kk hn hx => ?_
        cbv
        with_reducible refine hn _ ?_
        clear hn hx kk
        with_reducible refine run_seq_cut fun kk hn hx => ?_
        cbv
        repeat' first | (with_reducible intro hb; cbv) | with_reducible refine And.intro ?_ ?_
        · exfalso
          clear hL hk hnw hxw kw nb eb xb rb hL2 hexit hret hx hn hni hxi n5 e5 x5 r5 hnext nc ec xc rc hL3 hnext3 hexit3 hret3
          subst hA3 hC
          have c1 := F.bes (u := x) (v := Y1) (u' := x) (v' := y) (.inl rfl) (.inr rfl) (.inl rfl) (.inl rfl)
          simp [nx, nx', ny, ny'] at c1
          simp [stdA, stdCmp, c1] at hb
        with_reducible refine hn _ ?_
        clear hn hx kk hb
        cbv
        exact hnext3 _ 1 (by omega) (by decide) ⟨⟨⟨rfl, rfl, fun _ => rfl⟩, ⟨rfl, rfl, fun _ => rfl⟩, ⟨rfl, rfl, fun _ => rfl⟩, ⟨rfl, rfl, fun _ => rfl⟩, ⟨rfl, rfl, fun _ => rfl⟩, ⟨rfl, rfl, fun _ => rfl⟩, ⟨rfl, rfl, fun _ => rfl⟩, trivial⟩, ⟨⟨rfl, rfl, fun _ => rfl⟩, ⟨rfl, rfl, fun _ => rfl⟩, trivial⟩, rfl, rfl⟩
      · with_reducible refine run_seq_cut fun kk hn hx => ?_
        cbv
        with_reducible refine hn _ ?_
        clear hn hx kk
        with_reducible refine run_seq_cut fun kk hn hx => ?_
        cbv
        repeat' first | (with_reducible intro hb; cbv) | with_reducible refine And.intro ?_ ?_
        · exfalso
          clear hL hk hnw hxw kw nb eb xb rb hL2 hexit hret hx hn hni hxi n5 e5 x5 r5 hnext nc ec xc rc hL3 hnext3 hexit3 hret3
          subst hA3 hC
          have c1 := F.bes (u := x) (v := Y1) (u' := X1) (v' := y) (.inl rfl) (.inr rfl) (.inr rfl) (.inl rfl)
          simp [nx, nx', ny, ny'] at c1
          simp [stdA, stdCmp, c1] at hb
        with_reducible refine hn _ ?_
        clear hn hx kk hb
        cbv
        exact hnext3 _ 2 (by omega) (by decide) ⟨⟨⟨rfl, rfl, fun _ => rfl⟩, ⟨rfl, rfl, fun _ => rfl⟩, ⟨rfl, rfl, fun _ => rfl⟩, ⟨rfl, rfl, fun _ => rfl⟩, ⟨rfl, rfl, fun _ => rfl⟩, ⟨rfl, rfl, fun _ => rfl⟩, ⟨rfl, rfl, fun _ => rfl⟩, trivial⟩, ⟨⟨rfl, rfl, fun _ => rfl⟩, ⟨rfl, rfl, fun _ => rfl⟩, trivial⟩, rfl, rfl⟩
      · with_reducible refine run_seq_cut fun kk hn hx => ?_
        cbv
        with_reducible refine hn _ ?_
        clear hn hx kk
        with_reducible refine run_seq_cut fun kk hn hx => ?_
        cbv
        repeat' first | (with_reducible intro hb; cbv) | with_reducible refine And.intro ?_ ?_
        · exfalso
          clear hL hk hnw hxw kw nb eb xb rb hL2 hexit hret hx hn hni hxi n5 e5 x5 r5 hnext nc ec xc rc hL3 hnext3 hexit3 hret3
          subst hA3 hC
          have c1 := F.bes (u := x) (v := Y1) (u' := x) (v' := Y1) (.inl rfl) (.inr rfl) (.inl rfl) (.inr rfl)
          simp [nx, nx', ny, ny'] at c1
          simp [stdA, stdCmp, c1] at hb
        with_reducible refine hn _ ?_
        clear hn hx kk hb
        cbv
        exact hnext3 _ 3 (by omega) (by decide) ⟨⟨⟨rfl, rfl, fun _ => rfl⟩, ⟨rfl, rfl, fun _ => rfl⟩, ⟨rfl, rfl, fun _ => rfl⟩, ⟨rfl, rfl, fun _ => rfl⟩, ⟨rfl, rfl, fun _ => rfl⟩, ⟨rfl, rfl, fun _ => rfl⟩, ⟨rfl, rfl, fun _ => rfl⟩, trivial⟩, ⟨⟨rfl, rfl, fun _ => rfl⟩, ⟨rfl, rfl, fun _ => rfl⟩, trivial⟩, rfl, rfl⟩
      · with_reducible refine run_seq_cut fun kk hn hx => ?_
        cbv
        with_reducible refine hn _ ?_
        clear hn hx kk
        with_reducible refine run_seq_cut fun kk hn hx => ?_
        cbv
        repeat' first | (with_reducible intro hb; cbv) | with_reducible refine And.intro ?_ ?_
        · exfalso
          clear hL hk hnw hxw kw nb eb xb rb hL2 hexit hret hx hn hni hxi n5 e5 x5 r5 hnext nc ec xc rc hL3 hnext3 hexit3 hret3
          subst hA3 hC
          have c1 := F.bes (u := x) (v := Y1) (u' := X1) (v' := Y1) (.inl rfl) (.inr rfl) (.inr rfl) (.inr rfl)
          simp [nx, nx', ny, ny'] at c1
          simp [stdA, stdCmp, c1] at hb
        with_reducible refine hn _ ?_
        clear hn hx kk hb
        cbv
        exact hnext3 _ 4 (by omega) (by decide) ⟨⟨⟨rfl, rfl, fun _ => rfl⟩, ⟨rfl, rfl, fun _ => rfl⟩, ⟨rfl, rfl, fun _ => rfl⟩, ⟨rfl, rfl, fun _ => rfl⟩, ⟨rfl, rfl, fun _ => rfl⟩, ⟨rfl, rfl, fun _ => rfl⟩, ⟨rfl, rfl, fun _ => rfl⟩, trivial⟩, ⟨⟨rfl, rfl, fun _ => rfl⟩, ⟨rfl, rfl, fun _ => rfl⟩, trivial⟩, rfl, rfl⟩
      · with_reducible refine run_seq_cut fun kk hn hx => ?_
        cbv
        with_reducible refine hx _ _ (by simp) ?_
        with_reducible refine hexit3 _ _ ?_
        with_reducible refine ec _ ?_
        with_reducible refine n5 _ ?_
        with_reducible refine hni _ ?_
        clear hn hx kk hnext3 hexit3 hret3 nc ec xc rc n5 e5 x5 r5 hni hxi
        cbv
        exact hnext _ 3 (by omega) (by decide) ⟨⟨⟨rfl, rfl, fun _ => rfl⟩, ⟨rfl, rfl, fun _ => rfl⟩, ⟨rfl, rfl, fun _ => rfl⟩, ⟨rfl, rfl, fun _ => rfl⟩, ⟨rfl, rfl, fun _ => rfl⟩, ⟨rfl, rfl, fun _ => rfl⟩, trivial⟩, ⟨⟨rfl, rfl, fun _ => rfl⟩, ⟨rfl, rfl, fun _ => rfl⟩, trivial⟩, rfl, rfl⟩
    · with_reducible refine hn _ ?_
      clear hn hx kk
      have hc : ¬ (P < X1 ∧ Y1 ≤ Q) := by
        clear hL hk hnw hxw kw nb eb xb rb hL2 hexit hret hni hxi n5 e5 x5 r5 hnext
        subst hA2
        simp [stdA, stdCmp, aX, aY, aX2, aY2] at hb
        omega
      clear hb
      with_reducible refine run_seq_cut fun kk hn hx => ?_
      cbv
      with_reducible refine hn _ ?_
      clear hn hx kk
      with_reducible refine run_block_cut fun kc nc ec xc rc => ?_
      cbv
      refine hL2 _ _ _ (loop_rule (un := ⟨false, some [0, 1, 2, 3, 6, 7, 8, 9, 10, 11, 12, 13, 14, 16, 24, 44, 91, 131, 135, 154]⟩) tok tL3fOK mixed (fun k : Int => ⟨[(14, ⟨[], .c (.s (.lit .i64 k))⟩), (11, ⟨[], .c (.s (.lit .i64 2))⟩), (10, ⟨[], .c (.s (.int .i64 (c 3)))⟩), (7, ⟨[], .c (.s (.hp 1 0))⟩), (3, ⟨[], .c (.s (.hp 0 0))⟩), (8, ⟨[], .c (.s (.int .i64 P))⟩), (9, ⟨[], .c (.s (.int .i64 Q))⟩)], [(0, .fix true [.s (.int .i64 x), .s (.int .i64 y), .s (.int .i64 s)]), (1, .fix true [.s (.int .i64 x), .s (.int .i64 y), .s (.int .i64 H), .s (.int .i64 X1), .s (.int .i64 y), .s (.int .i64 H), .s (.int .i64 x), .s (.int .i64 Y1), .s (.int .i64 H), .s (.int .i64 X1), .s (.int .i64 Y1), .s (.int .i64 H)])], 2⟩)
        (fun k => k = 0 ∨ k = 1 ∨ k = 2 ∨ k = 3 ∨ k = 4) (fun k => (4 - k).toNat) 0 (.inl rfl) ?_ (fun _ i hi => absurd (hWr i hi) (by simp)) ?_)
      · have hq : c 2 = c 3 := by rw [hcq]; exact cqf2 hc
        rw [hq]
        exact ⟨⟨⟨rfl, rfl, fun _ => rfl⟩, ⟨rfl, rfl, fun _ => rfl⟩, ⟨rfl, rfl, fun _ => rfl⟩, ⟨rfl, rfl, fun _ => rfl⟩, ⟨rfl, rfl, fun _ => rfl⟩, ⟨rfl, rfl, fun _ => rfl⟩, ⟨rfl, rfl, fun _ => rfl⟩, trivial⟩, ⟨⟨rfl, rfl, fun _ => rfl⟩, ⟨rfl, rfl, fun _ => rfl⟩, trivial⟩, rfl, rfl⟩
      intro k hI A3 L3 k3 hA3 hL3 hnext3 hexit3 hret3
      rw [← hA3, ← hC, ← hR, ← hS, ← hX]
      rcases hI with rfl | rfl | rfl | rfl | rfl
      · with_reducible refine run_seq_cut fun kk hn hx => ?_
        cbv
        with_reducible refine hn _ ?_
        clear hn hx kk
        with_reducible refine run_seq_cut fun kk hn hx => ?_
        cbv
        repeat' first | (with_reducible intro hb; cbv) | with_reducible refine And.intro ?_ ?_
        · exfalso
          clear hL hk hnw hxw kw nb eb xb rb hL2 hexit hret hx hn hni hxi n5 e5 x5 r5 hnext nc ec xc rc hL3 hnext3 hexit3 hret3
          subst hA3 hC
          have c1 := F.bes (u := x) (v := Y1) (u' := x) (v' := y) (.inl rfl) (.inr rfl) (.inl rfl) (.inl rfl)
          simp [nx, nx', ny, ny'] at c1
          simp [stdA, stdCmp, c1] at hb
        with_reducible refine hn _ ?_
        clear hn hx kk hb
        cbv
        exact hnext3 _ 1 (by omega) (by decide) ⟨⟨⟨rfl, rfl, fun _ => rfl⟩, ⟨rfl, rfl, fun _ => rfl⟩, ⟨rfl, rfl, fun _ => rfl⟩, ⟨rfl, rfl, fun _ => rfl⟩, ⟨rfl, rfl, fun _ => rfl⟩, ⟨rfl, rfl, fun _ => rfl⟩, ⟨rfl, rfl, fun _ => rfl⟩, trivial⟩, ⟨⟨rfl, rfl, fun _ => rfl⟩, ⟨rfl, rfl, fun _ => rfl⟩, trivial⟩, rfl, rfl⟩
      · with_reducible refine run_seq_cut fun kk hn hx => ?_
        cbv
        with_reducible refine hn _ ?_
        clear hn hx kk
        with_reducible refine run_seq_cut fun kk hn hx => ?_
        cbv
        repeat' first | (with_reducible intro hb; cbv) | with_reducible refine And.intro ?_ ?_
        · exfalso
          clear hL hk hnw hxw kw nb eb xb rb hL2 hexit hret hx hn hni hxi n5 e5 x5 r5 hnext nc ec xc rc hL3 hnext3 hexit3 hret3
          subst hA3 hC
          have c1 := F.bes (u := x) (v := Y1) (u' := X1) (v' := y) (.inl rfl) (.inr rfl) (.inr rfl) (.inl rfl)
          simp [nx, nx', ny, ny'] at c1
          simp [stdA, stdCmp, c1] at hb
        with_reducible refine hn _ ?_
        clear hn hx kk hb
        cbv
        exact hnext3 _ 2 (by omega) (by decide) ⟨⟨⟨rfl, rfl, fun _ => rfl⟩, ⟨rfl, rfl, fun _ => rfl⟩, ⟨rfl, rfl, fun _ => rfl⟩, ⟨rfl, rfl, fun _ => rfl⟩, ⟨rfl, rfl, fun _ => rfl⟩, ⟨rfl, rfl, fun _ => rfl⟩, ⟨rfl, rfl, fun _ => rfl⟩, trivial⟩, ⟨⟨rfl, rfl, fun _ => rfl⟩, ⟨rfl, rfl, fun _ => rfl⟩, trivial⟩, rfl, rfl⟩
      · with_reducible refine run_seq_cut fun kk hn hx => ?_
        cbv
        with_reducible refine hn _ ?_
        clear hn hx kk
        with_reducible refine run_seq_cut fun kk hn hx => ?_
        cbv
        repeat' first | (with_reducible intro hb; cbv) | with_reducible refine And.intro ?_ ?_
        · exfalso
          clear hL hk hnw hxw kw nb eb xb rb hL2 hexit hret hx hn hni hxi n5 e5 x5 r5 hnext nc ec xc rc hL3 hnext3 hexit3 hret3
          subst hA3 hC
          have c1 := F.bes (u := x) (v := Y1) (u' := x) (v' := Y1) (.inl rfl) (.inr rfl) (.inl rfl) (.inr rfl)
          simp [nx, nx', ny, ny'] at c1
          simp [stdA, stdCmp, c1] at hb
        with_reducible refine hn _ ?_
        clear hn hx kk hb
        cbv
        exact hnext3 _ 3 (by omega) (by decide) ⟨⟨⟨rfl, rfl, fun _ => rfl⟩, ⟨rfl, rfl, fun _ => rfl⟩, ⟨rfl, rfl, fun _ => rfl⟩, ⟨rfl, rfl, fun _ => rfl⟩, ⟨rfl, rfl, fun _ => rfl⟩, ⟨rfl, rfl, fun _ => rfl⟩, ⟨rfl, rfl, fun _ => rfl⟩, trivial⟩, ⟨⟨rfl, rfl, fun _ => rfl⟩, ⟨rfl, rfl, fun _ => rfl⟩, trivial⟩, rfl, rfl⟩
      · with_reducible refine run_seq_cut fun kk hn hx => ?_
        cbv
        with_reducible refine hn _ ?_
        clear hn hx kk
        with_reducible refine run_seq_cut fun kk hn hx => ?_
        cbv
        repeat' first | (with_reducible intro hb; cbv) | with_reducible refine And.intro ?_ ?_
        · exfalso
          clear hL hk hnw hxw kw nb eb xb rb hL2 hexit hret hx hn hni hxi n5 e5 x5 r5 hnext nc ec xc rc hL3 hnext3 hexit3 hret3
          subst hA3 hC
          have c1 := F.bes (u := x) (v := Y1) (u' := X1) (v' := Y1) (.inl rfl) (.inr rfl) (.inr rfl) (.inr rfl)
          simp [nx, nx', ny, ny'] at c1
          simp [stdA, stdCmp, c1] at hb
        with_reducible refine hn _ ?_
        clear hn hx kk hb
        cbv
        exact hnext3 _ 4 (by omega) (by decide) ⟨⟨⟨rfl, rfl, fun _ => rfl⟩, ⟨rfl, rfl, fun _ => rfl⟩, ⟨rfl, rfl, fun _ => rfl⟩, ⟨rfl, rfl, fun _ => rfl⟩, ⟨rfl, rfl, fun _ => rfl⟩, ⟨rfl, rfl, fun _ => rfl⟩, ⟨rfl, rfl, fun _ => rfl⟩, trivial⟩, ⟨⟨rfl, rfl, fun _ => rfl⟩, ⟨rfl, rfl, fun _ => rfl⟩, trivial⟩, rfl, rfl⟩
      · with_reducible refine run_seq_cut fun kk hn hx => ?_
        cbv
        with_reducible refine hx _ _ (by simp) ?_
        with_reducible refine hexit3 _ _ ?_
        with_reducible refine ec _ ?_
        with_reducible refine n5 _ ?_
        with_reducible refine hni _ ?_
        clear hn hx kk hnext3 hexit3 hret3 nc ec xc rc n5 e5 x5 r5 hni hxi
        cbv
        exact hnext _ 3 (by omega) (by decide) ⟨⟨⟨rfl, rfl, fun _ => rfl⟩, ⟨rfl, rfl, fun _ => rfl⟩, ⟨rfl, rfl, fun _ => rfl⟩, ⟨rfl, rfl, fun _ => rfl⟩, ⟨rfl, rfl, fun _ => rfl⟩, ⟨rfl, rfl, fun _ => rfl⟩, trivial⟩, ⟨⟨rfl, rfl, fun _ => rfl⟩, ⟨rfl, rfl, fun _ => rfl⟩, trivial⟩, rfl, rfl⟩
  · with_reducible refine run_seq_cut fun kk hn hx => ?_
    cbv
    with_reducible refine hn _ ?_
    clear hn hx kk
    with_reducible refine run_seq_cut fun ki hni hxi => ?_
    with_reducible refine run_block_cut fun k5 n5 e5 x5 r5 => ?_
    with_reducible refine run_seq_cut fun kk hn hx => ?_
    cbv
    with_reducible refine hn _ ?_
    clear hn hx kk
    with_reducible refine run_seq_cut fun kk hn hx => ?_
    with_reducible refine run_seq_cut fun kd hd hxd => ?_
    with_reducible refine Dr_run ?_
    with_reducible refine Dr_cut 20 fun P hP => ?_
    cbv
    with_reducible refine hP _ ?_
    clear hP P
    cbv
    with_reducible refine hd _ ?_
    clear hd hxd kd
    cbv
    repeat' first | (with_reducible intro hb; cbv) | with_reducible refine And.intro ?_ ?_
    · exfalso
      clear hL hk hnw hxw kw nb eb xb rb hL2 hexit hret hx hn hni hxi n5 e5 x5 r5 hnext
      subst hA2 hC
      have c1 : stdC.is X1 Y1 H = true := F.cis (.inr rfl) (.inr rfl)
      obtain ⟨c2, c3, c4, c5⟩ := F.up (u := X1) (v := Y1) (.inr rfl) (.inr rfl)
      have hk := F.key
      have hh := F.hpos
      have c6 : ¬ stdC.key X1 Y1 H < stdC.key x y s := by omega
      have c7 : stdC.cmp x Y1 H X1 Y1 H = -1 := Fours.cmp_lt (by omega)
      simp [stdA, stdCmp, c1, c2, c3, c4, c5, c6, c7] at hb
    with_reducible refine hn _ ?_
    clear hn hx kk hb
    with_reducible refine run_seq_cut fun kk hn hx => ?_
    with_reducible refine run_seq_cut fun kd hd hxd => ?_
    with_reducible refine Dr_run ?_
    with_reducible refine Dr_cut 20 fun P hP => ?_
    cbv
    with_reducible refine hP _ ?_
    clear hP P
    cbv
    with_reducible refine hd _ ?_
    clear hd hxd kd
    cbv
    repeat' first | (with_reducible intro hb; cbv) | with_reducible refine And.intro ?_ ?_
    · with_reducible refine hn _ ?_
      clear hn hx kk
      have hc : (X1 ≤ P ∧ Y1 ≤ Q) := by
        clear hL hk hnw hxw kw nb eb xb rb hL2 hexit hret hni hxi n5 e5 x5 r5 hnext
        subst hA2
        simp [stdA, stdCmp, aX, aY, aX2, aY2] at hb
        omega
      clear hb
      with_reducible refine run_seq_cut fun kk hn hx => ?_
      cbv
      with_reducible refine hn _ ?_
      clear hn hx kk
      with_reducible refine run_block_cut fun kc nc ec xc rc => ?_
      cbv
      refine hL2 _ _ _ (loop_rule (un := ⟨false, some [0, 1, 2, 3, 6, 7, 8, 9, 10, 11, 12, 13, 14, 16, 24, 44, 91, 131, 135, 154]⟩) tok tL3fOK mixed (fun k : Int => ⟨[(14, ⟨[], .c (.s (.lit .i64 k))⟩), (11, ⟨[], .c (.s (.lit .i64 3))⟩), (10, ⟨[], .c (.s (.int .i64 (c 4)))⟩), (7, ⟨[], .c (.s (.hp 1 0))⟩), (3, ⟨[], .c (.s (.hp 0 0))⟩), (8, ⟨[], .c (.s (.int .i64 P))⟩), (9, ⟨[], .c (.s (.int .i64 Q))⟩)], [(0, .fix true [.s (.int .i64 x), .s (.int .i64 y), .s (.int .i64 s)]), (1, .fix true [.s (.int .i64 x), .s (.int .i64 y), .s (.int .i64 H), .s (.int .i64 X1), .s (.int .i64 y), .s (.int .i64 H), .s (.int .i64 x), .s (.int .i64 Y1), .s (.int .i64 H), .s (.int .i64 X1), .s (.int .i64 Y1), .s (.int .i64 H)])], 2⟩)
        (fun k => k = 0 ∨ k = 1 ∨ k = 2 ∨ k = 3 ∨ k = 4) (fun k => (4 - k).toNat) 0 (.inl rfl) ?_ (fun _ i hi => absurd (hWr i hi) (by simp)) ?_)
      · have hq : A2.bin .add .i64 (c 3) 1 = c 4 := by subst hA2 hcq; exact cqt3 hc
        exact ⟨⟨⟨rfl, rfl, fun _ => rfl⟩, ⟨rfl, rfl, fun _ => rfl⟩, ⟨rfl, rfl, fun _ => congrArg (Value.int .i64) hq⟩, ⟨rfl, rfl, fun _ => rfl⟩, ⟨rfl, rfl, fun _ => rfl⟩, ⟨rfl, rfl, fun _ => rfl⟩, ⟨rfl, rfl, fun _ => rfl⟩, trivial⟩, ⟨⟨rfl, rfl, fun _ => rfl⟩, ⟨rfl, rfl, fun _ => rfl⟩, trivial⟩, rfl, rfl⟩
      intro k hI A3 L3 k3 hA3 hL3 hnext3 hexit3 hret3
      rw [← hA3, ← hC, ← hR, ← hS, ← hX]
      rcases hI with rfl | rfl | rfl | rfl | rfl
      · with_reducible refine run_seq_cut fun kk hn hx => ?_
        cbv
        with_reducible refine hn _ ?_
        clear hn hx kk
        with_reducible refine run_seq_cut fun kk hn hx => ?_
        cbv
        repeat' first | (with_reducible intro hb; cbv) | with_reducible refine And.intro ?_ ?_
        · exfalso
          clear hL hk hnw hxw kw nb eb xb rb hL2 hexit hret hx hn hni hxi n5 e5 x5 r5 hnext nc ec xc rc hL3 hnext3 hexit3 hret3
          subst hA3 hC
          have c1 := F.bes (u := X1) (v := Y1) (u' := x) (v' := y) (.inr rfl) (.inr rfl) (.inl rfl) (.inl rfl)
          simp [nx, nx', ny, ny'] at c1
          simp [stdA, stdCmp, c1] at hb
        with_reducible refine hn _ ?_
        clear hn hx kk hb
        cbv
        exact hnext3 _ 1 (by omega) (by decide) ⟨⟨⟨rfl, rfl, fun _ => rfl⟩, ⟨rfl, rfl, fun _ => rfl⟩, ⟨rfl, rfl, fun _ => rfl⟩, ⟨rfl, rfl, fun _ => rfl⟩, ⟨rfl, rfl, fun _ => rfl⟩, ⟨rfl, rfl, fun _ => rfl⟩, ⟨rfl, rfl, fun _ => rfl⟩, trivial⟩, ⟨⟨rfl, rfl, fun _ => rfl⟩, ⟨rfl, rfl, fun _ => rfl⟩, trivial⟩, rfl, rfl⟩
      · with_reducible refine run_seq_cut fun kk hn hx => ?_
        cbv
        with_reducible refine hn _ ?_
        clear hn hx kk
        with_reducible refine run_seq_cut fun kk hn hx => ?_
        cbv
        repeat' first | (with_reducible intro hb; cbv) | with_reducible refine And.intro ?_ ?_
        · exfalso
          clear hL hk hnw hxw kw nb eb xb rb hL2 hexit hret hx hn hni hxi n5 e5 x5 r5 hnext nc ec xc rc hL3 hnext3 hexit3 hret3
          subst hA3 hC
          have c1 := F.bes (u := X1) (v := Y1) (u' := X1) (v' := y) (.inr rfl) (.inr rfl) (.inr rfl) (.inl rfl)
          simp [nx, nx', ny, ny'] at c1
          simp [stdA, stdCmp, c1] at hb
        with_reducible refine hn _ ?_
        clear hn hx kk hb
        cbv
        exact hnext3 _ 2 (by omega) (by decide) ⟨⟨⟨rfl, rfl, fun _ => rfl⟩, ⟨rfl, rfl, fun _ => rfl⟩, ⟨rfl, rfl, fun _ => rfl⟩, ⟨rfl, rfl, fun _ => rfl⟩, ⟨rfl, rfl, fun _ => rfl⟩, ⟨rfl, rfl, fun _ => rfl⟩, ⟨rfl, rfl, fun _ => rfl⟩, trivial⟩, ⟨⟨rfl, rfl, fun _ => rfl⟩, ⟨rfl, rfl, fun _ => rfl⟩, trivial⟩, rfl, rfl⟩
      · with_reducible refine run_seq_cut fun kk hn hx => ?_
        cbv
        with_reducible refine hn _ ?_
        clear hn hx kk
        with_reducible refine run_seq_cut fun kk hn hx => ?_
        cbv
        repeat' first | (with_reducible intro hb; cbv) | with_reducible refine And.intro ?_ ?_
        · exfalso
          clear hL hk hnw hxw kw nb eb xb rb hL2 hexit hret hx hn hni hxi n5 e5 x5 r5 hnext nc ec xc rc hL3 hnext3 hexit3 hret3
          subst hA3 hC
          have c1 := F.bes (u := X1) (v := Y1) (u' := x) (v' := Y1) (.inr rfl) (.inr rfl) (.inl rfl) (.inr rfl)
          simp [nx, nx', ny, ny'] at c1
          simp [stdA, stdCmp, c1] at hb
        with_reducible refine hn _ ?_
        clear hn hx kk hb
        cbv
        exact hnext3 _ 3 (by omega) (by decide) ⟨⟨⟨rfl, rfl, fun _ => rfl⟩, ⟨rfl, rfl, fun _ => rfl⟩, ⟨rfl, rfl, fun _ => rfl⟩, ⟨rfl, rfl, fun _ => rfl⟩, ⟨rfl, rfl, fun _ => rfl⟩, ⟨rfl, rfl, fun _ => rfl⟩, ⟨rfl, rfl, fun _ => rfl⟩, trivial⟩, ⟨⟨rfl, rfl, fun _ => rfl⟩, ⟨rfl, rfl, fun _ => rfl⟩, trivial⟩, rfl, rfl⟩
      · with_reducible refine run_seq_cut fun kk hn hx => ?_
        cbv
        with_reducible refine hn _ ?_
        clear hn hx kk
        with_reducible refine run_seq_cut fun kk hn hx => ?_
        cbv
        repeat' first | (with_reducible intro hb; cbv) | with_reducible refine And.intro ?_ ?_
        · exfalso
          clear hL hk hnw hxw kw nb eb xb rb hL2 hexit hret hx hn hni hxi n5 e5 x5 r5 hnext nc ec xc rc hL3 hnext3 hexit3 hret3
          subst hA3 hC
          have c1 := F.bes (u := X1) (v := Y1) (u' := X1) (v' := Y1) (.inr rfl) (.inr rfl) (.inr rfl) (.inr rfl)
          simp [nx, nx', ny, ny'] at c1
          simp [stdA, stdCmp, c1] at hb
        with_reducible refine hn _ ?_
        clear hn hx kk hb
        cbv
        exact hnext3 _ 4 (by omega) (by decide) ⟨⟨⟨rfl, rfl, fun _ => rfl⟩, ⟨rfl, rfl, fun _ => rfl⟩, ⟨rfl, rfl, fun _ => rfl⟩, ⟨rfl, rfl, fun _ => rfl⟩, ⟨rfl, rfl, fun _ => rfl⟩, ⟨rfl, rfl, fun _ => rfl⟩, ⟨rfl, rfl, fun _ => rfl⟩, trivial⟩, ⟨⟨rfl, rfl, fun _ => rfl⟩, ⟨rfl, rfl, fun _ => rfl⟩, trivial⟩, rfl, rfl⟩
      · with_reducible refine run_seq_cut fun kk hn hx => ?_
        cbv
        with_reducible refine hx _ _ (by simp) ?_
        with_reducible refine hexit3 _ _ ?_
        with_reducible refine ec _ ?_
        with_reducible refine n5 _ ?_
        with_reducible refine hni _ ?_
        clear hn hx kk hnext3 hexit3 hret3 nc ec xc rc n5 e5 x5 r5 hni hxi
        cbv
        exact hnext _ 4 (by omega) (by decide) ⟨⟨⟨rfl, rfl, fun _ => rfl⟩, ⟨rfl, rfl, fun _ => rfl⟩, ⟨rfl, rfl, fun _ => rfl⟩, ⟨rfl, rfl, fun _ => rfl⟩, ⟨rfl, rfl, fun _ => rfl⟩, ⟨rfl, rfl, fun _ => rfl⟩, trivial⟩, ⟨⟨rfl, rfl, fun _ => rfl⟩, ⟨rfl, rfl, fun _ => rfl⟩, trivial⟩, rfl, rfl⟩
    · with_reducible refine hn _ ?_
      clear hn hx kk
      have hc : ¬ (X1 ≤ P ∧ Y1 ≤ Q) := by
        clear hL hk hnw hxw kw nb eb xb rb hL2 hexit hret hni hxi n5 e5 x5 r5 hnext
        subst hA2
        simp [stdA, stdCmp, aX, aY, aX2, aY2] at hb
        omega
      clear hb
      with_reducible refine run_seq_cut fun kk hn hx => ?_
      cbv
      with_reducible refine hn _ ?_
      clear hn hx kk
      with_reducible refine run_block_cut fun kc nc ec xc rc => ?_
      cbv
      refine hL2 _ _ _ (loop_rule (un := ⟨false, some [0, 1, 2, 3, 6, 7, 8, 9, 10, 11, 12, 13, 14, 16, 24, 44, 91, 131, 135, 154]⟩) tok tL3fOK mixed (fun k : Int => ⟨[(14, ⟨[], .c (.s (.lit .i64 k))⟩), (11, ⟨[], .c (.s (.lit .i64 3))⟩), (10, ⟨[], .c (.s (.int .i64 (c 4)))⟩), (7, ⟨[], .c (.s (.hp 1 0))⟩), (3, ⟨[], .c (.s (.hp 0 0))⟩), (8, ⟨[], .c (.s (.int .i64 P))⟩), (9, ⟨[], .c (.s (.int .i64 Q))⟩)], [(0, .fix true [.s (.int .i64 x), .s (.int .i64 y), .s (.int .i64 s)]), (1, .fix true [.s (.int .i64 x), .s (.int .i64 y), .s (.int .i64 H), .s (.int .i64 X1), .s (.int .i64 y), .s (.int .i64 H), .s (.int .i64 x), .s (.int .i64 Y1), .s (.int .i64 H), .s (.int .i64 X1), .s (.int .i64 Y1), .s (.int .i64 H)])], 2⟩)
        (fun k => k = 0 ∨ k = 1 ∨ k = 2 ∨ k = 3 ∨ k = 4) (fun k => (4 - k).toNat) 0 (.inl rfl) ?_ (fun _ i hi => absurd (hWr i hi) (by simp)) ?_)
      · have hq : c 3 = c 4 := by rw [hcq]; exact cqf3 hc
        rw [hq]
        exact ⟨⟨⟨rfl, rfl, fun _ => rfl⟩, ⟨rfl, rfl, fun _ => rfl⟩, ⟨rfl, rfl, fun _ => rfl⟩, ⟨rfl, rfl, fun _ => rfl⟩, ⟨rfl, rfl, fun _ => rfl⟩, ⟨rfl, rfl, fun _ => rfl⟩, ⟨rfl, rfl, fun _ => rfl⟩, trivial⟩, ⟨⟨rfl, rfl, fun _ => rfl⟩, ⟨rfl, rfl, fun _ => rfl⟩, trivial⟩, rfl, rfl⟩
      intro k hI A3 L3 k3 hA3 hL3 hnext3 hexit3 hret3
      rw [← hA3, ← hC, ← hR, ← hS, ← hX]
      rcases hI with rfl | rfl | rfl | rfl | rfl
      · with_reducible refine run_seq_cut fun kk hn hx => ?_
        cbv
        with_reducible refine hn _ ?_
        clear hn hx kk
        with_reducible refine run_seq_cut fun kk hn hx => ?_
        cbv
        repeat' first | (with_reducible intro hb; cbv) | with_reducible refine And.intro ?_ ?_
        · exfalso
          clear hL hk hnw hxw kw nb eb xb rb hL2 hexit hret hx hn hni hxi n5 e5 x5 r5 hnext nc ec xc rc hL3 hnext3 hexit3 hret3
          subst hA3 hC
          have c1 := F.bes (u := X1) (v := Y1) (u' := x) (v' := y) (.inr rfl) (.inr rfl) (.inl rfl) (.inl rfl)
          simp [nx, nx', ny, ny'] at c1
          simp [stdA, stdCmp, c1] at hb
        with_reducible refine hn _ ?_
        clear hn hx kk hb
        cbv
        exact hnext3 _ 1 (by omega) (by decide) ⟨⟨⟨rfl, rfl, fun _ => rfl⟩, ⟨rfl, rfl, fun _ => rfl⟩, ⟨rfl, rfl, fun _ => rfl⟩, ⟨rfl, rfl, fun _ => rfl⟩, ⟨rfl, rfl, fun _ => rfl⟩, ⟨rfl, rfl, fun _ => rfl⟩, ⟨rfl, rfl, fun _ => rfl⟩, trivial⟩, ⟨⟨rfl, rfl, fun _ => rfl⟩, ⟨rfl, rfl, fun _ => rfl⟩, trivial⟩, rfl, rfl⟩
      · with_reducible refine run_seq_cut fun kk hn hx => ?_
        cbv
        with_reducible refine hn _ ?_
        clear hn hx kk
        with_reducible refine run_seq_cut fun kk hn hx => ?_
        cbv
        repeat' first | (with_reducible intro hb; cbv) | with_reducible refine And.intro ?_ ?_
        · exfalso
          clear hL hk hnw hxw kw nb eb xb rb hL2 hexit hret hx hn hni hxi n5 e5 x5 r5 hnext nc ec xc rc hL3 hnext3 hexit3 hret3
          subst hA3 hC
          have c1 := F.bes (u := X1) (v := Y1) (u' := X1) (v' := y) (.inr rfl) (.inr rfl) (.inr rfl) (.inl rfl)
          simp [nx, nx', ny, ny'] at c1
          simp [stdA, stdCmp, c1] at hb
        with_reducible refine hn _ ?_
        clear hn hx kk hb
        cbv
        exact hnext3 _ 2 (by omega) (by decide) ⟨⟨⟨rfl, rfl, fun _ => rfl⟩, ⟨rfl, rfl, fun _ => rfl⟩, ⟨rfl, rfl, fun _ => rfl⟩, ⟨rfl, rfl, fun _ => rfl⟩, ⟨rfl, rfl, fun _ => rfl⟩, ⟨rfl, rfl, fun _ => rfl⟩, ⟨rfl, rfl, fun _ => rfl⟩, trivial⟩, ⟨⟨rfl, rfl, fun _ => rfl⟩, ⟨rfl, rfl, fun _ => rfl⟩, trivial⟩, rfl, rfl⟩
      · with_reducible refine run_seq_cut fun kk hn hx => ?_
        cbv
        with_reducible refine hn _ ?_
        clear hn hx kk
        with_reducible refine run_seq_cut fun kk hn hx => ?_
        cbv
        repeat' first | (with_reducible intro hb; cbv) | with_reducible refine And.intro ?_ ?_
        · exfalso
          clear hL hk hnw hxw kw nb eb xb rb hL2 hexit hret hx hn hni hxi n5 e5 x5 r5 hnext nc ec xc rc hL3 hnext3 hexit3 hret3
          subst hA3 hC
          have c1 := F.bes (u := X1) (v := Y1) (u' := x) (v' := Y1) (.inr rfl) (.inr rfl) (.inl rfl) (.inr rfl)
          simp [nx, nx', ny, ny'] at c1
          simp [stdA, stdCmp, c1] at hb
        with_reducible refine hn _ ?_
        clear hn hx kk hb
        cbv
        exact hnext3 _ 3 (by omega) (by decide) ⟨⟨⟨rfl, rfl, fun _ => rfl⟩, ⟨rfl, rfl, fun _ => rfl⟩, ⟨rfl, rfl, fun _ => rfl⟩, ⟨rfl, rfl, fun _ => rfl⟩, ⟨rfl, rfl, fun _ => rfl⟩, ⟨rfl, rfl, fun _ => rfl⟩, ⟨rfl, rfl, fun _ => rfl⟩, trivial⟩, ⟨⟨rfl, rfl, fun _ => rfl⟩, ⟨rfl, rfl, fun _ => rfl⟩, trivial⟩, rfl, rfl⟩
      · with_reducible refine run_seq_cut fun kk hn hx => ?_
        cbv
        with_reducible refine hn _ ?_
        clear hn hx kk
        with_reducible refine run_seq_cut fun kk hn hx => ?_
        cbv
        repeat' first | (with_reducible intro hb; cbv) | with_reducible refine And.intro ?_ ?_
        · exfalso
          clear hL hk hnw hxw kw nb eb xb rb hL2 hexit hret hx hn hni hxi n5 e5 x5 r5 hnext nc ec xc rc hL3 hnext3 hexit3 hret3
          subst hA3 hC
          have c1 := F.bes (u := X1) (v := Y1) (u' := X1) (v' := Y1) (.inr rfl) (.inr rfl) (.inr rfl) (.inr rfl)
          simp [nx, nx', ny, ny'] at c1
          simp [stdA, stdCmp, c1] at hb
        with_reducible refine hn _ ?_
        clear hn hx kk hb
        cbv
        exact hnext3 _ 4 (by omega) (by decide) ⟨⟨⟨rfl, rfl, fun _ => rfl⟩, ⟨rfl, rfl, fun _ => rfl⟩, ⟨rfl, rfl, fun _ => rfl⟩, ⟨rfl, rfl, fun _ => rfl⟩, ⟨rfl, rfl, fun _ => rfl⟩, ⟨rfl, rfl, fun _ => rfl⟩, ⟨rfl, rfl, fun _ => rfl⟩, trivial⟩, ⟨⟨rfl, rfl, fun _ => rfl⟩, ⟨rfl, rfl, fun _ => rfl⟩, trivial⟩, rfl, rfl⟩
      · with_reducible refine run_seq_cut fun kk hn hx => ?_
        cbv
        with_reducible refine hx _ _ (by simp) ?_
        with_reducible refine hexit3 _ _ ?_
        with_reducible refine ec _ ?_
        with_reducible refine n5 _ ?_
        with_reducible refine hni _ ?_
        clear hn hx kk hnext3 hexit3 hret3 nc ec xc rc n5 e5 x5 r5 hni hxi
        cbv
        exact hnext _ 4 (by omega) (by decide) ⟨⟨⟨rfl, rfl, fun _ => rfl⟩, ⟨rfl, rfl, fun _ => rfl⟩, ⟨rfl, rfl, fun _ => rfl⟩, ⟨rfl, rfl, fun _ => rfl⟩, ⟨rfl, rfl, fun _ => rfl⟩, ⟨rfl, rfl, fun _ => rfl⟩, trivial⟩, ⟨⟨rfl, rfl, fun _ => rfl⟩, ⟨rfl, rfl, fun _ => rfl⟩, trivial⟩, rfl, rfl⟩
  · with_reducible refine run_seq_cut fun kk hn hx => ?_
    cbv
    with_reducible refine hx _ _ (by simp) ?_
    with_reducible refine hexit _ _ ?_
    with_reducible refine eb _ ?_
    with_reducible refine hnw _ ?_
    clear nb eb xb rb kb hn hx kk hnw hxw kw hnext hexit hret k2
    cbv
    refine hk _ _ (Good.pure rfl fun ρ => ?_)
    have hq : c 4 = 1 := by rw [hcq]; exact cq4 bP bQ eX eY
    subst hA
    show Value.bool (stdCmp .eql (c 4) 1) = .bool true
    rw [hq]; rfl
end Go.Eng
