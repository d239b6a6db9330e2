/- Contract: the statement CellKeys. -/
import Derived.Test.YtlcplkldielemaaCC4
import Derived.Test.YtlcplkldielemaaCK
namespace Go.Eng
open Go.Proofs
set_option maxRecDepth 100000
set_option linter.all false
set_option exponentiation.threshold 3000

def tL3k (A : Alg) (S : SW) (R : SR) (X : SX) (C : SC) : List (Nat × Sem') := (7, heapSem [] A (gTrue)) :: ((tL2 A S R X C))
theorem tL3kOK : COK Try.prog (look (tL3k stdA stdW stdR stdX stdC)) := COK_cons ok_known (tL2OK)

/-- each second bit from bit d on, as the statement reckons it -/
def dec6 (d k : Int) : Int := stdBin .add .i64 (stdBin .add .i64 (stdBin .add .i64 (stdBin .add .i64 (stdBin .add .i64 (stdBin .add .i64 0
  (stdBin .shl .i64 (stdBin .and .i64 (stdBin .shr .i64 k d) 1) 0)) (stdBin .shl .i64 (stdBin .and .i64 (stdBin .shr .i64 k (2 + d)) 1) 1)) (stdBin .shl .i64 (stdBin .and .i64 (stdBin .shr .i64 k (4 + d)) 1) 2))
  (stdBin .shl .i64 (stdBin .and .i64 (stdBin .shr .i64 k (6 + d)) 1) 3)) (stdBin .shl .i64 (stdBin .and .i64 (stdBin .shr .i64 k (8 + d)) 1) 4)) (stdBin .shl .i64 (stdBin .and .i64 (stdBin .shr .i64 k (10 + d)) 1) 5)

theorem dec6_0 (k : Int) (h0 : 0 ≤ k) (h1 : k < 4096) : dec6 0 k = dsp 6 k := by
  unfold dec6
  rw [bit_shl k 0 0 0 rfl (by omega) (by omega) h0 (by omega) 0 (by omega) (by omega) 0 rfl]
  rw [bit_shl k 2 1 (2 + 0) rfl (by omega) (by omega) h0 (by omega) _ (by omega) (by omega) 1 rfl]
  rw [bit_shl k 4 2 (4 + 0) rfl (by omega) (by omega) h0 (by omega) _ (by omega) (by omega) 2 rfl]
  rw [bit_shl k 6 3 (6 + 0) rfl (by omega) (by omega) h0 (by omega) _ (by omega) (by omega) 3 rfl]
  rw [bit_shl k 8 4 (8 + 0) rfl (by omega) (by omega) h0 (by omega) _ (by omega) (by omega) 4 rfl]
  rw [bit_shl k 10 5 (10 + 0) rfl (by omega) (by omega) h0 (by omega) _ (by omega) (by omega) 5 rfl]
  simp only [dsp]
  omega

theorem dec6_1 (k : Int) (h0 : 0 ≤ k) (h1 : k < 4096) : dec6 1 k = dsp 6 (k / 2) := by
  unfold dec6
  rw [bit_shl k 1 0 1 rfl (by omega) (by omega) h0 (by omega) 0 (by omega) (by omega) 0 rfl]
  rw [bit_shl k 3 1 (2 + 1) rfl (by omega) (by omega) h0 (by omega) _ (by omega) (by omega) 1 rfl]
  rw [bit_shl k 5 2 (4 + 1) rfl (by omega) (by omega) h0 (by omega) _ (by omega) (by omega) 2 rfl]
  rw [bit_shl k 7 3 (6 + 1) rfl (by omega) (by omega) h0 (by omega) _ (by omega) (by omega) 3 rfl]
  rw [bit_shl k 9 4 (8 + 1) rfl (by omega) (by omega) h0 (by omega) _ (by omega) (by omega) 4 rfl]
  rw [bit_shl k 11 5 (10 + 1) rfl (by omega) (by omega) h0 (by omega) _ (by omega) (by omega) 5 rfl]
  simp only [dsp]
  omega

theorem sgn_anti (a b : Int) : sgn a b = - sgn b a := by
  unfold sgn
  by_cases h1 : a < b
  · rw [if_pos h1, if_neg (by omega), if_pos h1]
  · by_cases h2 : b < a
    · rw [if_neg h1, if_pos h2, if_pos h2]; rfl
    · rw [if_neg h1, if_neg h2, if_neg h2, if_neg h1]; rfl

theorem key_cell {x y : Int} (x0 : 0 ≤ x) (x1 : x < 64) (y0 : 0 ≤ y) (y1 : y < 64) : stdC.key x y 1 = spr 6 x + 2 * spr 6 y := by
  have hc : cIs x y 1 = true := by
    simp only [cIs, Bool.and_eq_true, decide_eq_true_eq]
    exact ⟨⟨⟨⟨⟨⟨rfl, x0⟩, y0⟩, by omega⟩, by omega⟩, by omega⟩, by omega⟩
  show (if cIs x y 1 = true then keyE x y else -1) = _
  rw [if_pos hc, key_spr x0 x1 y0 y1]

theorem keys_law (x y u v : Int) (x0 : 0 ≤ x) (x1 : x < 64) (y0 : 0 ≤ y) (y1 : y < 64) (u0 : 0 ≤ u) (u1 : u < 64) (v0 : 0 ≤ v) (v1 : v < 64) :
    (if (if (if (if (dec6 0 (stdC.key x y 1) == x) = true then (dec6 1 (stdC.key x y 1) == y) else false) = true then decide (stdC.key x y 1 < 4096) else false) = true then
      ((stdC.key u v 1 == stdC.key x y 1) == ((x == u) && (y == v))) else false) = true then (stdC.cmp x y 1 u v 1 == stdBin .sub .i64 0 (stdC.cmp u v 1 x y 1)) else false) = true := by
  have e1 := key_cell x0 x1 y0 y1
  have e2 := key_cell u0 u1 v0 v1
  have b1 := spr_bd 6 x
  have b2 := spr_bd 6 y
  have b3 := spr_bd 6 u
  have b4 := spr_bd 6 v
  have p : (4 : Int) ^ 6 = 4096 := by decide
  rw [p] at b1 b2 b3 b4
  have d0 := dsp_spr 6 x y x0 (by simpa using x1)
  have d1 := dsp_spr2 6 x y y0 (by simpa using y1)
  have f0 := dsp_spr 6 u v u0 (by simpa using u1)
  have f1 := dsp_spr2 6 u v v0 (by simpa using v1)
  have g0 : dec6 0 (stdC.key x y 1) = x := by rw [e1, dec6_0 _ (by omega) (by omega)]; exact d0
  have g1 : dec6 1 (stdC.key x y 1) = y := by rw [e1, dec6_1 _ (by omega) (by omega)]; exact d1
  have g2 : (stdC.key u v 1 == stdC.key x y 1) = ((x == u) && (y == v)) := by
    rw [Bool.eq_iff_iff]
    simp only [Bool.and_eq_true, beq_iff_eq]
    constructor
    · intro h
      rw [e1, e2] at h
      rw [h] at f0 f1
      exact ⟨d0.symm.trans f0, d1.symm.trans f1⟩
    · rintro ⟨rfl, rfl⟩; rfl
  have g3 : stdC.cmp x y 1 u v 1 = - stdC.cmp u v 1 x y 1 := by
    show (if sgn (stdC.key x y 1) (stdC.key u v 1) = 0 then sgn 1 1 else sgn (stdC.key x y 1) (stdC.key u v 1)) = - (if sgn (stdC.key u v 1) (stdC.key x y 1) = 0 then sgn 1 1 else sgn (stdC.key u v 1) (stdC.key x y 1))
    rw [sgn_anti (stdC.key x y 1) (stdC.key u v 1)]
    by_cases h : sgn (stdC.key u v 1) (stdC.key x y 1) = 0
    · rw [if_pos h, if_pos (by omega)]; rfl
    · rw [if_neg h, if_neg (by omega)]
  have g4 : -1 ≤ stdC.cmp u v 1 x y 1 ∧ stdC.cmp u v 1 x y 1 ≤ 1 := by
    have hs : ∀ a b, -1 ≤ sgn a b ∧ sgn a b ≤ 1 := fun a b => by unfold sgn; split; omega; split <;> omega
    show -1 ≤ (if sgn (stdC.key u v 1) (stdC.key x y 1) = 0 then sgn 1 1 else sgn (stdC.key u v 1) (stdC.key x y 1)) ∧ (if sgn (stdC.key u v 1) (stdC.key x y 1) = 0 then sgn 1 1 else sgn (stdC.key u v 1) (stdC.key x y 1)) ≤ 1
    split <;> exact hs _ _
  have g5 : stdBin .sub .i64 0 (stdC.cmp u v 1 x y 1) = - stdC.cmp u v 1 x y 1 := by simp only [stdBin, IntKind.wrap_i64]; omega
  rw [g0, g1, g2, g3, g5, e1]
  simp only [beq_self_eq_true, if_true]
  rw [decide_eq_true (show spr 6 x + 2 * spr 6 y < 4096 by omega)]
  rfl

def gKeys (A : Alg) : List CV → List Blk → Option LR
  | args, [] => match ints [.u8, .u8, .u8, .u8] args with
    | some [x, y, u, v] => some ⟨[A.cmp .leq 0 x, A.cmp .lss x 256, A.cmp .leq 0 y, A.cmp .lss y 256, A.cmp .leq 0 u, A.cmp .lss u 256, A.cmp .leq 0 v, A.cmp .lss v 256], .c (.s (.bool true)), []⟩
    | _ => none
  | _, _ => none

set_option maxHeartbeats 1000000 in
theorem ok_keys : CallOK Try.prog 5 (heapSem [.v, .v, .v, .v] stdA (gKeys stdA)) := by
  refine callOK_heap (un := true) tok tL3kOK mixed (fn := Try.f5) (by kernel_rfl) (by kernel_rfl) (by kernel_rfl) (by decide +kernel) ?_
  intro w Wr args bs r hg ho hWr A L k hA hL hk
  obtain ⟨C, hC⟩ : ∃ C, C = stdC := ⟨_, rfl⟩
  obtain ⟨R, hR⟩ : ∃ R, R = stdR := ⟨_, rfl⟩
  obtain ⟨S, hS⟩ : ∃ S, S = stdW := ⟨_, rfl⟩
  obtain ⟨X, hX⟩ : ∃ X, X = stdX := ⟨_, rfl⟩
  (try rw [← hC])
  (try rw [← hR])
  (try rw [← hS])
  (try rw [← hX])
  (try rw [← hA])
  unfold gKeys at hg
  split at hg
  rotate_left
  · cases hg
  split at hg
  rotate_left
  · cases hg
  rename_i x y u v hargs
  have hargs := ints_eq hargs
  simp only [List.zipWith_cons_cons, List.zipWith_nil_left] at hargs
  subst hargs
  simp only [Option.some.injEq] at hg
  subst hg
  have x0 := (ho_cons ho).1; replace ho := (ho_cons ho).2
  have x1 := (ho_cons ho).1; replace ho := (ho_cons ho).2
  have y0 := (ho_cons ho).1; replace ho := (ho_cons ho).2
  have y1 := (ho_cons ho).1; replace ho := (ho_cons ho).2
  have u0 := (ho_cons ho).1; replace ho := (ho_cons ho).2
  have u1 := (ho_cons ho).1; replace ho := (ho_cons ho).2
  have v0 := (ho_cons ho).1; replace ho := (ho_cons ho).2
  have v1 := (ho_cons ho).1; replace ho := (ho_cons ho).2
  clear ho
  simp only [stdA, stdCmp, decide_eq_true_eq] at x0 x1 y0 y1 u0 u1 v0 v1
  refine runF_body rfl ?_
  with_reducible refine run_seq_cut fun kk hn hx => ?_
  cbv
  repeat' first | (with_reducible intro hb; cbv) | with_reducible refine And.intro ?_ ?_
  all_goals first | (with_reducible refine hn _ ?_; clear hn hx kk) | ((try subst hA); (try subst hS); (try subst hR); (try subst hX); (try subst hC); decide +kernel)
  with_reducible refine run_seq_cut fun kk hn hx => ?_
  cbv
  repeat' first | (with_reducible intro hb; cbv) | with_reducible refine And.intro ?_ ?_
  all_goals first | (with_reducible refine hn _ ?_; clear hn hx kk) | ((try subst hA); (try subst hS); (try subst hR); (try subst hX); (try subst hC); decide +kernel)
  with_reducible refine run_seq_cut fun kk hn hx => ?_
  cbv
  repeat' first | (with_reducible intro hb; cbv) | with_reducible refine And.intro ?_ ?_
  all_goals first | (with_reducible refine hn _ ?_; clear hn hx kk) | ((try subst hA); (try subst hS); (try subst hR); (try subst hX); (try subst hC); decide +kernel)
  with_reducible refine run_seq_cut fun kk hn hx => ?_
  cbv
  repeat' first | (with_reducible intro hb; cbv) | with_reducible refine And.intro ?_ ?_
  all_goals first | (with_reducible refine hn _ ?_; clear hn hx kk) | ((try subst hA); (try subst hS); (try subst hR); (try subst hX); (try subst hC); decide +kernel)
  with_reducible refine run_seq_cut fun kk hn hx => ?_
  cbv
  repeat' first | (with_reducible intro hb; cbv) | with_reducible refine And.intro ?_ ?_
  all_goals first | (with_reducible refine hn _ ?_; clear hn hx kk) | ((try subst hA); (try subst hS); (try subst hR); (try subst hX); (try subst hC); decide +kernel)
  with_reducible refine run_seq_cut fun kk hn hx => ?_
  cbv
  repeat' first | (with_reducible intro hb; cbv) | with_reducible refine And.intro ?_ ?_
  all_goals first | (with_reducible refine hn _ ?_; clear hn hx kk) | ((try subst hA); (try subst hS); (try subst hR); (try subst hX); (try subst hC); decide +kernel)
  with_reducible refine run_seq_cut fun kk hn hx => ?_
  cbv
  repeat' first | (with_reducible intro hb; cbv) | with_reducible refine And.intro ?_ ?_
  all_goals first | (with_reducible refine hn _ ?_; clear hn hx kk) | ((try subst hA); (try subst hS); (try subst hR); (try subst hX); (try subst hC); decide +kernel)
  cbv
  refine hk _ _ (Good.pure rfl fun ρ => ?_)
  clear hk hL
  subst hA hC
  have m64 : ∀ z : Int, 0 ≤ z → z < 256 → IntKind.i64.wrap (stdBin .rem .u8 z 64) = z % 64 := fun z h1 h2 => by
    simp only [stdBin, IntKind.wrap_i64]; rw [Int.tmod_eq_emod_of_nonneg h1]; omega
  have l := keys_law (x % 64) (y % 64) (u % 64) (v % 64) (by omega) (by omega) (by omega) (by omega) (by omega) (by omega) (by omega) (by omega)
  rw [← m64 x x0 x1, ← m64 y y0 y1, ← m64 u u0 u1, ← m64 v v0 v1] at l
  exact congrArg Value.bool l
end Go.Eng
