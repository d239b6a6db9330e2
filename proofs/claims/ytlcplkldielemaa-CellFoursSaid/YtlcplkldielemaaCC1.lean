/- Contracts: squares. -/
import Derived.Test.YtlcplkldielemaaCW8
namespace Go.Eng
open Go.Proofs
set_option maxRecDepth 100000
set_option linter.all false
set_option exponentiation.threshold 3000

/-- is a number a power of two up to 64 -/
def pw2 (s : Int) : Bool := decide (s = 1) || decide (s = 2) || decide (s = 4) || decide (s = 8) || decide (s = 16) || decide (s = 32) || decide (s = 64)
def cIs (x y s : Int) : Bool := pw2 s && decide (0 ≤ x) && decide (0 ≤ y) && decide (x ≤ 64 - s) && decide (y ≤ 64 - s) && decide (x % s = 0) && decide (y % s = 0)
def firstNZ : List Int → Int
  | [] => 0
  | x :: r => if x = 0 then firstNZ r else x
/-- the key, by turns a bit of x, of y -/
def keyE (x y : Int) : Int := [(0 : Int), 1, 2, 3, 4, 5, 6, 7].foldl (fun (o i : Int) => stdBin .or .i64 (stdBin .or .i64 o (stdBin .shl .i64 (stdBin .and .i64 (stdBin .shr .i64 x i) 1) (2 * i))) (stdBin .shl .i64 (stdBin .and .i64 (stdBin .shr .i64 y i) 1) (2 * i + 1))) 0
def com (a b c d : Int) : Int := min b d - max a c
def cBes (x y s u v t : Int) : Bool := cIs x y s && cIs u v t && ((decide (com x (x + s) u (u + t) = 0) && decide (com y (y + s) v (v + t) > 0)) || (decide (com x (x + s) u (u + t) > 0) && decide (com y (y + s) v (v + t) = 0)))

structure SC where
  is : Int → Int → Int → Bool
  sgn : Int → Int → Int
  nz : List Int → Int
  key : Int → Int → Int → Int
  cmp : Int → Int → Int → Int → Int → Int → Int
  has : Int → Int → Int → Int → Int → Bool
  bes : Int → Int → Int → Int → Int → Int → Bool
  upOK : Int → Int → Int → Bool
  up1 : Int → Int → Int → Int
  up2 : Int → Int → Int → Int
  up3 : Int → Int → Int → Int
  rg : Int → Bool

def stdC : SC where
  is := cIs
  sgn := Eng.sgn
  nz := firstNZ
  key x y s := if cIs x y s then keyE x y else -1
  cmp x y s u v t := if Eng.sgn (if cIs x y s then keyE x y else -1) (if cIs u v t then keyE u v else -1) = 0 then Eng.sgn s t else Eng.sgn (if cIs x y s then keyE x y else -1) (if cIs u v t then keyE u v else -1)
  has x y s p q := cIs x y s && decide (x ≤ p) && decide (p ≤ x + s) && decide (y ≤ q) && decide (q ≤ y + s)
  bes := cBes
  upOK x y s := cIs x y s && decide (s ≠ 64)
  up1 x y s := if cIs x y s && decide (s ≠ 64) then x - x % (2 * s) else 0
  up2 x y s := if cIs x y s && decide (s ≠ 64) then y - y % (2 * s) else 0
  up3 x y s := if cIs x y s && decide (s ≠ 64) then 2 * s else 0
  rg n := decide (-9223372036854775808 ≤ n) && decide (n < 9223372036854775808)

theorem pw2_and (s : Int) (h1 : 1 ≤ s) (h2 : s ≤ 64) : (stdBin .and .i64 s (s - 1) == 0) = pw2 s := by
  have key : ∀ n : Nat, n < 65 → 1 ≤ n → (stdBin .and .i64 (n : Int) ((n : Int) - 1) == 0) = pw2 (n : Int) := by decide +kernel
  have := key s.toNat (by omega) (by omega)
  rwa [show ((s.toNat : Nat) : Int) = s from by omega] at this

theorem pw2_bd {s : Int} (h : pw2 s = true) : 1 ≤ s ∧ s ≤ 64 := by
  simp only [pw2, Bool.or_eq_true, decide_eq_true_eq] at h; omega


def gNaN : List CV → List Blk → Option LR
  | [.s (.int .i64 _)], [] => some ⟨[], .c (.s (.tt false)), []⟩
  | _, _ => none
theorem ok_nan : CallOK Try.prog 25 (heapSem [.v] stdA (gNaN)) := by
  refine callOK_heap (un := ⟨false, none⟩) tok noCOK mixed (fn := Try.f25) (by kernel_rfl) (by kernel_rfl) (by kernel_rfl) (by decide +kernel) ?_
  intro w Wr args bs r hg ho hWr A L k hA hL hk
  (try rw [← hA])
  unfold gNaN at hg
  split at hg
  rotate_left
  · cases hg
  simp only [Option.some.injEq] at hg
  subst hg
  rename_i n
  cbv
  refine hk _ _ (Good.pure rfl fun ρ => ?_)
  subst hA
  show Value.bool (n != n) = .bool false
  simp

def tK1 (A : Alg) : List (Nat × Sem') := (25, heapSem [.v] A (gNaN)) :: ([])
theorem tK1OK : COK Try.prog (look (tK1 stdA)) := COK_cons ok_nan (COK_nil)

def gCompare (C : SC) : List CV → List Blk → Option LR
  | [.s (.int .i64 a), .s (.int .i64 b)], [] => some ⟨[], .c (.s (.int .i64 (C.sgn a b))), []⟩
  | _, _ => none
theorem ok_compare : CallOK Try.prog 19 (heapSem [.v, .v] stdA (gCompare stdC)) := by
  refine callOK_heap (un := ⟨false, none⟩) tok tK1OK mixed (fn := Try.f19) (by kernel_rfl) (by kernel_rfl) (by kernel_rfl) (by decide +kernel) ?_
  intro w Wr args bs r hg ho hWr A L k hA hL hk
  obtain ⟨C, hC⟩ : ∃ C, C = stdC := ⟨_, rfl⟩
  (try rw [← hC])
  (try rw [← hA])
  unfold gCompare at hg
  split at hg
  rotate_left
  · cases hg
  simp only [Option.some.injEq] at hg
  subst hg
  rename_i a b
  cbv
  repeat' first | (with_reducible intro hb; cbv) | with_reducible refine And.intro ?_ ?_
  all_goals subst hC hA
  all_goals refine hk _ _ (Good.pure rfl fun ρ => ?_)
  · show Value.int .i64 (-1) = .int .i64 (sgn a b)
    have hb : decide (a < b) = true := hb
    rw [sgn, if_pos (of_decide_eq_true hb)]
  · rename_i hb1
    have hb : decide (a > b) = true := hb
    have hb1 : decide (a < b) = false := hb1
    show Value.int .i64 1 = .int .i64 (sgn a b)
    rw [sgn, if_neg (of_decide_eq_false hb1), if_pos (of_decide_eq_true hb)]
  · rename_i hb1
    have hb : decide (a > b) = false := hb
    have hb1 : decide (a < b) = false := hb1
    show Value.int .i64 0 = .int .i64 (sgn a b)
    rw [sgn, if_neg (of_decide_eq_false hb1), if_neg (of_decide_eq_false hb)]

def gIsC (C : SC) : List CV → List Blk → Option LR
  | [.g [.s (.int .i64 x), .s (.int .i64 y), .s (.int .i64 s)]], [] => some ⟨[], .c (.s (.bool (C.is x y s))), []⟩
  | _, _ => none

theorem cIs_eval (x y s : Int) : stdA.ite (stdA.ite (stdA.ite (stdA.ite (stdA.ite (stdA.ite (stdA.ite (stdA.ite (stdA.cmp .geq s 1) (stdA.cmp .leq s 64) false) (stdA.cmp .eql (stdA.bin .and .i64 s (stdA.bin .sub .i64 s 1)) 0) false) (stdA.cmp .geq x 0) false) (stdA.cmp .geq y 0) false)
    (stdA.cmp .leq x (stdA.bin .sub .i64 64 s)) false) (stdA.cmp .leq y (stdA.bin .sub .i64 64 s)) false) (stdA.cmp .eql (stdA.bin .rem .i64 x s) 0) false) (stdA.cmp .eql (stdA.bin .rem .i64 y s) 0) false = cIs x y s := by
  simp only [stdA, stdCmp, Bool.if_false_right, Bool.decide_eq_true]
  by_cases hs : 1 ≤ s ∧ s ≤ 64
  · have e1 : stdBin .sub .i64 s 1 = s - 1 := by simp only [stdBin, IntKind.wrap_i64]; omega
    have e2 : stdBin .sub .i64 64 s = 64 - s := by simp only [stdBin, IntKind.wrap_i64]; omega
    rw [e1, e2, pw2_and s hs.1 hs.2]
    rw [Bool.eq_iff_iff]
    simp only [cIs, Bool.and_eq_true, decide_eq_true_eq, beq_iff_eq]
    have hm : ∀ z : Int, 0 ≤ z → stdBin .rem .i64 z s = z % s := fun z hz => Int.tmod_eq_emod_of_nonneg hz
    constructor
    · rintro ⟨⟨⟨⟨⟨⟨⟨_, h⟩, h3⟩, h4⟩, h5⟩, h6⟩, h7⟩, h8⟩
      rw [hm x h3] at h7; rw [hm y h4] at h8
      exact ⟨⟨⟨⟨⟨⟨h, h3⟩, h4⟩, h5⟩, h6⟩, h7⟩, h8⟩
    · rintro ⟨⟨⟨⟨⟨⟨h, h3⟩, h4⟩, h5⟩, h6⟩, h7⟩, h8⟩
      rw [hm x h3, hm y h4]
      exact ⟨⟨⟨⟨⟨⟨⟨⟨hs.1, hs.2⟩, h⟩, h3⟩, h4⟩, h5⟩, h6⟩, h7⟩, h8⟩
  · have e1 : (decide (s ≥ 1) && decide (s ≤ 64)) = false := by rw [← Bool.decide_and]; exact decide_eq_false hs
    have e2 : pw2 s = false := by
      rw [Bool.eq_false_iff]; exact fun h => hs (pw2_bd h)
    simp only [e1, Bool.false_and, cIs, e2]

theorem ok_isC : CallOK Try.prog 8 (heapSem [.v] stdA (gIsC stdC)) := by
  refine callOK_heap (un := ⟨false, none⟩) tok tK1OK mixed (fn := Try.f8) (by kernel_rfl) (by kernel_rfl) (by kernel_rfl) (by decide +kernel) ?_
  intro w Wr args bs r hg ho hWr A L k hA hL hk
  obtain ⟨C, hC⟩ : ∃ C, C = stdC := ⟨_, rfl⟩
  (try rw [← hC])
  (try rw [← hA])
  unfold gIsC at hg
  split at hg
  rotate_left
  · cases hg
  simp only [Option.some.injEq] at hg
  subst hg
  rename_i x y s
  cbv
  repeat' first | (with_reducible intro hb; cbv) | with_reducible refine And.intro ?_ ?_
  · (try clear hk); (try clear hL); (try clear hexit hnext hret); (try clear hexit2 hnext2 hret2); (try clear hL2); (try clear hL3); (try clear hexit3 hnext3 hret3); (try subst hA3); (try subst hA2); (try subst hA); (try simp only [toZn] at *); (try simp only [zn] at *); (try simp only [stdA, stdCmp, stdBin, Bool.if_false_right, Bool.if_true_left, Bool.decide_eq_true, Bool.and_eq_false_iff, Bool.or_eq_false_iff, IntKind.wrap_i64, IntKind.wrap_u32, IntKind.wrap_u8, w_u64, Int.zero_add, Int.sub_zero, ofNat_cast, beq_true, Bool.or_eq_true, Bool.and_eq_true, Bool.not_eq_true', decide_eq_true_eq, decide_eq_false_iff_not, beq_iff_eq, bne_iff_ne, beq_eq_false_iff_ne, ne_eq, if_true, if_false] at *); omega
  · (try clear hk); (try clear hL); (try clear hexit hnext hret); (try clear hexit2 hnext2 hret2); (try clear hL2); (try clear hL3); (try clear hexit3 hnext3 hret3); (try subst hA3); (try subst hA2); (try subst hA); (try simp only [toZn] at *); (try simp only [zn] at *); (try simp only [stdA, stdCmp, stdBin, Bool.if_false_right, Bool.if_true_left, Bool.decide_eq_true, Bool.and_eq_false_iff, Bool.or_eq_false_iff, IntKind.wrap_i64, IntKind.wrap_u32, IntKind.wrap_u8, w_u64, Int.zero_add, Int.sub_zero, ofNat_cast, beq_true, Bool.or_eq_true, Bool.and_eq_true, Bool.not_eq_true', decide_eq_true_eq, decide_eq_false_iff_not, beq_iff_eq, bne_iff_ne, beq_eq_false_iff_ne, ne_eq, if_true, if_false] at *); omega
  · subst hA hC
    exact hk _ _ (Good.pure rfl fun ρ => congrArg Value.bool (cIs_eval x y s))

def gBoxed (A : Alg) : List CV → List Blk → Option LR
  | [.g [.s (.int .i64 x), .s (.int .i64 y), .s (.int .i64 s)]], [] => some ⟨[], .c (.g [.s (.int .i64 x), .s (.int .i64 (A.bin .add .i64 x s)), .s (.int .i64 y), .s (.int .i64 (A.bin .add .i64 y s))]), []⟩
  | _, _ => none
theorem ok_boxed : CallOK Try.prog 20 (heapSem [.v] stdA (gBoxed stdA)) := by
  refine callOK_heap (un := ⟨false, none⟩) tok tK1OK mixed (fn := Try.f20) (by kernel_rfl) (by kernel_rfl) (by kernel_rfl) (by decide +kernel) ?_
  intro w Wr args bs r hg ho hWr A L k hA hL hk
  (try rw [← hA])
  unfold gBoxed at hg
  split at hg
  rotate_left
  · cases hg
  simp only [Option.some.injEq] at hg
  subst hg
  cbv
  exact hk _ _ (Good.pure rfl fun ρ => by subst hA; rfl)

def gCom (A : Alg) : List CV → List Blk → Option LR
  | [.g [.s (.int .i64 a), .s (.int .i64 b)], .g [.s (.int .i64 c), .s (.int .i64 d)]], [] => some ⟨[], .c (.s (.int .i64 (A.bin .sub .i64 (A.mn b d) (A.mx a c)))), []⟩
  | _, _ => none
theorem ok_com : CallOK Try.prog 21 (heapSem [.v, .v] stdA (gCom stdA)) := by
  refine callOK_heap (un := ⟨false, none⟩) tok tK1OK mixed (fn := Try.f21) (by kernel_rfl) (by kernel_rfl) (by kernel_rfl) (by decide +kernel) ?_
  intro w Wr args bs r hg ho hWr A L k hA hL hk
  (try rw [← hA])
  unfold gCom at hg
  split at hg
  rotate_left
  · cases hg
  simp only [Option.some.injEq] at hg
  subst hg
  cbv
  exact hk _ _ (Good.pure rfl fun ρ => by subst hA; rfl)

def gHasS (A : Alg) : List CV → List Blk → Option LR
  | [.g [.s (.int .i64 a), .s (.int .i64 b)], .s (.int .i64 n)], [] => some ⟨[], .c (.s (.bool (A.ite (A.cmp .geq n a) (A.cmp .leq n b) false))), []⟩
  | _, _ => none
theorem ok_hasS : CallOK Try.prog 22 (heapSem [.v, .v] stdA (gHasS stdA)) := by
  refine callOK_heap (un := ⟨false, none⟩) tok tK1OK mixed (fn := Try.f22) (by kernel_rfl) (by kernel_rfl) (by kernel_rfl) (by decide +kernel) ?_
  intro w Wr args bs r hg ho hWr A L k hA hL hk
  (try rw [← hA])
  unfold gHasS at hg
  split at hg
  rotate_left
  · cases hg
  simp only [Option.some.injEq] at hg
  subst hg
  cbv
  exact hk _ _ (Good.pure rfl fun ρ => by subst hA; rfl)

def tK2 (A : Alg) (C : SC) : List (Nat × Sem') := (8, heapSem [.v] A (gIsC C)) :: (20, heapSem [.v] A (gBoxed A)) :: (21, heapSem [.v, .v] A (gCom A)) :: (22, heapSem [.v, .v] A (gHasS A)) :: (19, heapSem [.v, .v] A (gCompare C)) :: ((tK1 A))
theorem tK2OK : COK Try.prog (look (tK2 stdA stdC)) := COK_cons ok_isC (COK_cons ok_boxed (COK_cons ok_com (COK_cons ok_hasS (COK_cons ok_compare (tK1OK)))))

def gFour (A : Alg) (C : SC) : List CV → List Blk → Option LR
  | [.g [.s (.int .i64 x), .s (.int .i64 y), .s (.int .i64 s)]], [] => some ⟨[C.is x y s, A.cmp .neq s 1],
      .c (.g [.s (.int .i64 x), .s (.int .i64 y), .s (.int .i64 (A.bin .quo .i64 s 2)), .s (.int .i64 (A.bin .add .i64 x (A.bin .quo .i64 s 2))), .s (.int .i64 y), .s (.int .i64 (A.bin .quo .i64 s 2)),
        .s (.int .i64 x), .s (.int .i64 (A.bin .add .i64 y (A.bin .quo .i64 s 2))), .s (.int .i64 (A.bin .quo .i64 s 2)), .s (.int .i64 (A.bin .add .i64 x (A.bin .quo .i64 s 2))), .s (.int .i64 (A.bin .add .i64 y (A.bin .quo .i64 s 2))), .s (.int .i64 (A.bin .quo .i64 s 2))]), []⟩
  | _, _ => none
theorem ok_four : CallOK Try.prog 9 (heapSem [.v] stdA (gFour stdA stdC)) := by
  refine callOK_heap (un := ⟨false, none⟩) tok tK2OK mixed (fn := Try.f9) (by kernel_rfl) (by kernel_rfl) (by kernel_rfl) (by decide +kernel) ?_
  intro w Wr args bs r hg ho hWr A L k hA hL hk
  obtain ⟨C, hC⟩ : ∃ C, C = stdC := ⟨_, rfl⟩
  (try rw [← hC])
  (try rw [← hA])
  unfold gFour at hg
  split at hg
  rotate_left
  · cases hg
  simp only [Option.some.injEq] at hg
  subst hg
  rename_i x y s
  have o1 : stdC.is x y s = true := ho _ (List.mem_cons_self ..)
  have o2 : (s != 1) = true := ho _ (List.mem_cons_of_mem _ (List.mem_cons_self ..))
  cbv
  repeat' first | (with_reducible intro hb; cbv) | with_reducible refine And.intro ?_ ?_
  · exfalso
    subst hA hC
    have hb : (if (!stdC.is x y s) = true then true else (s == 1)) = true := hb
    rw [o1] at hb
    simp at hb o2
    exact o2 hb
  · exact hk _ _ (Good.pure rfl fun ρ => by subst hA; rfl)

end Go.Eng
