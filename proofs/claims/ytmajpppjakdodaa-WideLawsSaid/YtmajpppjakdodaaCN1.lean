/- Contracts: sums, differences of words. -/
import Derived.Test.YtmajpppjakdodaaCW4
import Derived.Test.YtmajpppjakdodaaSpecV
import Derived.Test.YtmajpppjakdodaaEngY
namespace Go.Eng
open Go.Proofs
set_option maxRecDepth 100000
set_option linter.all false
set_option exponentiation.threshold 3000

def gAdd32 (A : Alg) (V : SV) : List CV → List Blk → Option LR
  | [.s (.int .u32 x), .s (.int .u32 y), .s (.int .u32 c)], [] => some ⟨[A.cmp .leq 0 x, A.cmp .lss x 4294967296, A.cmp .leq 0 y, A.cmp .lss y 4294967296, A.cmp .leq 0 c, A.cmp .leq c 1], .t [.s (.int .u32 (V.adds x y c)), .s (.int .u32 (V.addc x y c))], []⟩
  | _, _ => none
def gSub32 (A : Alg) (V : SV) : List CV → List Blk → Option LR
  | [.s (.int .u32 x), .s (.int .u32 y), .s (.int .u32 c)], [] => some ⟨[A.cmp .leq 0 x, A.cmp .lss x 4294967296, A.cmp .leq 0 y, A.cmp .lss y 4294967296, A.cmp .leq 0 c, A.cmp .leq c 1], .t [.s (.int .u32 (V.subs x y c)), .s (.int .u32 (V.subc x y c))], []⟩
  | _, _ => none
def gDiv32 (A : Alg) (V : SV) : List CV → List Blk → Option LR
  | [.s (.int .u32 x), .s (.int .u32 y), .s (.int .u32 c)], [] => some ⟨[A.cmp .leq 0 x, A.cmp .leq 0 y, A.cmp .lss y 4294967296, A.cmp .lss x c, A.cmp .lss c 4294967296], .t [.s (.int .u32 (V.divq x y c)), .s (.int .u32 (V.divr x y c))], []⟩
  | _, _ => none
def gLz (A : Alg) (V : SV) : List CV → List Blk → Option LR
  | [.s (.int .u32 x)], [] => some ⟨[A.cmp .leq 0 x, A.cmp .lss x 4294967296], .c (.s (.int .i64 (V.lz x))), []⟩
  | _, _ => none

theorem shr32 (a : Int) (h0 : 0 ≤ a) : stdBin .shr .u64 a 32 = a / 4294967296 := u64_high a h0
theorem shl32 (a : Int) (h0 : 0 ≤ a) (h1 : a < 4294967296) : stdBin .shl .u64 a 32 = a * 4294967296 := by
  show IntKind.u64.wrap (a * 2 ^ min (32 : Int).toNat 64) = _
  rw [show min (32 : Int).toNat 64 = 32 from rfl, w_u64]; omega

/-- two words joined -/
theorem join32 (h l : Int) (h0 : 0 ≤ h) (h1 : h < 4294967296) (l0 : 0 ≤ l) (l1 : l < 4294967296) : stdBin .or .u64 (h * 4294967296) l = h * 4294967296 + l := by
  rw [u64_or _ _ (by omega) (by omega) l0 (by omega)]
  have e1 : (h * 4294967296).toNat = 2 ^ 32 * h.toNat := by omega
  rw [e1, ← Nat.two_pow_add_eq_or_of_lt (by omega)]
  omega

theorem u32_and (a b : Int) (h0 : 0 ≤ a) (h1 : a < 4294967296) (h2 : 0 ≤ b) (h3 : b < 4294967296) : stdBin .and .u32 a b = ((a.toNat &&& b.toNat : Nat) : Int) := by
  have e1 := ofInt_toNat 32 a h0 (by omega)
  have e2 := ofInt_toNat 32 b h2 (by omega)
  have h4 : a.toNat &&& b.toNat ≤ a.toNat := Nat.and_le_left
  show IntKind.u32.wrap ((BitVec.ofInt 32 a &&& BitVec.ofInt 32 b).toNat : Int) = _
  rw [BitVec.toNat_and, e1, e2, IntKind.wrap_u32]
  omega
theorem u32_or (a b : Int) (h0 : 0 ≤ a) (h1 : a < 4294967296) (h2 : 0 ≤ b) (h3 : b < 4294967296) : stdBin .or .u32 a b = ((a.toNat ||| b.toNat : Nat) : Int) := by
  have e1 := ofInt_toNat 32 a h0 (by omega)
  have e2 := ofInt_toNat 32 b h2 (by omega)
  have h4 : a.toNat ||| b.toNat < 2 ^ 32 := Nat.or_lt_two_pow (by omega) (by omega)
  show IntKind.u32.wrap ((BitVec.ofInt 32 a ||| BitVec.ofInt 32 b).toNat : Int) = _
  rw [BitVec.toNat_or, e1, e2, IntKind.wrap_u32]
  omega
theorem u32_xor (a b : Int) (h0 : 0 ≤ a) (h1 : a < 4294967296) (h2 : 0 ≤ b) (h3 : b < 4294967296) : stdBin .xor .u32 a b = ((a.toNat ^^^ b.toNat : Nat) : Int) := by
  have e1 := ofInt_toNat 32 a h0 (by omega)
  have e2 := ofInt_toNat 32 b h2 (by omega)
  have h4 : a.toNat ^^^ b.toNat < 2 ^ 32 := Nat.xor_lt_two_pow (by omega) (by omega)
  show IntKind.u32.wrap ((BitVec.ofInt 32 a ^^^ BitVec.ofInt 32 b).toNat : Int) = _
  rw [BitVec.toNat_xor, e1, e2, IntKind.wrap_u32]
  omega

theorem top_bit (a : Nat) (h : a < 2 ^ 32) : a / 2 ^ 31 = (a.testBit 31).toNat := by
  have : a / 2 ^ 31 < 2 := by omega
  rw [Nat.testBit_eq_decide_div_mod_eq]
  rcases (show a / 2 ^ 31 = 0 ∨ a / 2 ^ 31 = 1 by omega) with h | h <;> rw [h] <;> rfl

theorem top_iff (a : Nat) (h : a < 2 ^ 32) : a.testBit 31 = decide (2 ^ 31 ≤ a) := by
  rw [Nat.testBit_eq_decide_div_mod_eq]
  rcases (show a / 2 ^ 31 = 0 ∨ a / 2 ^ 31 = 1 by omega) with h1 | h1
  · rw [h1]; simp; omega
  · rw [h1]; simp; omega

/-- the borrow of a difference of words -/
theorem borrow32 (x y d : Int) (x0 : 0 ≤ x) (x1 : x < 4294967296) (y0 : 0 ≤ y) (y1 : y < 4294967296) (d0 : 0 ≤ d) (d1 : d < 4294967296) (c : Int) (c0 : 0 ≤ c) (c1 : c ≤ 1) (hd : d = (x - y - c) % 4294967296) :
    stdBin .shr .u32 (stdBin .or .u32 (stdBin .and .u32 (stdBin .xor .u32 4294967295 x) y) (stdBin .and .u32 (stdBin .xor .u32 4294967295 (stdBin .xor .u32 x y)) d)) 31 = if x - y - c < 0 then 1 else 0 := by
  have ex : stdBin .xor .u32 4294967295 x = (((4294967295 : Int).toNat ^^^ x.toNat : Nat) : Int) := u32_xor _ _ (by omega) (by omega) x0 x1
  have bx : (4294967295 : Int).toNat ^^^ x.toNat < 2 ^ 32 := Nat.xor_lt_two_pow (by decide) (by omega)
  have exy := u32_xor x y x0 x1 y0 y1
  have bxy : x.toNat ^^^ y.toNat < 2 ^ 32 := Nat.xor_lt_two_pow (by omega) (by omega)
  have e2 : stdBin .xor .u32 4294967295 (((x.toNat ^^^ y.toNat : Nat) : Int)) = (((4294967295 : Int).toNat ^^^ (x.toNat ^^^ y.toNat) : Nat) : Int) := by
    rw [u32_xor _ _ (by omega) (by omega) (by omega) (by omega)]; rfl
  have b2 : (4294967295 : Int).toNat ^^^ (x.toNat ^^^ y.toNat) < 2 ^ 32 := Nat.xor_lt_two_pow (by decide) bxy
  rw [ex, exy, e2, u32_and _ _ (by omega) (by omega) y0 y1, u32_and _ _ (by omega) (by omega) d0 d1, Int.toNat_natCast, Int.toNat_natCast]
  have b3 : ((4294967295 : Int).toNat ^^^ x.toNat) &&& y.toNat < 2 ^ 32 := Nat.lt_of_le_of_lt Nat.and_le_left bx
  have b4 : ((4294967295 : Int).toNat ^^^ (x.toNat ^^^ y.toNat)) &&& d.toNat < 2 ^ 32 := Nat.lt_of_le_of_lt Nat.and_le_left b2
  rw [u32_or _ _ (by omega) (by omega) (by omega) (by omega), Int.toNat_natCast, Int.toNat_natCast]
  have b5 : (((4294967295 : Int).toNat ^^^ x.toNat) &&& y.toNat) ||| (((4294967295 : Int).toNat ^^^ (x.toNat ^^^ y.toNat)) &&& d.toNat) < 2 ^ 32 := Nat.or_lt_two_pow b3 b4
  have e5 : ∀ n : Nat, n < 2 ^ 32 → stdBin .shr .u32 (n : Int) 31 = ((n / 2 ^ 31 : Nat) : Int) := fun n hn => by
    show ((n : Int)).fdiv (2 ^ min (31 : Int).toNat 32) = _
    rw [Int.fdiv_eq_ediv_of_nonneg _ (by decide)]
    rfl
  rw [e5 _ b5, top_bit _ b5]
  simp only [Nat.testBit_or, Nat.testBit_and, Nat.testBit_xor]
  have m31 : (4294967295 : Int).toNat.testBit 31 = true := by decide
  rw [m31, top_iff x.toNat (by omega), top_iff y.toNat (by omega), top_iff d.toNat (by omega)]
  by_cases hx : 2 ^ 31 ≤ x.toNat <;> by_cases hy : 2 ^ 31 ≤ y.toNat <;> by_cases hz : 2 ^ 31 ≤ d.toNat <;> simp [hx, hy, hz] <;> omega

theorem ok_add32 : CallOK Try.prog 88 (heapSem [.v, .v, .v] stdA (gAdd32 stdA stdV)) := by
  refine callOK_heap (un := ⟨false, none⟩) tok noCOK mixed (fn := Try.f88) (by kernel_rfl) (by kernel_rfl) (by kernel_rfl) (by decide +kernel) ?_
  intro w Wr args bs r hg ho hWr A L k hA hL hk
  obtain ⟨V, hV⟩ : ∃ V, V = stdV := ⟨_, rfl⟩
  (try rw [← hV])
  (try rw [← hA])
  unfold gAdd32 at hg
  split at hg
  rotate_left
  · cases hg
  simp only [Option.some.injEq] at hg
  subst hg
  rename_i x y c
  have x0 := (ho_cons ho).1; replace ho := (ho_cons ho).2
  have x1 := (ho_cons ho).1; replace ho := (ho_cons ho).2
  have y0 := (ho_cons ho).1; replace ho := (ho_cons ho).2
  have y1 := (ho_cons ho).1; replace ho := (ho_cons ho).2
  have c0 := (ho_cons ho).1; replace ho := (ho_cons ho).2
  have c1 := (ho_cons ho).1; replace ho := (ho_cons ho).2
  clear ho
  simp only [stdA, stdCmp, decide_eq_true_eq] at x0 x1 y0 y1 c0 c1
  cbv
  refine hk _ _ (Good.pure rfl fun ρ => ?_)
  subst hV hA
  refine tupI2 ?_ ?_
  · simp only [stdA, stdV, stdBin, w_u64, IntKind.wrap_u32]
    omega
  · simp only [stdA, stdV]
    rw [shr32 _ (by simp only [stdBin, w_u64]; omega)]
    simp only [stdBin, w_u64, IntKind.wrap_u32]
    omega

theorem ok_sub32 : CallOK Try.prog 89 (heapSem [.v, .v, .v] stdA (gSub32 stdA stdV)) := by
  refine callOK_heap (un := ⟨false, none⟩) tok noCOK mixed (fn := Try.f89) (by kernel_rfl) (by kernel_rfl) (by kernel_rfl) (by decide +kernel) ?_
  intro w Wr args bs r hg ho hWr A L k hA hL hk
  obtain ⟨V, hV⟩ : ∃ V, V = stdV := ⟨_, rfl⟩
  (try rw [← hV])
  (try rw [← hA])
  unfold gSub32 at hg
  split at hg
  rotate_left
  · cases hg
  simp only [Option.some.injEq] at hg
  subst hg
  rename_i x y c
  have x0 := (ho_cons ho).1; replace ho := (ho_cons ho).2
  have x1 := (ho_cons ho).1; replace ho := (ho_cons ho).2
  have y0 := (ho_cons ho).1; replace ho := (ho_cons ho).2
  have y1 := (ho_cons ho).1; replace ho := (ho_cons ho).2
  have c0 := (ho_cons ho).1; replace ho := (ho_cons ho).2
  have c1 := (ho_cons ho).1; replace ho := (ho_cons ho).2
  clear ho
  simp only [stdA, stdCmp, decide_eq_true_eq] at x0 x1 y0 y1 c0 c1
  cbv
  refine hk _ _ (Good.pure rfl fun ρ => ?_)
  subst hV hA
  have hd : stdBin .sub .u32 (stdBin .sub .u32 x y) c = (x - y - c) % 4294967296 := by simp only [stdBin, IntKind.wrap_u32]; omega
  refine tupI2 hd ?_
  show stdBin .shr .u32 (stdBin .or .u32 (stdBin .and .u32 (stdBin .xor .u32 4294967295 x) y) (stdBin .and .u32 (stdBin .xor .u32 4294967295 (stdBin .xor .u32 x y)) (stdBin .sub .u32 (stdBin .sub .u32 x y) c))) 31 = _
  rw [hd]
  exact borrow32 x y _ x0 x1 y0 y1 (by omega) (by omega) c c0 c1 rfl

theorem ok_div32 : CallOK Try.prog 90 (heapSem [.v, .v, .v] stdA (gDiv32 stdA stdV)) := by
  refine callOK_heap (un := ⟨false, none⟩) tok noCOK mixed (fn := Try.f90) (by kernel_rfl) (by kernel_rfl) (by kernel_rfl) (by decide +kernel) ?_
  intro w Wr args bs r hg ho hWr A L k hA hL hk
  obtain ⟨V, hV⟩ : ∃ V, V = stdV := ⟨_, rfl⟩
  (try rw [← hV])
  (try rw [← hA])
  unfold gDiv32 at hg
  split at hg
  rotate_left
  · cases hg
  simp only [Option.some.injEq] at hg
  subst hg
  rename_i x y c
  have x0 := (ho_cons ho).1; replace ho := (ho_cons ho).2
  have y0 := (ho_cons ho).1; replace ho := (ho_cons ho).2
  have y1 := (ho_cons ho).1; replace ho := (ho_cons ho).2
  have c0 := (ho_cons ho).1; replace ho := (ho_cons ho).2
  have c1 := (ho_cons ho).1; replace ho := (ho_cons ho).2
  clear ho
  simp only [stdA, stdCmp, decide_eq_true_eq] at x0 y0 y1 c0 c1
  cbv
  have hj : stdBin .or .u64 (stdBin .shl .u64 (IntKind.u64.wrap x) 32) (IntKind.u64.wrap y) = x * 4294967296 + y := by
    have e1 : IntKind.u64.wrap x = x := by rw [w_u64]; omega
    have e2 : IntKind.u64.wrap y = y := by rw [w_u64]; omega
    rw [e1, e2, shl32 x x0 (by omega), join32 x y x0 (by omega) y0 y1]
  have hc : IntKind.u64.wrap c = c := by rw [w_u64]; omega
  have hlt : x * 4294967296 + y < c * 4294967296 := by omega
  have hq : (x * 4294967296 + y) / c < 4294967296 := Int.ediv_lt_of_lt_mul (by omega) (by omega)
  have hq0 : 0 ≤ (x * 4294967296 + y) / c := Int.ediv_nonneg (by omega) (by omega)
  have hr0 := Int.emod_nonneg (x * 4294967296 + y) (show c ≠ 0 by omega)
  have hr1 := Int.emod_lt_of_pos (x * 4294967296 + y) (show 0 < c by omega)
  repeat' first | (with_reducible intro hb; cbv) | with_reducible refine And.intro ?_ ?_
  · subst hA; simp [stdA, stdCmp] at hb; omega
  · subst hA; show (IntKind.u64.wrap c != 0) = true; rw [hc, bne_iff_ne]; omega
  · subst hA; show (IntKind.u64.wrap c != 0) = true; rw [hc, bne_iff_ne]; omega
  refine hk _ _ (Good.pure rfl fun ρ => ?_)
  subst hV hA
  refine tupI2 ?_ ?_
  · show IntKind.u32.wrap (IntKind.u64.wrap ((stdBin .or .u64 (stdBin .shl .u64 (IntKind.u64.wrap x) 32) (IntKind.u64.wrap y)).tdiv (IntKind.u64.wrap c))) = (x * 4294967296 + y) / c
    rw [hj, hc, Int.tdiv_eq_ediv_of_nonneg (by omega), IntKind.wrap_u32, w_u64]
    generalize (x * 4294967296 + y) / c = q at *
    omega
  · show IntKind.u32.wrap ((stdBin .or .u64 (stdBin .shl .u64 (IntKind.u64.wrap x) 32) (IntKind.u64.wrap y)).tmod (IntKind.u64.wrap c)) = (x * 4294967296 + y) % c
    rw [hj, hc, Int.tmod_eq_emod_of_nonneg (by omega), IntKind.wrap_u32]
    generalize (x * 4294967296 + y) % c = q at *
    omega

def tN0 (A : Alg) (S : SW) (V : SV) : List (Nat × Sem') := (88, heapSem [.v, .v, .v] A (gAdd32 A V)) :: (89, heapSem [.v, .v, .v] A (gSub32 A V)) :: (90, heapSem [.v, .v, .v] A (gDiv32 A V)) :: ((tC5 A S))
theorem tN0OK : COK Try.prog (look (tN0 stdA stdW stdV)) := COK_cons ok_add32 (COK_cons ok_sub32 (COK_cons ok_div32 (tC5OK)))

theorem ok_lz32 : CallOK Try.prog 91 (heapSem [.v] stdA (gLz stdA stdV)) := by
  refine callOK_heap (un := ⟨false, none⟩) tok tC5OK mixed (fn := Try.f91) (by kernel_rfl) (by kernel_rfl) (by kernel_rfl) (by decide +kernel) ?_
  intro w Wr args bs r hg ho hWr A L k hA hL hk
  obtain ⟨S, hS⟩ : ∃ S, S = stdW := ⟨_, rfl⟩
  obtain ⟨V, hV⟩ : ∃ V, V = stdV := ⟨_, rfl⟩
  (try rw [← hS])
  (try rw [← hV])
  (try rw [← hA])
  unfold gLz at hg
  split at hg
  rotate_left
  · cases hg
  simp only [Option.some.injEq] at hg
  subst hg
  rename_i x
  have x0 := (ho_cons ho).1; replace ho := (ho_cons ho).2
  have x1 := (ho_cons ho).1; replace ho := (ho_cons ho).2
  clear ho
  simp only [stdA, stdCmp, decide_eq_true_eq] at x0 x1
  have hl := lenOf_le x.toNat 32 (by omega)
  cbv
  repeat' first | (with_reducible intro hb; cbv) | with_reducible refine And.intro ?_ ?_
  · subst hA; exact decide_eq_true x0
  · subst hA; exact decide_eq_true x1
  refine hk _ _ (Good.pure rfl fun ρ => ?_)
  subst hV hS hA
  refine ret1 ?_
  show IntKind.i64.wrap (32 - ((lenOf x.toNat : Nat) : Int)) = 32 - ((lenOf x.toNat : Nat) : Int)
  rw [IntKind.wrap_i64]; omega

def tN1 (A : Alg) (S : SW) (V : SV) : List (Nat × Sem') := (91, heapSem [.v] A (gLz A V)) :: ((tN0 A S V))
theorem tN1OK : COK Try.prog (look (tN1 stdA stdW stdV)) := COK_cons ok_lz32 (tN0OK)

def gPlus (V : SV) : List CV → List Blk → Option LR
  | [.s (.hp 0 0), .s (.hp 1 0)], [.fix false [.D d], .fix false [.D e]] => some ⟨[], .t [.s (.hp 2 0), .s (.bool (V.plusOK d e))], [.fix true [.D (V.plus d e)]]⟩
  | _, _ => none

theorem ok_plus : CallOK Try.prog 58 (heapSem [.pd, .pd] stdA (gPlus stdV)) := by
  refine callOK_heap (un := ⟨false, none⟩) tok tN1OK mixed (fn := Try.f58) (by kernel_rfl) (by kernel_rfl) (by kernel_rfl) (by decide +kernel) ?_
  intro w Wr args bs r hg ho hWr A L k hA hL hk
  obtain ⟨S, hS⟩ : ∃ S, S = stdW := ⟨_, rfl⟩
  obtain ⟨V, hV⟩ : ∃ V, V = stdV := ⟨_, rfl⟩
  (try rw [← hS])
  (try rw [← hV])
  (try rw [← hA])
  unfold gPlus at hg
  split at hg
  rotate_left
  · cases hg
  simp only [Option.some.injEq] at hg
  subst hg
  rename_i d e
  cbv
  refine hL _ _ _ (loop_rule (un := ⟨false, none⟩) tok tN1OK mixed (fun p : Int × Dg × Int => ⟨[(9, ⟨[], .c (.s (.int .i64 p.1))⟩), (7, ⟨[], .c (.s (.int .u32 p.2.2))⟩), (6, ⟨[], .c (.s (.hp 2 0))⟩), (0, ⟨[], .c (.s (.hp 0 0))⟩), (1, ⟨[], .c (.s (.hp 1 0))⟩)], [(2, .fix true [.D p.2.1]), (0, .fix false [.D d]), (1, .fix false [.D e])], 3⟩)
    (fun p => 0 ≤ p.1 ∧ p.1 ≤ 32 ∧ p.2.1.n = (d.n % 2 ^ (32 * p.1.toNat) + e.n % 2 ^ (32 * p.1.toNat)) % 2 ^ (32 * p.1.toNat) ∧ p.2.2 = ((d.n % 2 ^ (32 * p.1.toNat) + e.n % 2 ^ (32 * p.1.toNat)) / 2 ^ (32 * p.1.toNat) : Nat)) (fun p => (32 - p.1).toNat) (0, Dg.zero, 0) ?_ ?_ (fun _ i hi => by have := hWr i hi; simp at this ⊢; omega) ?_)
  · exact ⟨by omega, by omega, by simp [Dg.zero, Nat.mod_one], by simp [Nat.mod_one]⟩
  · exact ⟨⟨⟨rfl, rfl, fun _ => rfl⟩, ⟨rfl, rfl, fun _ => rfl⟩, ⟨rfl, rfl, fun _ => rfl⟩, ⟨rfl, rfl, fun _ => rfl⟩, ⟨rfl, rfl, fun _ => rfl⟩, trivial⟩, ⟨⟨rfl, rfl, fun _ => rfl⟩, ⟨rfl, rfl, fun _ => rfl⟩, ⟨rfl, rfl, fun _ => rfl⟩, trivial⟩, rfl, rfl⟩
  rintro ⟨i, out, c⟩ ⟨i0, i1, h1, h2⟩ A2 L2 k2 hA2 hL2 hnext hexit hret
  simp only at i0 i1 h1 h2
  have hc1 : c ≤ 1 := by rw [h2]; exact_mod_cast carry_le _ _ _ (Nat.two_pow_pos _)
  have hc0 : 0 ≤ c := by rw [h2]; exact Int.natCast_nonneg _
  have hd1 := dig_lt d i.toNat
  have he1 := dig_lt e i.toNat
  have hstep : i < 32 → c = ((c.toNat : Nat) : Int) ∧ (out.set i.toNat ((d.dig i.toNat + e.dig i.toNat + c.toNat) % 4294967296)).n = (d.n % 2 ^ (32 * (i.toNat + 1)) + e.n % 2 ^ (32 * (i.toNat + 1))) % 2 ^ (32 * (i.toNat + 1)) ∧ (d.dig i.toNat + e.dig i.toNat + c.toNat) / 4294967296 = (d.n % 2 ^ (32 * (i.toNat + 1)) + e.n % 2 ^ (32 * (i.toNat + 1))) / 2 ^ (32 * (i.toNat + 1)) := fun h => ⟨by omega, plus_step d e out i.toNat c.toNat (by omega) h1 (by rw [h2]; exact Int.toNat_natCast _)⟩
  have hs1 : (i + 1).toNat = i.toNat + 1 := by omega
  rw [← hA2, ← hS, ← hV]
  cbv
  repeat' first | (with_reducible intro hb; cbv) | with_reducible refine And.intro ?_ ?_
  all_goals try (clear hnext hexit hret hk hL hL2 h1 h2 hstep; subst hA2 hV; simp only [stdA, stdCmp, stdV, decide_eq_true_eq, ofNat_cast] at *; omega)
  · have hb : i < 32 := by subst hA2; simpa [stdA, stdCmp] using hb
    obtain ⟨g1, g2, g3⟩ := hstep hb
    have eD : A2.dig d i = ((d.dig i.toNat : Nat) : Int) := by subst hA2; rfl
    have eE : A2.dig e i = ((e.dig i.toNat : Nat) : Int) := by subst hA2; rfl
    have es : V.adds (A2.dig d i) (A2.dig e i) c = (((d.dig i.toNat + e.dig i.toNat + c.toNat) % 4294967296 : Nat) : Int) := by rw [eD, eE]; subst hV; show ((d.dig i.toNat : Nat) + (e.dig i.toNat : Nat) + c) % 4294967296 = _; omega
    have ec : V.addc (A2.dig d i) (A2.dig e i) c = (((d.dig i.toNat + e.dig i.toNat + c.toNat) / 4294967296 : Nat) : Int) := by rw [eD, eE]; subst hV; show ((d.dig i.toNat : Nat) + (e.dig i.toNat : Nat) + c) / 4294967296 = _; omega
    refine hnext _ (i + 1, A2.setD out i (V.adds (A2.dig d i) (A2.dig e i) c), V.addc (A2.dig d i) (A2.dig e i) c) ⟨by show 0 ≤ i + 1; omega, by show i + 1 ≤ 32; omega, ?_, ?_⟩ ?_ ⟨⟨⟨rfl, rfl, leI ?_⟩, ⟨rfl, rfl, fun _ => rfl⟩, ⟨rfl, rfl, fun _ => rfl⟩, ⟨rfl, rfl, fun _ => rfl⟩, ⟨rfl, rfl, fun _ => rfl⟩, trivial⟩, ⟨⟨rfl, rfl, fun _ => rfl⟩, ⟨rfl, rfl, fun _ => rfl⟩, ⟨rfl, rfl, fun _ => rfl⟩, trivial⟩, rfl, rfl⟩
    · show (A2.setD out i (V.adds (A2.dig d i) (A2.dig e i) c)).n = _
      rw [es, hs1, ← g2]
      subst hA2
      show (out.set i.toNat (((((d.dig i.toNat + e.dig i.toNat + c.toNat) % 4294967296 : Nat) : Int)).toNat)).n = _
      rw [Int.toNat_natCast]
    · show V.addc (A2.dig d i) (A2.dig e i) c = _
      rw [ec, hs1, g3]
    · show (32 - (i + 1)).toNat < (32 - i).toNat
      omega
    · subst hA2
      show stdBin .add .i64 i 1 = i + 1
      simp only [stdBin, IntKind.wrap_i64]; omega
  · apply hexit
    have hb : ¬ i < 32 := by subst hA2; simpa [stdA, stdCmp] using hb
    have hi : i = 32 := by omega
    subst hi
    clear hexit hnext hret hstep
    cbv
    repeat' first | (with_reducible intro hb; cbv) | with_reducible refine And.intro ?_ ?_
    have hd := ext_low d
    have he := ext_low e
    have h1 : out.n = (d.n % 2 ^ (32 * 32) + e.n % 2 ^ (32 * 32)) % 2 ^ (32 * 32) := h1
    have h2 : c = ((d.n % 2 ^ (32 * 32) + e.n % 2 ^ (32 * 32)) / 2 ^ (32 * 32) : Nat) := h2
    rw [hd, he] at h1 h2
    refine hk _ _ (Good.one (t := 2) rfl (by simp) (fun ρ => ?_) rfl (leD ?_))
    · refine tupPB ?_ rfl
      subst hA hV
      show (c == 0) = decide (d.n + e.n < 2 ^ 1024)
      rw [h2]
      by_cases h : d.n + e.n < 2 ^ 1024
      · rw [Nat.div_eq_of_lt h]; simp [h]
      · have : 0 < (d.n + e.n) / 2 ^ (32 * 32) := Nat.div_pos (by omega) (Nat.two_pow_pos _)
        have h0 : decide (d.n + e.n < 2 ^ 1024) = false := by simpa using h
        rw [h0, beq_eq_false_iff_ne]
        omega
    · subst hV
      exact Dg.ext' h1

def tN2 (A : Alg) (S : SW) (V : SV) : List (Nat × Sem') := (58, heapSem [.pd, .pd] A (gPlus V)) :: ((tN1 A S V))
theorem tN2OK : COK Try.prog (look (tN2 stdA stdW stdV)) := COK_cons ok_plus (tN1OK)

def gLess (V : SV) : List CV → List Blk → Option LR
  | [.s (.hp 0 0), .s (.hp 1 0)], [.fix false [.D d], .fix false [.D e]] => some ⟨[V.leD e d], .c (.s (.hp 2 0)), [.fix true [.D (V.less d e)]]⟩
  | _, _ => none

theorem ok_less : CallOK Try.prog 60 (heapSem [.pd, .pd] stdA (gLess stdV)) := by
  refine callOK_heap (un := ⟨false, none⟩) tok tN2OK mixed (fn := Try.f60) (by kernel_rfl) (by kernel_rfl) (by kernel_rfl) (by decide +kernel) ?_
  intro w Wr args bs r hg ho hWr A L k hA hL hk
  obtain ⟨S, hS⟩ : ∃ S, S = stdW := ⟨_, rfl⟩
  obtain ⟨V, hV⟩ : ∃ V, V = stdV := ⟨_, rfl⟩
  (try rw [← hS])
  (try rw [← hV])
  (try rw [← hA])
  unfold gLess at hg
  split at hg
  rotate_left
  · cases hg
  simp only [Option.some.injEq] at hg
  subst hg
  rename_i d e
  have hde : e.n ≤ d.n := by
    exact of_decide_eq_true (ho_cons ho).1
  clear ho
  cbv
  refine hL _ _ _ (loop_rule (un := ⟨false, none⟩) tok tN2OK mixed (fun p : Int × Dg × Int => ⟨[(8, ⟨[], .c (.s (.int .i64 p.1))⟩), (6, ⟨[], .c (.s (.int .u32 p.2.2))⟩), (5, ⟨[], .c (.s (.hp 2 0))⟩), (0, ⟨[], .c (.s (.hp 0 0))⟩), (1, ⟨[], .c (.s (.hp 1 0))⟩)], [(2, .fix true [.D p.2.1]), (0, .fix false [.D d]), (1, .fix false [.D e])], 3⟩)
    (fun p => 0 ≤ p.1 ∧ p.1 ≤ 32 ∧ (0 ≤ p.2.2 ∧ p.2.2 ≤ 1) ∧ p.2.1.n < 2 ^ (32 * p.1.toNat) ∧ (p.2.1.n : Int) = (d.n % 2 ^ (32 * p.1.toNat) : Nat) - (e.n % 2 ^ (32 * p.1.toNat) : Nat) + (2 ^ (32 * p.1.toNat) : Nat) * p.2.2) (fun p => (32 - p.1).toNat) (0, Dg.zero, 0) ?_ ?_ (fun _ i hi => by have := hWr i hi; simp at this ⊢; omega) ?_)
  · exact ⟨by omega, by omega, ⟨Int.le_refl _, by decide⟩, by simp [Dg.zero], by simp [Dg.zero, Nat.mod_one]⟩
  · exact ⟨⟨⟨rfl, rfl, fun _ => rfl⟩, ⟨rfl, rfl, fun _ => rfl⟩, ⟨rfl, rfl, fun _ => rfl⟩, ⟨rfl, rfl, fun _ => rfl⟩, ⟨rfl, rfl, fun _ => rfl⟩, trivial⟩, ⟨⟨rfl, rfl, fun _ => rfl⟩, ⟨rfl, rfl, fun _ => rfl⟩, ⟨rfl, rfl, fun _ => rfl⟩, trivial⟩, rfl, rfl⟩
  rintro ⟨i, out, c⟩ ⟨i0, i1, ⟨hc0, hc1⟩, h1, h2⟩ A2 L2 k2 hA2 hL2 hnext hexit hret
  simp only at i0 i1 hc0 hc1 h1 h2
  have hd1 := dig_lt d i.toNat
  have he1 := dig_lt e i.toNat
  have hs1 : (i + 1).toNat = i.toNat + 1 := by omega
  rw [← hA2, ← hS, ← hV]
  cbv
  repeat' first | (with_reducible intro hb; cbv) | with_reducible refine And.intro ?_ ?_
  all_goals try (clear hnext hexit hret hk hL hL2 h1 h2; subst hA2 hV; simp only [stdA, stdCmp, stdV, decide_eq_true_eq, ofNat_cast] at *; omega)
  · have hb : i < 32 := by subst hA2; simpa [stdA, stdCmp] using hb
    obtain ⟨g1, g2⟩ := less_step d e out i.toNat c _ (by omega) hc0 hc1 h1 h2 rfl
    have eD : A2.dig d i = ((d.dig i.toNat : Nat) : Int) := by subst hA2; rfl
    have eE : A2.dig e i = ((e.dig i.toNat : Nat) : Int) := by subst hA2; rfl
    have es : V.subs (A2.dig d i) (A2.dig e i) c = ((d.dig i.toNat : Nat) - (e.dig i.toNat : Nat) - c) % 4294967296 := by rw [eD, eE]; subst hV; rfl
    have ec : V.subc (A2.dig d i) (A2.dig e i) c = if ((d.dig i.toNat : Nat) - (e.dig i.toNat : Nat) - c : Int) < 0 then 1 else 0 := by rw [eD, eE]; subst hV; rfl
    have eo : A2.setD out i (V.subs (A2.dig d i) (A2.dig e i) c) = out.set i.toNat (((d.dig i.toNat : Nat) - (e.dig i.toNat : Nat) - c : Int) % 4294967296).toNat := by rw [es]; subst hA2; rfl
    refine hnext _ (i + 1, A2.setD out i (V.subs (A2.dig d i) (A2.dig e i) c), V.subc (A2.dig d i) (A2.dig e i) c) ⟨by show 0 ≤ i + 1; omega, by show i + 1 ≤ 32; omega, ?_, ?_, ?_⟩ ?_ ⟨⟨⟨rfl, rfl, leI ?_⟩, ⟨rfl, rfl, fun _ => rfl⟩, ⟨rfl, rfl, fun _ => rfl⟩, ⟨rfl, rfl, fun _ => rfl⟩, ⟨rfl, rfl, fun _ => rfl⟩, trivial⟩, ⟨⟨rfl, rfl, fun _ => rfl⟩, ⟨rfl, rfl, fun _ => rfl⟩, ⟨rfl, rfl, fun _ => rfl⟩, trivial⟩, rfl, rfl⟩
    · show 0 ≤ V.subc (A2.dig d i) (A2.dig e i) c ∧ V.subc (A2.dig d i) (A2.dig e i) c ≤ 1
      rw [ec]; split <;> omega
    · show (A2.setD out i (V.subs (A2.dig d i) (A2.dig e i) c)).n < _
      rw [eo, hs1]; exact g2
    · show ((A2.setD out i (V.subs (A2.dig d i) (A2.dig e i) c)).n : Int) = _
      rw [eo, hs1, g1]
      show _ = _ + _ * V.subc (A2.dig d i) (A2.dig e i) c
      rw [ec]
    · show (32 - (i + 1)).toNat < (32 - i).toNat
      omega
    · subst hA2
      show stdBin .add .i64 i 1 = i + 1
      simp only [stdBin, IntKind.wrap_i64]; omega
  · apply hexit
    have hb : ¬ i < 32 := by subst hA2; simpa [stdA, stdCmp] using hb
    have hi : i = 32 := by omega
    subst hi
    clear hexit hnext hret
    cbv
    repeat' first | (with_reducible intro hb; cbv) | with_reducible refine And.intro ?_ ?_
    have hd := ext_low d
    have he := ext_low e
    have h1 : out.n < 2 ^ (32 * 32) := h1
    have h2 : (out.n : Int) = (d.n % 2 ^ (32 * 32) : Nat) - (e.n % 2 ^ (32 * 32) : Nat) + (2 ^ (32 * 32) : Nat) * c := h2
    rw [hd, he] at h2
    refine hk _ _ (Good.one (t := 2) rfl (by simp) (fun ρ => ?_) rfl (leD ?_))
    · exact retP' rfl
    · subst hV
      apply Dg.ext'
      show out.n = d.n - e.n
      generalize (2 ^ (32 * 32) : Nat) = P at h1 h2
      have hcc : c = 0 ∨ c = 1 := by omega
      rcases hcc with rfl | rfl <;> omega

def tN3 (A : Alg) (S : SW) (V : SV) : List (Nat × Sem') := (60, heapSem [.pd, .pd] A (gLess V)) :: ((tN2 A S V))
theorem tN3OK : COK Try.prog (look (tN3 stdA stdW stdV)) := COK_cons ok_less (tN2OK)

end Go.Eng
