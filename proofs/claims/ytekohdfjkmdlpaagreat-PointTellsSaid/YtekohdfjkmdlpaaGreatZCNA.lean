
import Derived.Test.YtekohdfjkmdlpaaGreatZCWA
import Derived.Test.YtekohdfjkmdlpaaGreatSpecNA
import Derived.Test.YtekohdfjkmdlpaaGreatEngMW
set_option linter.all false
set_option exponentiation.threshold 3000
namespace Go.Eng
open Go.Proofs
set_option maxRecDepth 100000
set_option linter.all false
set_option exponentiation.threshold 3000
def gAdd32 (A : Alg) (V : SV) : List CV → List Blk → Option LR
  | [.s (.int .u32 x), .s (.int .u32 y), .s (.int .u32 c)], [] => some ⟨[A.cmp .leq 0 x, A.cmp .lss x 4294967296, A.cmp .leq 0 y, A.cmp .lss y 4294967296, A.cmp .leq 0 c, A.cmp .leq c 1], .t [.s (.int .u32 (V.adds x y c)), .s (.int .u32 (V.addc x y c))], []⟩
  | _, _ => none
def gSub32 (A : Alg) (V : SV) : List CV → List Blk → Option LR
  | [.s (.int .u32 x), .s (.int .u32 y), .s (.int .u32 c)], [] => some ⟨[A.cmp .leq 0 x, A.cmp .lss x 4294967296, A.cmp .leq 0 y, A.cmp .lss y 4294967296, A.cmp .leq 0 c, A.cmp .leq c 1], .t [.s (.int .u32 (V.subs x y c)), .s (.int .u32 (V.subc x y c))], []⟩
  | _, _ => none
def gDiv32 (A : Alg) (V : SV) : List CV → List Blk → Option LR
  | [.s (.int .u32 x), .s (.int .u32 y), .s (.int .u32 c)], [] => some ⟨[A.cmp .leq 0 x, A.cmp .leq 0 y, A.cmp .lss y 4294967296, A.cmp .lss x c, A.cmp .lss c 4294967296], .t [.s (.int .u32 (V.divq x y c)), .s (.int .u32 (V.divr x y c))], []⟩
  | _, _ => none
def gLz (A : Alg) (V : SV) : List CV → List Blk → Option LR
  | [.s (.int .u32 x)], [] => some ⟨[A.cmp .leq 0 x, A.cmp .lss x 4294967296], .c (.s (.int .i64 (V.lz x))), []⟩
  | _, _ => none
theorem shr32 (a : Int) (h0 : 0 ≤ a) : stdBin .shr .u64 a 32 = a / 4294967296 := u64_high a h0
theorem shl32 (a : Int) (h0 : 0 ≤ a) (h1 : a < 4294967296) : stdBin .shl .u64 a 32 = a * 4294967296 := by
  show IntKind.u64.wrap (a * 2 ^ min (32 : Int).toNat 64) = _
  rw [show min (32 : Int).toNat 64 = 32 from rfl, w_u64]; omega
theorem join32 (h l : Int) (h0 : 0 ≤ h) (h1 : h < 4294967296) (l0 : 0 ≤ l) (l1 : l < 4294967296) : stdBin .or .u64 (h * 4294967296) l = h * 4294967296 + l := by
  rw [u64_or _ _ (by omega) (by omega) l0 (by omega)]
  have e1 : (h * 4294967296).toNat = 2 ^ 32 * h.toNat := by omega
  rw [e1, ← Nat.two_pow_add_eq_or_of_lt (by omega)]
  omega
theorem u32_and (a b : Int) (h0 : 0 ≤ a) (h1 : a < 4294967296) (h2 : 0 ≤ b) (h3 : b < 4294967296) : stdBin .and .u32 a b = ((a.toNat &&& b.toNat : Nat) : Int) := by
  have e1 := ofInt_toNat 32 a h0 (by omega)
  have e2 := ofInt_toNat 32 b h2 (by omega)
  have h4 : a.toNat &&& b.toNat ≤ a.toNat := Nat.and_le_left
  show IntKind.u32.wrap ((BitVec.ofInt 32 a &&& BitVec.ofInt 32 b).toNat : Int) = _
  rw [BitVec.toNat_and, e1, e2, IntKind.wrap_u32]
  omega
theorem u32_or (a b : Int) (h0 : 0 ≤ a) (h1 : a < 4294967296) (h2 : 0 ≤ b) (h3 : b < 4294967296) : stdBin .or .u32 a b = ((a.toNat ||| b.toNat : Nat) : Int) := by
  have e1 := ofInt_toNat 32 a h0 (by omega)
  have e2 := ofInt_toNat 32 b h2 (by omega)
  have h4 : a.toNat ||| b.toNat < 2 ^ 32 := Nat.or_lt_two_pow (by omega) (by omega)
  show IntKind.u32.wrap ((BitVec.ofInt 32 a ||| BitVec.ofInt 32 b).toNat : Int) = _
  rw [BitVec.toNat_or, e1, e2, IntKind.wrap_u32]
  omega
theorem u32_xor (a b : Int) (h0 : 0 ≤ a) (h1 : a < 4294967296) (h2 : 0 ≤ b) (h3 : b < 4294967296) : stdBin .xor .u32 a b = ((a.toNat ^^^ b.toNat : Nat) : Int) := by
  have e1 := ofInt_toNat 32 a h0 (by omega)
  have e2 := ofInt_toNat 32 b h2 (by omega)
  have h4 : a.toNat ^^^ b.toNat < 2 ^ 32 := Nat.xor_lt_two_pow (by omega) (by omega)
  show IntKind.u32.wrap ((BitVec.ofInt 32 a ^^^ BitVec.ofInt 32 b).toNat : Int) = _
  rw [BitVec.toNat_xor, e1, e2, IntKind.wrap_u32]
  omega
theorem top_bit (a : Nat) (h : a < 2 ^ 32) : a / 2 ^ 31 = (a.testBit 31).toNat := by
  have : a / 2 ^ 31 < 2 := by omega
  rw [Nat.testBit_eq_decide_div_mod_eq]
  rcases (show a / 2 ^ 31 = 0 ∨ a / 2 ^ 31 = 1 by omega) with h | h <;> rw [h] <;> rfl
theorem top_iff (a : Nat) (h : a < 2 ^ 32) : a.testBit 31 = decide (2 ^ 31 ≤ a) := by
  rw [Nat.testBit_eq_decide_div_mod_eq]
  rcases (show a / 2 ^ 31 = 0 ∨ a / 2 ^ 31 = 1 by omega) with h1 | h1
  · rw [h1]; simp; omega
  · rw [h1]; simp; omega
theorem borrow32 (x y d : Int) (x0 : 0 ≤ x) (x1 : x < 4294967296) (y0 : 0 ≤ y) (y1 : y < 4294967296) (d0 : 0 ≤ d) (d1 : d < 4294967296) (c : Int) (c0 : 0 ≤ c) (c1 : c ≤ 1) (hd : d = (x - y - c) % 4294967296) :
    stdBin .shr .u32 (stdBin .or .u32 (stdBin .and .u32 (stdBin .xor .u32 4294967295 x) y) (stdBin .and .u32 (stdBin .xor .u32 4294967295 (stdBin .xor .u32 x y)) d)) 31 = if x - y - c < 0 then 1 else 0 := by
  have ex : stdBin .xor .u32 4294967295 x = (((4294967295 : Int).toNat ^^^ x.toNat : Nat) : Int) := u32_xor _ _ (by omega) (by omega) x0 x1
  have bx : (4294967295 : Int).toNat ^^^ x.toNat < 2 ^ 32 := Nat.xor_lt_two_pow (by decide) (by omega)
  have exy := u32_xor x y x0 x1 y0 y1
  have bxy : x.toNat ^^^ y.toNat < 2 ^ 32 := Nat.xor_lt_two_pow (by omega) (by omega)
  have e2 : stdBin .xor .u32 4294967295 (((x.toNat ^^^ y.toNat : Nat) : Int)) = (((4294967295 : Int).toNat ^^^ (x.toNat ^^^ y.toNat) : Nat) : Int) := by
    rw [u32_xor _ _ (by omega) (by omega) (by omega) (by omega)]; rfl
  have b2 : (4294967295 : Int).toNat ^^^ (x.toNat ^^^ y.toNat) < 2 ^ 32 := Nat.xor_lt_two_pow (by decide) bxy
  rw [ex, exy, e2, u32_and _ _ (by omega) (by omega) y0 y1, u32_and _ _ (by omega) (by omega) d0 d1, Int.toNat_natCast, Int.toNat_natCast]
  have b3 : ((4294967295 : Int).toNat ^^^ x.toNat) &&& y.toNat < 2 ^ 32 := Nat.lt_of_le_of_lt Nat.and_le_left bx
  have b4 : ((4294967295 : Int).toNat ^^^ (x.toNat ^^^ y.toNat)) &&& d.toNat < 2 ^ 32 := Nat.lt_of_le_of_lt Nat.and_le_left b2
  rw [u32_or _ _ (by omega) (by omega) (by omega) (by omega), Int.toNat_natCast, Int.toNat_natCast]
  have b5 : (((4294967295 : Int).toNat ^^^ x.toNat) &&& y.toNat) ||| (((4294967295 : Int).toNat ^^^ (x.toNat ^^^ y.toNat)) &&& d.toNat) < 2 ^ 32 := Nat.or_lt_two_pow b3 b4
  have e5 : ∀ n : Nat, n < 2 ^ 32 → stdBin .shr .u32 (n : Int) 31 = ((n / 2 ^ 31 : Nat) : Int) := fun n hn => by
    show ((n : Int)).fdiv (2 ^ min (31 : Int).toNat 32) = _
    rw [Int.fdiv_eq_ediv_of_nonneg _ (by decide)]
    rfl
  rw [e5 _ b5, top_bit _ b5]
  simp only [Nat.testBit_or, Nat.testBit_and, Nat.testBit_xor]
  have m31 : (4294967295 : Int).toNat.testBit 31 = true := by decide
  rw [m31, top_iff x.toNat (by omega), top_iff y.toNat (by omega), top_iff d.toNat (by omega)]
  by_cases hx : 2 ^ 31 ≤ x.toNat <;> by_cases hy : 2 ^ 31 ≤ y.toNat <;> by_cases hz : 2 ^ 31 ≤ d.toNat <;> simp [hx, hy, hz] <;> omega
theorem ok_add32 : CallOK Tryz.prog 208 (heapSem [.v, .v, .v] stdA (gAdd32 stdA stdV)) := by
  refine callOK_heap (un := ⟨false, none⟩) tok noCOK mixed (fn := Tryz.f208) (by kernel_rfl) (by kernel_rfl) (by kernel_rfl) (by decide +kernel) ?_
  intro w Wr args bs r hg ho hWr A L k hA hL hk
  obtain ⟨V, hV⟩ : ∃ V, V = stdV := ⟨_, rfl⟩
  (try rw [← hV])
  (try rw [← hA])
  unfold gAdd32 at hg
  split at hg
  rotate_left
  · cases hg
  simp only [Option.some.injEq] at hg
  subst hg
  rename_i x y c
  have x0 := (ho_cons ho).1; replace ho := (ho_cons ho).2
  have x1 := (ho_cons ho).1; replace ho := (ho_cons ho).2
  have y0 := (ho_cons ho).1; replace ho := (ho_cons ho).2
  have y1 := (ho_cons ho).1; replace ho := (ho_cons ho).2
  have c0 := (ho_cons ho).1; replace ho := (ho_cons ho).2
  have c1 := (ho_cons ho).1; replace ho := (ho_cons ho).2
  clear ho
  simp only [stdA, stdCmp, decide_eq_true_eq] at x0 x1 y0 y1 c0 c1
  cbv
  refine hk _ _ (Good.pure rfl fun ρ => ?_)
  subst hV hA
  refine tupI2 ?_ ?_
  · simp only [stdA, stdV, stdBin, w_u64, IntKind.wrap_u32]
    omega
  · simp only [stdA, stdV]
    rw [shr32 _ (by simp only [stdBin, w_u64]; omega)]
    simp only [stdBin, w_u64, IntKind.wrap_u32]
    omega
theorem ok_sub32 : CallOK Tryz.prog 209 (heapSem [.v, .v, .v] stdA (gSub32 stdA stdV)) := by
  refine callOK_heap (un := ⟨false, none⟩) tok noCOK mixed (fn := Tryz.f209) (by kernel_rfl) (by kernel_rfl) (by kernel_rfl) (by decide +kernel) ?_
  intro w Wr args bs r hg ho hWr A L k hA hL hk
  obtain ⟨V, hV⟩ : ∃ V, V = stdV := ⟨_, rfl⟩
  (try rw [← hV])
  (try rw [← hA])
  unfold gSub32 at hg
  split at hg
  rotate_left
  · cases hg
  simp only [Option.some.injEq] at hg
  subst hg
  rename_i x y c
  have x0 := (ho_cons ho).1; replace ho := (ho_cons ho).2
  have x1 := (ho_cons ho).1; replace ho := (ho_cons ho).2
  have y0 := (ho_cons ho).1; replace ho := (ho_cons ho).2
  have y1 := (ho_cons ho).1; replace ho := (ho_cons ho).2
  have c0 := (ho_cons ho).1; replace ho := (ho_cons ho).2
  have c1 := (ho_cons ho).1; replace ho := (ho_cons ho).2
  clear ho
  simp only [stdA, stdCmp, decide_eq_true_eq] at x0 x1 y0 y1 c0 c1
  cbv
  refine hk _ _ (Good.pure rfl fun ρ => ?_)
  subst hV hA
  have hd : stdBin .sub .u32 (stdBin .sub .u32 x y) c = (x - y - c) % 4294967296 := by simp only [stdBin, IntKind.wrap_u32]; omega
  refine tupI2 hd ?_
  show stdBin .shr .u32 (stdBin .or .u32 (stdBin .and .u32 (stdBin .xor .u32 4294967295 x) y) (stdBin .and .u32 (stdBin .xor .u32 4294967295 (stdBin .xor .u32 x y)) (stdBin .sub .u32 (stdBin .sub .u32 x y) c))) 31 = _
  rw [hd]
  exact borrow32 x y _ x0 x1 y0 y1 (by omega) (by omega) c c0 c1 rfl
theorem ok_div32 : CallOK Tryz.prog 210 (heapSem [.v, .v, .v] stdA (gDiv32 stdA stdV)) := by
  refine callOK_heap (un := ⟨false, none⟩) tok noCOK mixed (fn := Tryz.f210) (by kernel_rfl) (by kernel_rfl) (by kernel_rfl) (by decide +kernel) ?_
  intro w Wr args bs r hg ho hWr A L k hA hL hk
  obtain ⟨V, hV⟩ : ∃ V, V = stdV := ⟨_, rfl⟩
  (try rw [← hV])
  (try rw [← hA])
  unfold gDiv32 at hg
  split at hg
  rotate_left
  · cases hg
  simp only [Option.some.injEq] at hg
  subst hg
  rename_i x y c
  have x0 := (ho_cons ho).1; replace ho := (ho_cons ho).2
  have y0 := (ho_cons ho).1; replace ho := (ho_cons ho).2
  have y1 := (ho_cons ho).1; replace ho := (ho_cons ho).2
  have c0 := (ho_cons ho).1; replace ho := (ho_cons ho).2
  have c1 := (ho_cons ho).1; replace ho := (ho_cons ho).2
  clear ho
  simp only [stdA, stdCmp, decide_eq_true_eq] at x0 y0 y1 c0 c1
  cbv
  have hj : stdBin .or .u64 (stdBin .shl .u64 (IntKind.u64.wrap x) 32) (IntKind.u64.wrap y) = x * 4294967296 + y := by
    have e1 : IntKind.u64.wrap x = x := by rw [w_u64]; omega
    have e2 : IntKind.u64.wrap y = y := by rw [w_u64]; omega
    rw [e1, e2, shl32 x x0 (by omega), join32 x y x0 (by omega) y0 y1]
  have hc : IntKind.u64.wrap c = c := by rw [w_u64]; omega
  have hlt : x * 4294967296 + y < c * 4294967296 := by omega
  have hq : (x * 4294967296 + y) / c < 4294967296 := Int.ediv_lt_of_lt_mul (by omega) (by omega)
  have hq0 : 0 ≤ (x * 4294967296 + y) / c := Int.ediv_nonneg (by omega) (by omega)
  have hr0 := Int.emod_nonneg (x * 4294967296 + y) (show c ≠ 0 by omega)
  have hr1 := Int.emod_lt_of_pos (x * 4294967296 + y) (show 0 < c by omega)
  repeat' first | (with_reducible intro hb; cbv) | with_reducible refine And.intro ?_ ?_
  · subst hA; simp [stdA, stdCmp] at hb; omega
  · subst hA; show (IntKind.u64.wrap c != 0) = true; rw [hc, bne_iff_ne]; omega
  · subst hA; show (IntKind.u64.wrap c != 0) = true; rw [hc, bne_iff_ne]; omega
  refine hk _ _ (Good.pure rfl fun ρ => ?_)
  subst hV hA
  refine tupI2 ?_ ?_
  · show IntKind.u32.wrap (IntKind.u64.wrap ((stdBin .or .u64 (stdBin .shl .u64 (IntKind.u64.wrap x) 32) (IntKind.u64.wrap y)).tdiv (IntKind.u64.wrap c))) = (x * 4294967296 + y) / c
    rw [hj, hc, Int.tdiv_eq_ediv_of_nonneg (by omega), IntKind.wrap_u32, w_u64]
    generalize (x * 4294967296 + y) / c = q at *
    omega
  · show IntKind.u32.wrap ((stdBin .or .u64 (stdBin .shl .u64 (IntKind.u64.wrap x) 32) (IntKind.u64.wrap y)).tmod (IntKind.u64.wrap c)) = (x * 4294967296 + y) % c
    rw [hj, hc, Int.tmod_eq_emod_of_nonneg (by omega), IntKind.wrap_u32]
    generalize (x * 4294967296 + y) % c = q at *
    omega
def tN0 (A : Alg) (S : SW) (V : SV) : List (Nat × Sem') := (208, heapSem [.v, .v, .v] A (gAdd32 A V)) :: (209, heapSem [.v, .v, .v] A (gSub32 A V)) :: (210, heapSem [.v, .v, .v] A (gDiv32 A V)) :: ((tC5 A S))
theorem tN0OK : COK Tryz.prog (look (tN0 stdA stdW stdV)) := COK_cons ok_add32 (COK_cons ok_sub32 (COK_cons ok_div32 (tC5OK)))
theorem ok_lz32 : CallOK Tryz.prog 211 (heapSem [.v] stdA (gLz stdA stdV)) := by
  refine callOK_heap (un := ⟨false, none⟩) tok tC5OK mixed (fn := Tryz.f211) (by kernel_rfl) (by kernel_rfl) (by kernel_rfl) (by decide +kernel) ?_
  intro w Wr args bs r hg ho hWr A L k hA hL hk
  obtain ⟨S, hS⟩ : ∃ S, S = stdW := ⟨_, rfl⟩
  obtain ⟨V, hV⟩ : ∃ V, V = stdV := ⟨_, rfl⟩
  (try rw [← hS])
  (try rw [← hV])
  (try rw [← hA])
  unfold gLz at hg
  split at hg
  rotate_left
  · cases hg
  simp only [Option.some.injEq] at hg
  subst hg
  rename_i x
  have x0 := (ho_cons ho).1; replace ho := (ho_cons ho).2
  have x1 := (ho_cons ho).1; replace ho := (ho_cons ho).2
  clear ho
  simp only [stdA, stdCmp, decide_eq_true_eq] at x0 x1
  have hl := lenOf_le x.toNat 32 (by omega)
  cbv
  repeat' first | (with_reducible intro hb; cbv) | with_reducible refine And.intro ?_ ?_
  · subst hA; exact decide_eq_true x0
  · subst hA; exact decide_eq_true x1
  refine hk _ _ (Good.pure rfl fun ρ => ?_)
  subst hV hS hA
  refine ret1 ?_
  show IntKind.i64.wrap (32 - ((lenOf x.toNat : Nat) : Int)) = 32 - ((lenOf x.toNat : Nat) : Int)
  rw [IntKind.wrap_i64]; omega
def tN1 (A : Alg) (S : SW) (V : SV) : List (Nat × Sem') := (211, heapSem [.v] A (gLz A V)) :: ((tN0 A S V))
theorem tN1OK : COK Tryz.prog (look (tN1 stdA stdW stdV)) := COK_cons ok_lz32 (tN0OK)
def gPlus (V : SV) : List CV → List Blk → Option LR
  | [.s (.hp 0 0), .s (.hp 1 0)], [.fix false [.D d], .fix false [.D e]] => some ⟨[], .t [.s (.hp 2 0), .s (.bool (V.plusOK d e))], [.fix true [.D (V.plus d e)]]⟩
  | _, _ => none
theorem ok_plus : CallOK Tryz.prog 199 (heapSem [.pd, .pd] stdA (gPlus stdV)) := by
  refine callOK_heap (un := ⟨false, none⟩) tok tN1OK mixed (fn := Tryz.f199) (by kernel_rfl) (by kernel_rfl) (by kernel_rfl) (by decide +kernel) ?_
  intro w Wr args bs r hg ho hWr A L k hA hL hk
  obtain ⟨S, hS⟩ : ∃ S, S = stdW := ⟨_, rfl⟩
  obtain ⟨V, hV⟩ : ∃ V, V = stdV := ⟨_, rfl⟩
  (try rw [← hS])
  (try rw [← hV])
  (try rw [← hA])
  unfold gPlus at hg
  split at hg
  rotate_left
  · cases hg
  simp only [Option.some.injEq] at hg
  subst hg
  rename_i d e
  cbv
  refine hL _ _ _ (loop_rule (un := ⟨false, none⟩) tok tN1OK mixed (fun p : Int × Dg × Int => ⟨[(9, ⟨[], .c (.s (.int .i64 p.1))⟩), (7, ⟨[], .c (.s (.int .u32 p.2.2))⟩), (6, ⟨[], .c (.s (.hp 2 0))⟩), (0, ⟨[], .c (.s (.hp 0 0))⟩), (1, ⟨[], .c (.s (.hp 1 0))⟩)], [(2, .fix true [.D p.2.1]), (0, .fix false [.D d]), (1, .fix false [.D e])], 3⟩)
    (fun p => 0 ≤ p.1 ∧ p.1 ≤ 32 ∧ p.2.1.n = (d.n % 2 ^ (32 * p.1.toNat) + e.n % 2 ^ (32 * p.1.toNat)) % 2 ^ (32 * p.1.toNat) ∧ p.2.2 = ((d.n % 2 ^ (32 * p.1.toNat) + e.n % 2 ^ (32 * p.1.toNat)) / 2 ^ (32 * p.1.toNat) : Nat)) (fun p => (32 - p.1).toNat) (0, Dg.zero, 0) ?_ ?_ (fun _ i hi => by have := hWr i hi; simp at this ⊢; omega) ?_)
  · exact ⟨by omega, by omega, by simp [Dg.zero, Nat.mod_one], by simp [Nat.mod_one]⟩
  · exact ⟨⟨⟨rfl, rfl, fun _ => rfl⟩, ⟨rfl, rfl, fun _ => rfl⟩, ⟨rfl, rfl, fun _ => rfl⟩, ⟨rfl, rfl, fun _ => rfl⟩, ⟨rfl, rfl, fun _ => rfl⟩, trivial⟩, ⟨⟨rfl, rfl, fun _ => rfl⟩, ⟨rfl, rfl, fun _ => rfl⟩, ⟨rfl, rfl, fun _ => rfl⟩, trivial⟩, rfl, rfl⟩
  rintro ⟨i, out, c⟩ ⟨i0, i1, h1, h2⟩ A2 L2 k2 hA2 hL2 hnext hexit hret
  simp only at i0 i1 h1 h2
  have hc1 : c ≤ 1 := by rw [h2]; exact_mod_cast carry_le _ _ _ (Nat.two_pow_pos _)
  have hc0 : 0 ≤ c := by rw [h2]; exact Int.natCast_nonneg _
  have hd1 := dig_lt d i.toNat
  have he1 := dig_lt e i.toNat
  have hstep : i < 32 → c = ((c.toNat : Nat) : Int) ∧ (out.set i.toNat ((d.dig i.toNat + e.dig i.toNat + c.toNat) % 4294967296)).n = (d.n % 2 ^ (32 * (i.toNat + 1)) + e.n % 2 ^ (32 * (i.toNat + 1))) % 2 ^ (32 * (i.toNat + 1)) ∧ (d.dig i.toNat + e.dig i.toNat + c.toNat) / 4294967296 = (d.n % 2 ^ (32 * (i.toNat + 1)) + e.n % 2 ^ (32 * (i.toNat + 1))) / 2 ^ (32 * (i.toNat + 1)) := fun h => ⟨by omega, plus_step d e out i.toNat c.toNat (by omega) h1 (by rw [h2]; exact Int.toNat_natCast _)⟩
  have hs1 : (i + 1).toNat = i.toNat + 1 := by omega
  rw [← hA2, ← hS, ← hV]
  cbv
  repeat' first | (with_reducible intro hb; cbv) | with_reducible refine And.intro ?_ ?_
  all_goals try (clear hnext hexit hret hk hL hL2 h1 h2 hstep; subst hA2 hV; simp only [stdA, stdCmp, stdV, decide_eq_true_eq, ofNat_cast] at *; omega)
  · have hb : i < 32 := by subst hA2; simpa [stdA, stdCmp] using hb
    obtain ⟨g1, g2, g3⟩ := hstep hb
    have eD : A2.dig d i = ((d.dig i.toNat : Nat) : Int) := by subst hA2; rfl
    have eE : A2.dig e i = ((e.dig i.toNat : Nat) : Int) := by subst hA2; rfl
    have es : V.adds (A2.dig d i) (A2.dig e i) c = (((d.dig i.toNat + e.dig i.toNat + c.toNat) % 4294967296 : Nat) : Int) := by rw [eD, eE]; subst hV; show ((d.dig i.toNat : Nat) + (e.dig i.toNat : Nat) + c) % 4294967296 = _; omega
    have ec : V.addc (A2.dig d i) (A2.dig e i) c = (((d.dig i.toNat + e.dig i.toNat + c.toNat) / 4294967296 : Nat) : Int) := by rw [eD, eE]; subst hV; show ((d.dig i.toNat : Nat) + (e.dig i.toNat : Nat) + c) / 4294967296 = _; omega
    refine hnext _ (i + 1, A2.setD out i (V.adds (A2.dig d i) (A2.dig e i) c), V.addc (A2.dig d i) (A2.dig e i) c) ⟨by show 0 ≤ i + 1; omega, by show i + 1 ≤ 32; omega, ?_, ?_⟩ ?_ ⟨⟨⟨rfl, rfl, leI ?_⟩, ⟨rfl, rfl, fun _ => rfl⟩, ⟨rfl, rfl, fun _ => rfl⟩, ⟨rfl, rfl, fun _ => rfl⟩, ⟨rfl, rfl, fun _ => rfl⟩, trivial⟩, ⟨⟨rfl, rfl, fun _ => rfl⟩, ⟨rfl, rfl, fun _ => rfl⟩, ⟨rfl, rfl, fun _ => rfl⟩, trivial⟩, rfl, rfl⟩
    · show (A2.setD out i (V.adds (A2.dig d i) (A2.dig e i) c)).n = _
      rw [es, hs1, ← g2]
      subst hA2
      show (out.set i.toNat (((((d.dig i.toNat + e.dig i.toNat + c.toNat) % 4294967296 : Nat) : Int)).toNat)).n = _
      rw [Int.toNat_natCast]
    · show V.addc (A2.dig d i) (A2.dig e i) c = _
      rw [ec, hs1, g3]
    · show (32 - (i + 1)).toNat < (32 - i).toNat
      omega
    · subst hA2
      show stdBin .add .i64 i 1 = i + 1
      simp only [stdBin, IntKind.wrap_i64]; omega
  · apply hexit
    have hb : ¬ i < 32 := by subst hA2; simpa [stdA, stdCmp] using hb
    have hi : i = 32 := by omega
    subst hi
    clear hexit hnext hret hstep
    cbv
    repeat' first | (with_reducible intro hb; cbv) | with_reducible refine And.intro ?_ ?_
    have hd := ext_low d
    have he := ext_low e
    have h1 : out.n = (d.n % 2 ^ (32 * 32) + e.n % 2 ^ (32 * 32)) % 2 ^ (32 * 32) := h1
    have h2 : c = ((d.n % 2 ^ (32 * 32) + e.n % 2 ^ (32 * 32)) / 2 ^ (32 * 32) : Nat) := h2
    rw [hd, he] at h1 h2
    refine hk _ _ (Good.one (t := 2) rfl (by simp) (fun ρ => ?_) rfl (leD ?_))
    · refine tupPB ?_ rfl
      subst hA hV
      show (c == 0) = decide (d.n + e.n < 2 ^ 1024)
      rw [h2]
      by_cases h : d.n + e.n < 2 ^ 1024
      · rw [Nat.div_eq_of_lt h]; simp [h]
      · have : 0 < (d.n + e.n) / 2 ^ (32 * 32) := Nat.div_pos (by omega) (Nat.two_pow_pos _)
        have h0 : decide (d.n + e.n < 2 ^ 1024) = false := by simpa using h
        rw [h0, beq_eq_false_iff_ne]
        omega
    · subst hV
      exact Dg.ext' h1
def tN2 (A : Alg) (S : SW) (V : SV) : List (Nat × Sem') := (199, heapSem [.pd, .pd] A (gPlus V)) :: ((tN1 A S V))
theorem tN2OK : COK Tryz.prog (look (tN2 stdA stdW stdV)) := COK_cons ok_plus (tN1OK)
def gLess (V : SV) : List CV → List Blk → Option LR
  | [.s (.hp 0 0), .s (.hp 1 0)], [.fix false [.D d], .fix false [.D e]] => some ⟨[V.leD e d], .c (.s (.hp 2 0)), [.fix true [.D (V.less d e)]]⟩
  | _, _ => none
theorem ok_less : CallOK Tryz.prog 200 (heapSem [.pd, .pd] stdA (gLess stdV)) := by
  refine callOK_heap (un := ⟨false, none⟩) tok tN2OK mixed (fn := Tryz.f200) (by kernel_rfl) (by kernel_rfl) (by kernel_rfl) (by decide +kernel) ?_
  intro w Wr args bs r hg ho hWr A L k hA hL hk
  obtain ⟨S, hS⟩ : ∃ S, S = stdW := ⟨_, rfl⟩
  obtain ⟨V, hV⟩ : ∃ V, V = stdV := ⟨_, rfl⟩
  (try rw [← hS])
  (try rw [← hV])
  (try rw [← hA])
  unfold gLess at hg
  split at hg
  rotate_left
  · cases hg
  simp only [Option.some.injEq] at hg
  subst hg
  rename_i d e
  have hde : e.n ≤ d.n := by
    exact of_decide_eq_true (ho_cons ho).1
  clear ho
  cbv
  refine hL _ _ _ (loop_rule (un := ⟨false, none⟩) tok tN2OK mixed (fun p : Int × Dg × Int => ⟨[(8, ⟨[], .c (.s (.int .i64 p.1))⟩), (6, ⟨[], .c (.s (.int .u32 p.2.2))⟩), (5, ⟨[], .c (.s (.hp 2 0))⟩), (0, ⟨[], .c (.s (.hp 0 0))⟩), (1, ⟨[], .c (.s (.hp 1 0))⟩)], [(2, .fix true [.D p.2.1]), (0, .fix false [.D d]), (1, .fix false [.D e])], 3⟩)
    (fun p => 0 ≤ p.1 ∧ p.1 ≤ 32 ∧ (0 ≤ p.2.2 ∧ p.2.2 ≤ 1) ∧ p.2.1.n < 2 ^ (32 * p.1.toNat) ∧ (p.2.1.n : Int) = (d.n % 2 ^ (32 * p.1.toNat) : Nat) - (e.n % 2 ^ (32 * p.1.toNat) : Nat) + (2 ^ (32 * p.1.toNat) : Nat) * p.2.2) (fun p => (32 - p.1).toNat) (0, Dg.zero, 0) ?_ ?_ (fun _ i hi => by have := hWr i hi; simp at this ⊢; omega) ?_)
  · exact ⟨by omega, by omega, ⟨Int.le_refl _, by decide⟩, by simp [Dg.zero], by simp [Dg.zero, Nat.mod_one]⟩
  · exact ⟨⟨⟨rfl, rfl, fun _ => rfl⟩, ⟨rfl, rfl, fun _ => rfl⟩, ⟨rfl, rfl, fun _ => rfl⟩, ⟨rfl, rfl, fun _ => rfl⟩, ⟨rfl, rfl, fun _ => rfl⟩, trivial⟩, ⟨⟨rfl, rfl, fun _ => rfl⟩, ⟨rfl, rfl, fun _ => rfl⟩, ⟨rfl, rfl, fun _ => rfl⟩, trivial⟩, rfl, rfl⟩
  rintro ⟨i, out, c⟩ ⟨i0, i1, ⟨hc0, hc1⟩, h1, h2⟩ A2 L2 k2 hA2 hL2 hnext hexit hret
  simp only at i0 i1 hc0 hc1 h1 h2
  have hd1 := dig_lt d i.toNat
  have he1 := dig_lt e i.toNat
  have hs1 : (i + 1).toNat = i.toNat + 1 := by omega
  rw [← hA2, ← hS, ← hV]
  cbv
  repeat' first | (with_reducible intro hb; cbv) | with_reducible refine And.intro ?_ ?_
  all_goals try (clear hnext hexit hret hk hL hL2 h1 h2; subst hA2 hV; simp only [stdA, stdCmp, stdV, decide_eq_true_eq, ofNat_cast] at *; omega)
  · have hb : i < 32 := by subst hA2; simpa [stdA, stdCmp] using hb
    obtain ⟨g1, g2⟩ := less_step d e out i.toNat c _ (by omega) hc0 hc1 h1 h2 rfl
    have eD : A2.dig d i = ((d.dig i.toNat : Nat) : Int) := by subst hA2; rfl
    have eE : A2.dig e i = ((e.dig i.toNat : Nat) : Int) := by subst hA2; rfl
    have es : V.subs (A2.dig d i) (A2.dig e i) c = ((d.dig i.toNat : Nat) - (e.dig i.toNat : Nat) - c) % 4294967296 := by rw [eD, eE]; subst hV; rfl
    have ec : V.subc (A2.dig d i) (A2.dig e i) c = if ((d.dig i.toNat : Nat) - (e.dig i.toNat : Nat) - c : Int) < 0 then 1 else 0 := by rw [eD, eE]; subst hV; rfl
    have eo : A2.setD out i (V.subs (A2.dig d i) (A2.dig e i) c) = out.set i.toNat (((d.dig i.toNat : Nat) - (e.dig i.toNat : Nat) - c : Int) % 4294967296).toNat := by rw [es]; subst hA2; rfl
    refine hnext _ (i + 1, A2.setD out i (V.subs (A2.dig d i) (A2.dig e i) c), V.subc (A2.dig d i) (A2.dig e i) c) ⟨by show 0 ≤ i + 1; omega, by show i + 1 ≤ 32; omega, ?_, ?_, ?_⟩ ?_ ⟨⟨⟨rfl, rfl, leI ?_⟩, ⟨rfl, rfl, fun _ => rfl⟩, ⟨rfl, rfl, fun _ => rfl⟩, ⟨rfl, rfl, fun _ => rfl⟩, ⟨rfl, rfl, fun _ => rfl⟩, trivial⟩, ⟨⟨rfl, rfl, fun _ => rfl⟩, ⟨rfl, rfl, fun _ => rfl⟩, ⟨rfl, rfl, fun _ => rfl⟩, trivial⟩, rfl, rfl⟩
    · show 0 ≤ V.subc (A2.dig d i) (A2.dig e i) c ∧ V.subc (A2.dig d i) (A2.dig e i) c ≤ 1
      rw [ec]; split <;> omega
    · show (A2.setD out i (V.subs (A2.dig d i) (A2.dig e i) c)).n < _
      rw [eo, hs1]; exact g2
    · show ((A2.setD out i (V.subs (A2.dig d i) (A2.dig e i) c)).n : Int) = _
      rw [eo, hs1, g1]
      show _ = _ + _ * V.subc (A2.dig d i) (A2.dig e i) c
      rw [ec]
    · show (32 - (i + 1)).toNat < (32 - i).toNat
      omega
    · subst hA2
      show stdBin .add .i64 i 1 = i + 1
      simp only [stdBin, IntKind.wrap_i64]; omega
  · apply hexit
    have hb : ¬ i < 32 := by subst hA2; simpa [stdA, stdCmp] using hb
    have hi : i = 32 := by omega
    subst hi
    clear hexit hnext hret
    cbv
    repeat' first | (with_reducible intro hb; cbv) | with_reducible refine And.intro ?_ ?_
    have hd := ext_low d
    have he := ext_low e
    have h1 : out.n < 2 ^ (32 * 32) := h1
    have h2 : (out.n : Int) = (d.n % 2 ^ (32 * 32) : Nat) - (e.n % 2 ^ (32 * 32) : Nat) + (2 ^ (32 * 32) : Nat) * c := h2
    rw [hd, he] at h2
    refine hk _ _ (Good.one (t := 2) rfl (by simp) (fun ρ => ?_) rfl (leD ?_))
    · exact retP' rfl
    · subst hV
      apply Dg.ext'
      show out.n = d.n - e.n
      generalize (2 ^ (32 * 32) : Nat) = P at h1 h2
      have hcc : c = 0 ∨ c = 1 := by omega
      rcases hcc with rfl | rfl <;> omega
def tN3 (A : Alg) (S : SW) (V : SV) : List (Nat × Sem') := (200, heapSem [.pd, .pd] A (gLess V)) :: ((tN2 A S V))
theorem tN3OK : COK Tryz.prog (look (tN3 stdA stdW stdV)) := COK_cons ok_less (tN2OK)
end Go.Eng
namespace Go.Eng
open Go.Proofs
set_option maxRecDepth 100000
set_option linter.all false
set_option exponentiation.threshold 3000
def gAdd (V : SV) : List CV → List Blk → Option LR
  | [.g [.W x], .g [.W y]], [] => some ⟨[], .t [.g [.W (V.add x y)], .s (.bool (V.addOK x y))], []⟩
  | _, _ => none
theorem ok_wadd : CallOK Tryz.prog 170 (heapSem [.v, .v] stdA (gAdd stdV)) := by
  refine callOK_heap (un := ⟨false, none⟩) tok tN3OK mixed (fn := Tryz.f170) (by kernel_rfl) (by kernel_rfl) (by kernel_rfl) (by decide +kernel) ?_
  intro w Wr args bs r hg ho hWr A L k hA hL hk
  obtain ⟨S, hS⟩ : ∃ S, S = stdW := ⟨_, rfl⟩
  obtain ⟨V, hV⟩ : ∃ V, V = stdV := ⟨_, rfl⟩
  (try rw [← hS])
  (try rw [← hV])
  (try rw [← hA])
  unfold gAdd at hg
  split at hg
  rotate_left
  · cases hg
  simp only [Option.some.injEq] at hg
  subst hg
  rename_i x y
  have hz := add_eq x y
  cbv
  repeat' first | (with_reducible intro hb; cbv) | with_reducible refine And.intro ?_ ?_
  · have hb0 : A.8 (S.5 x) (S.5 y) = true := by assumption
    have hb1 : A.4 (V.9 x.d y.d) = true := by assumption
    refine hk _ _ (Good.pure rfl fun ρ => ?_)
    subst hA hV hS
    have hb0 : (wbelow x == wbelow y) = true := hb0
    have hb1 : (!stdV.plusOK x.d y.d) = true := hb1
    rw [Bool.not_eq_true'] at hb1
    refine tupWt ?_ ?_
    · refine Eq.trans ?_ hz.1.symm
      rw [hb0, hb1]; rfl
    · refine Eq.trans ?_ hz.2.symm
      rw [hb0, hb1]; rfl
  · have hb0 : A.8 (S.5 x) (S.5 y) = true := by assumption
    have hb1 : A.4 (V.9 x.d y.d) = false := by assumption
    refine hk _ _ (Good.pure rfl fun ρ => ?_)
    subst hA hV hS
    have hb0 : (wbelow x == wbelow y) = true := hb0
    have hb1 : (!stdV.plusOK x.d y.d) = false := hb1
    rw [Bool.not_eq_false'] at hb1
    refine tupWt ?_ ?_
    · refine Eq.trans ?_ hz.1.symm
      rw [hb0, hb1]; rfl
    · refine Eq.trans ?_ hz.2.symm
      rw [hb0, hb1]; rfl
  · subst hA hV hS
    have hb : decide (sgn x.d.n y.d.n ≥ 0) = true := by assumption
    simp only [decide_eq_true_eq] at hb
    show decide (y.d.n ≤ x.d.n) = true
    simp only [sgn] at hb
    simp only [decide_eq_true_eq]
    split at hb <;> omega
  · have hb0 : A.2 .geq (S.2 x.d y.d) 0 = true := by assumption
    have hb1 : A.8 (S.5 x) (S.5 y) = false := by assumption
    refine hk _ _ (Good.pure rfl fun ρ => ?_)
    subst hA hV hS
    have hb0 : decide (sgn x.d.n y.d.n ≥ 0) = true := hb0
    have hb1 : (wbelow x == wbelow y) = false := hb1
    refine tupWt ?_ ?_
    · refine Eq.trans ?_ hz.1.symm
      rw [hb1, hb0]; rfl
    · refine Eq.trans ?_ hz.2.symm
      rw [hb1]; rfl
  · subst hA hV hS
    have hb : decide (sgn x.d.n y.d.n ≥ 0) = false := by assumption
    simp only [decide_eq_false_iff_not] at hb
    show decide (x.d.n ≤ y.d.n) = true
    simp only [sgn] at hb
    simp only [decide_eq_true_eq]
    split at hb <;> omega
  · have hb0 : A.2 .geq (S.2 x.d y.d) 0 = false := by assumption
    have hb1 : A.8 (S.5 x) (S.5 y) = false := by assumption
    refine hk _ _ (Good.pure rfl fun ρ => ?_)
    subst hA hV hS
    have hb0 : decide (sgn x.d.n y.d.n ≥ 0) = false := hb0
    have hb1 : (wbelow x == wbelow y) = false := hb1
    refine tupWt ?_ ?_
    · refine Eq.trans ?_ hz.1.symm
      rw [hb1, hb0]; rfl
    · refine Eq.trans ?_ hz.2.symm
      rw [hb1]; rfl
def tN4 (A : Alg) (S : SW) (V : SV) : List (Nat × Sem') := (170, heapSem [.v, .v] A (gAdd V)) :: ((tN3 A S V))
theorem tN4OK : COK Tryz.prog (look (tN4 stdA stdW stdV)) := COK_cons ok_wadd (tN3OK)
def tN5 (A : Alg) (S : SW) (V : SV) : List (Nat × Sem') := ((tN4 A S V))
theorem tN5OK : COK Tryz.prog (look (tN5 stdA stdW stdV)) := tN4OK
def tN6 (A : Alg) (S : SW) (V : SV) : List (Nat × Sem') := ((tN5 A S V))
theorem tN6OK : COK Tryz.prog (look (tN6 stdA stdW stdV)) := tN5OK
end Go.Eng
namespace Go.Eng
open Go.Proofs
set_option maxRecDepth 100000
set_option linter.all false
set_option exponentiation.threshold 3000
def gByWord (A : Alg) (V : SV) : List CV → List Blk → Option LR
  | [.s (.hp 0 0), .s (.int .u32 n)], [.fix false [.D d]] => some ⟨[A.cmp .leq 1 n, A.cmp .lss n 4294967296], .t [.s (.hp 1 0), .s (.int .u32 (V.byR d n))], [.fix true [.D (V.byQ d n)]]⟩
  | _, _ => none
theorem ok_byWord : CallOK Tryz.prog 201 (heapSem [.pd, .v] stdA (gByWord stdA stdV)) := by
  refine callOK_heap (un := ⟨false, none⟩) tok tN6OK mixed (fn := Tryz.f201) (by kernel_rfl) (by kernel_rfl) (by kernel_rfl) (by decide +kernel) ?_
  intro w Wr args bs r hg ho hWr A L k hA hL hk
  obtain ⟨S, hS⟩ : ∃ S, S = stdW := ⟨_, rfl⟩
  obtain ⟨V, hV⟩ : ∃ V, V = stdV := ⟨_, rfl⟩
  (try rw [← hS])
  (try rw [← hV])
  (try rw [← hA])
  unfold gByWord at hg
  split at hg
  rotate_left
  · cases hg
  simp only [Option.some.injEq] at hg
  subst hg
  rename_i n d
  have n1 := (ho_cons ho).1; replace ho := (ho_cons ho).2
  have n2 := (ho_cons ho).1; replace ho := (ho_cons ho).2
  clear ho
  simp only [stdA, stdCmp, decide_eq_true_eq] at n1 n2
  have hsz := dSize_le d 32
  cbv
  refine hL _ _ _ (loop_rule (un := ⟨false, none⟩) tok tN6OK mixed (fun p : Int × Dg × Int => ⟨[(8, ⟨[], .c (.s (.int .i64 p.1))⟩), (7, ⟨[], .c (.s (.int .u32 p.2.2))⟩), (6, ⟨[], .c (.s (.hp 1 0))⟩), (0, ⟨[], .c (.s (.hp 0 0))⟩), (1, ⟨[], .c (.s (.int .u32 n))⟩)], [(1, .fix true [.D p.2.1]), (0, .fix false [.D d])], 2⟩)
    (fun p => -1 ≤ p.1 ∧ p.1 < 32 ∧ p.2.1.n = d.n / 2 ^ (32 * (p.1 + 1).toNat) / n.toNat * 2 ^ (32 * (p.1 + 1).toNat) ∧ p.2.2 = ((d.n / 2 ^ (32 * (p.1 + 1).toNat) % n.toNat : Nat) : Int)) (fun p => (p.1 + 1).toNat) ((dSize d : Int) - 1, Dg.zero, 0) ?_ ?_ (fun _ i hi => by have := hWr i hi; simp at this ⊢; omega) ?_)
  · have h0 : d.n / 2 ^ (32 * ((dSize d : Int) - 1 + 1).toNat) = 0 := by
      rw [show ((dSize d : Int) - 1 + 1).toNat = dSize d by omega]
      exact Nat.div_eq_of_lt ((dSize_le d (dSize d)).1 (Nat.le_refl _))
    have h32 : dSize d ≤ 32 := hsz.2 d.lt
    refine ⟨by show (-1 : Int) ≤ (dSize d : Int) - 1; omega, by show (dSize d : Int) - 1 < 32; omega, ?_, ?_⟩
    · show Dg.zero.n = _
      rw [h0]; simp [Dg.zero]
    · show (0 : Int) = _
      rw [h0]; simp
  · refine ⟨⟨⟨rfl, rfl, leI ?_⟩, ⟨rfl, rfl, fun _ => rfl⟩, ⟨rfl, rfl, fun _ => rfl⟩, ⟨rfl, rfl, fun _ => rfl⟩, ⟨rfl, rfl, fun _ => rfl⟩, trivial⟩, ⟨⟨rfl, rfl, fun _ => rfl⟩, ⟨rfl, rfl, fun _ => rfl⟩, trivial⟩, rfl, rfl⟩
    subst hA hS
    have h32 : dSize d ≤ 32 := hsz.2 d.lt
    show stdBin .sub .i64 (dSize d : Int) 1 = (dSize d : Int) - 1
    simp only [stdBin, IntKind.wrap_i64]; omega
  rintro ⟨i, out, c⟩ ⟨i0, i1, h1, h2⟩ A2 L2 k2 hA2 hL2 hnext hexit hret
  simp only at i0 i1 h1 h2
  have hd1 := dig_lt d i.toNat
  have hc0 : 0 ≤ c := by rw [h2]; exact Int.natCast_nonneg _
  have hcn : c < n := by
    have := Nat.mod_lt (d.n / 2 ^ (32 * (i + 1).toNat)) (show 0 < n.toNat by omega)
    rw [h2]; omega
  have hq : 0 ≤ i → (c * 4294967296 + (d.dig i.toNat : Nat)) / n = (((c.toNat * 2 ^ 32 + d.dig i.toNat) / n.toNat : Nat) : Int) ∧ (c * 4294967296 + (d.dig i.toNat : Nat)) % n = (((c.toNat * 2 ^ 32 + d.dig i.toNat) % n.toNat : Nat) : Int) := fun h => by
    have e : (n.toNat : Int) = n := by omega
    have e2 : (c.toNat : Int) = c := by omega
    rw [Int.natCast_ediv, Int.natCast_emod, Int.natCast_add, Int.natCast_mul, e, e2]
    exact ⟨rfl, rfl⟩
  have hstep : 0 ≤ i → _ := fun h => byWord_step d out n.toNat i.toNat c.toNat (by omega) (by rw [h1, show (i + 1).toNat = i.toNat + 1 by omega]) (by rw [h2, show (i + 1).toNat = i.toNat + 1 by omega]; exact Int.toNat_natCast _) (by omega) (by omega)
  rw [← hA2, ← hS, ← hV]
  cbv
  repeat' first | (with_reducible intro hb; cbv) | with_reducible refine And.intro ?_ ?_
  all_goals try (clear hnext hexit hret hk hL hL2 h1 h2 hstep hq hsz; subst hA2; simp only [stdA, stdCmp, decide_eq_true_eq, ofNat_cast] at *; omega)
  · have hi0 : 0 ≤ i := by subst hA2; simpa [stdA, stdCmp] using hb
    clear hnext hexit hret hk hL hL2
    have eq : V.divq c (A2.dig d i) n = (((c.toNat * 2 ^ 32 + d.dig i.toNat) / n.toNat : Nat) : Int) := by subst hV hA2; exact (hq hi0).1
    show A2.cmp .leq 0 (V.divq c (A2.dig d i) n) = true
    rw [eq]; subst hA2; exact @decide_eq_true (0 ≤ (((c.toNat * 2 ^ 32 + d.dig i.toNat) / n.toNat : Nat) : Int)) _ (Int.natCast_nonneg _)
  · have hi0 : 0 ≤ i := by subst hA2; simpa [stdA, stdCmp] using hb
    clear hnext hexit hret hk hL hL2
    have eq : V.divq c (A2.dig d i) n = (((c.toNat * 2 ^ 32 + d.dig i.toNat) / n.toNat : Nat) : Int) := by subst hV hA2; exact (hq hi0).1
    have := (hstep hi0).2.2
    show A2.cmp .lss (V.divq c (A2.dig d i) n) 4294967296 = true
    rw [eq]; subst hA2; simp only [stdA, stdCmp, decide_eq_true_eq]; omega
  · have hi0 : 0 ≤ i := by subst hA2; simpa [stdA, stdCmp] using hb
    obtain ⟨g1, g2, g3⟩ := hstep hi0
    obtain ⟨q1, q2⟩ := hq hi0
    have eq : V.divq c (A2.dig d i) n = (((c.toNat * 2 ^ 32 + d.dig i.toNat) / n.toNat : Nat) : Int) := by subst hV hA2; exact q1
    have er : V.divr c (A2.dig d i) n = (((c.toNat * 2 ^ 32 + d.dig i.toNat) % n.toNat : Nat) : Int) := by subst hV hA2; exact q2
    have hs1 : (i - 1 + 1).toNat = i.toNat := by omega
    refine hnext _ (i - 1, A2.setD out i (V.divq c (A2.dig d i) n), V.divr c (A2.dig d i) n) ⟨by show -1 ≤ i - 1; omega, by show i - 1 < 32; omega, ?_, ?_⟩ ?_ ⟨⟨⟨rfl, rfl, leI ?_⟩, ⟨rfl, rfl, fun _ => rfl⟩, ⟨rfl, rfl, fun _ => rfl⟩, ⟨rfl, rfl, fun _ => rfl⟩, ⟨rfl, rfl, fun _ => rfl⟩, trivial⟩, ⟨⟨rfl, rfl, fun _ => rfl⟩, ⟨rfl, rfl, fun _ => rfl⟩, trivial⟩, rfl, rfl⟩
    · show (A2.setD out i (V.divq c (A2.dig d i) n)).n = d.n / 2 ^ (32 * (i - 1 + 1).toNat) / n.toNat * 2 ^ (32 * (i - 1 + 1).toNat)
      rw [eq, hs1, ← g1]
      subst hA2
      show (out.set i.toNat ((((c.toNat * 2 ^ 32 + d.dig i.toNat) / n.toNat : Nat) : Int)).toNat).n = _
      rw [Int.toNat_natCast]
    · show V.divr c (A2.dig d i) n = ((d.n / 2 ^ (32 * (i - 1 + 1).toNat) % n.toNat : Nat) : Int)
      rw [er, hs1, g2]
    · show (i - 1 + 1).toNat < (i + 1).toNat
      omega
    · subst hA2
      show stdBin .sub .i64 i 1 = i - 1
      simp only [stdBin, IntKind.wrap_i64]; omega
  · apply hexit
    have hb : ¬ 0 ≤ i := by subst hA2; simpa [stdA, stdCmp] using hb
    have hi : i = -1 := by omega
    subst hi
    clear hexit hnext hret hstep
    cbv
    repeat' first | (with_reducible intro hb; cbv) | with_reducible refine And.intro ?_ ?_
    have h1 : out.n = d.n / 2 ^ (32 * 0) / n.toNat * 2 ^ (32 * 0) := h1
    have h2 : c = ((d.n / 2 ^ (32 * 0) % n.toNat : Nat) : Int) := h2
    simp only [Nat.mul_zero, Nat.pow_zero, Nat.div_one, Nat.mul_one] at h1 h2
    refine hk _ _ (Good.one (t := 1) rfl (by simp) (fun ρ => ?_) rfl (leD ?_))
    · refine tupPI ?_ rfl
      subst hV
      exact h2
    · subst hV
      exact Dg.ext' h1
def tN7 (A : Alg) (S : SW) (V : SV) : List (Nat × Sem') := (201, heapSem [.pd, .v] A (gByWord A V)) :: ((tN6 A S V))
theorem tN7OK : COK Tryz.prog (look (tN7 stdA stdW stdV)) := COK_cons ok_byWord (tN6OK)
end Go.Eng
namespace Go.Eng
open Go.Proofs
set_option maxRecDepth 100000
set_option linter.all false
set_option exponentiation.threshold 3000
theorem shl_word (v n : Int) (h0 : 0 ≤ v) (h1 : v < 4294967296) (n0 : 0 ≤ n) (n1 : n < 32) : stdBin .shl .u64 (IntKind.u64.wrap v) n = v * 2 ^ n.toNat ∧ 0 ≤ v * 2 ^ n.toNat ∧ v * 2 ^ n.toNat < 18446744073709551616 := by
  have hp : (2 : Nat) ^ n.toNat ≤ 2 ^ 31 := Nat.pow_le_pow_right (by decide) (by omega)
  have hc : ((2 : Int) ^ n.toNat) = ((2 ^ n.toNat : Nat) : Int) := by simp
  have hb : v * ((2 ^ n.toNat : Nat) : Int) < 4294967296 * 2147483648 := by
    have h2 : v * ((2 ^ n.toNat : Nat) : Int) ≤ v * 2147483648 := Int.mul_le_mul_of_nonneg_left (by omega) h0
    omega
  have hz : 0 ≤ v * ((2 ^ n.toNat : Nat) : Int) := Int.mul_nonneg h0 (Int.natCast_nonneg _)
  have e1 : IntKind.u64.wrap v = v := by rw [w_u64]; omega
  rw [e1]
  rw [hc]
  refine ⟨?_, hz, by omega⟩
  show IntKind.u64.wrap (v * 2 ^ min n.toNat 64) = _
  rw [Nat.min_eq_left (by omega), hc, w_u64]
  omega
theorem low_word (w : Int) (h0 : 0 ≤ w) (h1 : w < 18446744073709551616) : IntKind.u32.wrap (stdBin .and .u64 w 4294967295) = w % 4294967296 := by
  rw [u64_low w h0 h1, IntKind.wrap_u32]; omega
theorem high_word (w : Int) (h0 : 0 ≤ w) (h1 : w < 18446744073709551616) : IntKind.u32.wrap (stdBin .shr .u64 w 32) = w / 4294967296 := by
  rw [u64_high w h0, IntKind.wrap_u32]; omega
theorem shifted_step (l M : List Int) (i n : Int) (n1 : 0 ≤ n) (n2 : n < 32) (hW : W32 l) (hlen : (l.length : Int) ≤ 64) (i0 : 0 ≤ i) (i1 : i < (l.length : Int)) (m1 : W32 M) (m2 : M.length = l.length + 1) (m3 : valL M = 2 ^ n.toNat * valL (l.take i.toNat)) (m4 : valL M < 2 ^ (32 * i.toNat + n.toNat))
    (A : Alg) (hA : A = stdA) (w a b : Int) (hw : w = A.bin .shl .u64 (A.wrap .u64 (A.get l i 0)) n) (ha : a = A.bin .or .u32 (A.get M i 0) (A.wrap .u32 (A.bin .and .u64 w 4294967295))) (hb : b = A.wrap .u32 (A.bin .shr .u64 w 32)) :
    W32 (A.set (A.set M i a) (A.bin .add .i64 i 1) b) ∧ (A.set (A.set M i a) (A.bin .add .i64 i 1) b).length = l.length + 1 ∧ valL (A.set (A.set M i a) (A.bin .add .i64 i 1) b) = 2 ^ n.toNat * valL (l.take (i + 1).toNat) ∧ valL (A.set (A.set M i a) (A.bin .add .i64 i 1) b) < 2 ^ (32 * (i + 1).toNat + n.toNat) ∧
    A.bin .add .i64 i 1 = i + 1 ∧ A.len (A.set M i a) = (l.length : Int) + 1 := by
  subst hA
  have hgl : stdA.get l i 0 = l.getD i.toNat 0 := rfl
  have hgm : stdA.get M i 0 = M.getD i.toNat 0 := rfl
  obtain ⟨v0, v1⟩ := hW.getD i.toNat
  obtain ⟨u0, u1⟩ := m1.getD i.toNat
  obtain ⟨s1, s2, s3⟩ := shl_word (l.getD i.toNat 0) n v0 v1 n1 n2
  have hw' : w = l.getD i.toNat 0 * 2 ^ n.toNat := by rw [hw, hgl]; exact s1
  rw [← hw'] at s2 s3
  have ha' : a = (((M.getD i.toNat 0).toNat ||| (w % 4294967296).toNat : Nat) : Int) := by
    rw [ha, hgm]
    show stdBin .or .u32 _ (IntKind.u32.wrap (stdBin .and .u64 w 4294967295)) = _
    rw [low_word w s2 s3, u32_or _ _ u0 u1 (by omega) (by omega)]
  have hb' : b = w / 4294967296 := by rw [hb]; exact high_word w s2 s3
  have e1 : stdA.bin .add .i64 i 1 = i + 1 := by
    show stdBin .add .i64 i 1 = _
    simp only [stdBin, IntKind.wrap_i64]; omega
  obtain ⟨g1, g2, g3⟩ := shl_step M i.toNat n.toNat _ w a b m1 (by omega) (by omega) v0 v1 m4 hw' ha' hb'
  have hi1 : (i + 1).toNat = i.toNat + 1 := by omega
  have es : stdA.set (stdA.set M i a) (stdA.bin .add .i64 i 1) b = (M.set i.toNat a).set (i.toNat + 1) b := by rw [e1, ← hi1]; rfl
  rw [es, hi1]
  refine ⟨g1, by simp [m2], ?_, g3, e1, ?_⟩
  · rw [g2, m3]
    have : l.take (i.toNat + 1) = l.take i.toNat ++ [l.getD i.toNat 0] := by
      rw [List.take_add_one]
      congr 1
      rw [List.getD, List.getElem?_eq_getElem (by omega)]; rfl
    rw [this, valL_snoc, List.length_take, Nat.min_eq_left (by omega), Nat.mul_add]
    congr 1
    rw [Nat.mul_comm (l.getD i.toNat 0).toNat, ← Nat.mul_assoc, ← Nat.mul_assoc, Nat.mul_comm (2 ^ (32 * i.toNat))]
  · show ((M.set i.toNat a).length : Int) = _
    simp [m2]
def gShifted (A : Alg) (V : SV) : List CV → List Blk → Option LR
  | [.s (.hs 0), .s (.int .i64 n)], [.vec false (.int .u32) l] => some ⟨[A.cmp .leq 0 n, A.cmp .lss n 32, A.all32 l, A.cmp .leq (A.len l) 64], .c (.s (.hs 1)), [.vec true (.int .u32) (V.shl l n)]⟩
  | _, _ => none
theorem ok_shifted : CallOK Tryz.prog 212 (heapSem [.s (.int .u32), .v] stdA (gShifted stdA stdV)) := by
  refine callOK_heap (un := ⟨false, none⟩) tok tN7OK mixed (fn := Tryz.f212) (by kernel_rfl) (by kernel_rfl) (by kernel_rfl) (by decide +kernel) ?_
  intro w Wr args bs r hg ho hWr A L k hA hL hk
  obtain ⟨S, hS⟩ : ∃ S, S = stdW := ⟨_, rfl⟩
  obtain ⟨V, hV⟩ : ∃ V, V = stdV := ⟨_, rfl⟩
  (try rw [← hS])
  (try rw [← hV])
  (try rw [← hA])
  unfold gShifted at hg
  split at hg
  rotate_left
  · cases hg
  simp only [Option.some.injEq] at hg
  subst hg
  rename_i n l
  have n1 : 0 ≤ n := of_decide_eq_true (ho_cons ho).1
  have n2 : n < 32 := of_decide_eq_true (ho_cons (ho_cons ho).2).1
  have hW := W32.all (ho_cons (ho_cons (ho_cons ho).2).2).1
  have hlen : (l.length : Int) ≤ 64 := of_decide_eq_true (ho_cons (ho_cons (ho_cons (ho_cons ho).2).2).2).1
  clear ho
  have eL : A.len l = (l.length : Int) := by subst hA; rfl
  have eL1 : A.bin .add .i64 (A.len l) 1 = (l.length : Int) + 1 := by rw [eL]; subst hA; show stdBin .add .i64 _ _ = _; simp only [stdBin, IntKind.wrap_i64]; omega
  have f1 : A.cmp .leq 0 (A.bin .add .i64 (A.len l) 1) = true := by rw [eL1]; subst hA; simp only [stdA, stdCmp, decide_eq_true_eq]; omega
  have f2 : A.cmp .eql (A.bin .add .i64 (A.len l) 1) (A.bin .add .i64 (A.len l) 1) = true := by subst hA; simp only [stdA, stdCmp, beq_self_eq_true]
  have f3 : A.cmp .leq (A.bin .add .i64 (A.len l) 1) 1000000 = true := by rw [eL1]; subst hA; simp only [stdA, stdCmp, decide_eq_true_eq]; omega
  have e : A.rep ((l.length : Int) + 1) (0 : Int) = List.replicate (l.length + 1) 0 := by subst hA; show List.replicate ((l.length : Int) + 1).toNat 0 = _; congr 1
  have step := fun (i : Int) (M : List Int) (i0 : 0 ≤ i) (i1 : i < (l.length : Int)) (m1 : W32 M) (m2 : M.length = l.length + 1) (m3 : valL M = 2 ^ n.toNat * valL (l.take i.toNat)) (m4 : valL M < 2 ^ (32 * i.toNat + n.toNat)) => shifted_step l M i n n1 n2 hW hlen i0 i1 m1 m2 m3 m4
  have fin : ∀ M : List Int, W32 M → M.length = l.length + 1 → valL M = 2 ^ n.toNat * valL l → M = stdV.shl l n := fun M h1 h2 h3 => by
    show M = digL (2 ^ n.toNat * valL l) (l.length + 1)
    rw [← h3, ← h2, digL_valL h1]
  have init : valL (List.replicate (l.length + 1) 0) = 2 ^ n.toNat * valL (l.take (0 : Int).toNat) ∧ valL (List.replicate (l.length + 1) 0) < 2 ^ (32 * (0 : Int).toNat + n.toNat) := by
    rw [valL_rep0]
    exact ⟨by simp [valL], Nat.two_pow_pos _⟩
  have hl0 : (0 : Int) ≤ (l.length : Int) := Int.natCast_nonneg _
  cbv
  repeat' first | (with_reducible intro hb; cbv) | with_reducible refine And.intro ?_ ?_
  · exact f1
  · exact f2
  · exact f3
  refine hL _ _ _ (loop_rule (un := ⟨false, none⟩) tok tN7OK mixed (fun p : Int × List Int => ⟨[(15, ⟨[], .c (.s (.int .i64 p.1))⟩), (5, ⟨[], .c (.s (.hs 1))⟩), (13, ⟨[], .c (.s (.hs 0))⟩), (14, ⟨[], .c (.s (.int .i64 (stdA.len l)))⟩), (1, ⟨[], .c (.s (.int .i64 n))⟩)], [(1, .vec true (.int .u32) p.2), (0, .vec false (.int .u32) l)], 2⟩)
    (fun p => 0 ≤ p.1 ∧ p.1 ≤ l.length ∧ W32 p.2 ∧ p.2.length = l.length + 1 ∧ valL p.2 = 2 ^ n.toNat * valL (l.take p.1.toNat) ∧ valL p.2 < 2 ^ (32 * p.1.toNat + n.toNat)) (fun p => (l.length - p.1).toNat) (0, A.rep (A.bin .add .i64 (A.len l) 1) 0) ?_ ?_ (fun _ i hi => by have := hWr i hi; simp at this ⊢; omega) ?_)
  · refine ⟨Int.le_refl 0, hl0, ?_, ?_, ?_, ?_⟩
    · rw [eL1, e]; intro v hv; have := List.eq_of_mem_replicate hv; omega
    · rw [eL1, e]; exact List.length_replicate
    · rw [eL1, e]; exact init.1
    · rw [eL1, e]; exact init.2
  · exact ⟨⟨⟨rfl, rfl, fun _ => rfl⟩, ⟨rfl, rfl, fun _ => rfl⟩, ⟨rfl, rfl, fun _ => rfl⟩, ⟨rfl, rfl, leI (by subst hA; rfl)⟩, ⟨rfl, rfl, fun _ => rfl⟩, trivial⟩, ⟨leRefl rfl, leRefl rfl, trivial⟩, rfl, rfl⟩
  rintro ⟨i, M⟩ ⟨i0, i1, m1, m2, m3, m4⟩ A2 L2 k2 hA2 hL2 hnext hexit hret
  simp only at i0 i1 m1 m2 m3 m4
  have hlm : A2.len M = (l.length : Int) + 1 := by subst hA2; show (M.length : Int) = _; rw [m2]; simp
  have o0 : A2.cmp .leq 0 i = true := by subst hA2; exact decide_eq_true i0
  have on : A2.cmp .geq n 0 = true := by subst hA2; exact decide_eq_true n1
  have oi : A2.cmp .lss i (A2.len l) = true → i < (l.length : Int) := fun h => by subst hA2; exact of_decide_eq_true h
  have oe : A2.cmp .lss i (A2.len l) = false → i = (l.length : Int) := fun h => by subst hA2; have : ¬ i < (l.length : Int) := of_decide_eq_false h; omega
  have oM : A2.cmp .lss i (A2.len l) = true → A2.cmp .lss i (A2.len M) = true := fun h => by
    have := oi h
    rw [hlm]; subst hA2; exact decide_eq_true (by omega)
  have st := fun h : A2.cmp .lss i (A2.len l) = true => step i M i0 (oi h) m1 m2 m3 m4 A2 hA2 _ _ _ rfl rfl rfl
  have ol : A2.cmp .lss i (A2.len l) = true → A2.cmp .leq 0 (A2.bin .add .i64 i 1) = true := fun h => by
    rw [(st h).2.2.2.2.1]; subst hA2; exact decide_eq_true (by omega)
  have oM' : ∀ h : A2.cmp .lss i (A2.len l) = true, A2.cmp .lss (A2.bin .add .i64 i 1) (A2.len (A2.set M i (A2.bin .or .u32 (A2.get M i 0) (A2.wrap .u32 (A2.bin .and .u64 (A2.bin .shl .u64 (A2.wrap .u64 (A2.get l i 0)) n) 4294967295))))) = true := fun h => by
    have := oi h
    rw [(st h).2.2.2.2.1, (st h).2.2.2.2.2]; subst hA2; show decide (i + 1 < (l.length : Int) + 1) = true; exact decide_eq_true (by omega)
  have en : A2.cmp .lss i (A2.len l) = true → (l.length - (i + 1)).toNat < (l.length - i).toNat := fun h => by have := oi h; omega
  have e0 : (0 : Int) ≤ i + 1 := by omega
  have e1 : A2.cmp .lss i (A2.len l) = true → i + 1 ≤ (l.length : Int) := fun h => by have := oi h; omega
  have fin' : A2.cmp .lss i (A2.len l) = false → M = stdV.shl l n := fun h => fin M m1 m2 (by rw [m3, oe h, Int.toNat_natCast, List.take_length])
  rw [← hA2, ← hS, ← hV]
  cbv
  repeat' first | (with_reducible intro hb; cbv) | with_reducible refine And.intro ?_ ?_
  all_goals first | exact o0 | exact on | exact hb | exact oM hb | exact ol hb | exact oM' hb | skip
  · obtain ⟨g1, g2, g3, g4, g5, _⟩ := st hb
    refine hnext _ (i + 1, _) ⟨e0, e1 hb, g1, g2, g3, g4⟩ (en hb) ⟨⟨⟨rfl, rfl, leI g5⟩, ⟨rfl, rfl, fun _ => rfl⟩, ⟨rfl, rfl, fun _ => rfl⟩, ⟨rfl, rfl, leI (by subst hA2; rfl)⟩, ⟨rfl, rfl, fun _ => rfl⟩, trivial⟩, ⟨leV rfl, leRefl rfl, trivial⟩, rfl, rfl⟩
  · apply hexit
    have hM := fin' hb
    clear hexit hnext hret st oM' ol oM
    cbv
    repeat' first | (with_reducible intro hb; cbv) | with_reducible refine And.intro ?_ ?_
    refine hk _ _ (Good.one (t := 1) rfl (by simp) (fun ρ => rfl) rfl (leV ?_))
    subst hV
    exact hM
def tN8 (A : Alg) (S : SW) (V : SV) : List (Nat × Sem') := (212, heapSem [.s (.int .u32), .v] A (gShifted A V)) :: ((tN7 A S V))
theorem tN8OK : COK Tryz.prog (look (tN8 stdA stdW stdV)) := COK_cons ok_shifted (tN7OK)
end Go.Eng
namespace Go.Eng
open Go.Proofs
set_option maxRecDepth 100000
set_option linter.all false
set_option exponentiation.threshold 3000
theorem guess_in (u2 u1 u0 v1 v0 q r : Nat) (h1 : u1 < 2 ^ 32) (h0 : u0 < 2 ^ 32) (k0 : v0 < 2 ^ 32) (hv : 1 ≤ v1) (hu : u2 ≤ v1) (T : Nat) (hT : T = min 4294967295 ((u2 * 2 ^ 64 + u1 * 2 ^ 32 + u0) / (v1 * 2 ^ 32 + v0)))
    (hq : q * v1 + r = u2 * 2 ^ 32 + u1) (hr : r < 2 ^ 32) (hTq : T ≤ q) :
    ((4294967295 < q ∨ r * 2 ^ 32 + u0 < q * v0) → 1 ≤ q ∧ T ≤ q - 1 ∧ (q - 1) * v1 + (r + v1) = u2 * 2 ^ 32 + u1 ∧ (4294967295 < r + v1 → q - 1 = T)) ∧
    (¬ (4294967295 < q ∨ r * 2 ^ 32 + u0 < q * v0) → q = T) := by
  have hV : 0 < v1 * 2 ^ 32 + v0 := by omega
  have hTle : ∀ m : Nat, m ≤ 4294967295 → m * (v1 * 2 ^ 32 + v0) ≤ u2 * 2 ^ 64 + u1 * 2 ^ 32 + u0 → m ≤ T := fun m h h' => by
    have := (Nat.le_div_iff_mul_le hV).2 h'
    omega
  have hTv : T * (v1 * 2 ^ 32 + v0) ≤ u2 * 2 ^ 64 + u1 * 2 ^ 32 + u0 := by
    have h := Nat.div_mul_le_self (u2 * 2 ^ 64 + u1 * 2 ^ 32 + u0) (v1 * 2 ^ 32 + v0)
    have : T ≤ (u2 * 2 ^ 64 + u1 * 2 ^ 32 + u0) / (v1 * 2 ^ 32 + v0) := by omega
    exact Nat.le_trans (Nat.mul_le_mul_right _ this) h
  have hTB : T ≤ 4294967295 := by omega
  have exp : ∀ m : Nat, m * (v1 * 2 ^ 32 + v0) = m * v1 * 2 ^ 32 + m * v0 := fun m => by rw [Nat.mul_add, Nat.mul_assoc]
  have e64 : u2 * 2 ^ 64 = u2 * 2 ^ 32 * 2 ^ 32 := by omega
  constructor
  · intro hc
    have hlt : T < q := by
      rcases hc with hc | hc
      · omega
      · rcases Nat.lt_or_ge T q with h | h
        · exact h
        · have : T = q := by omega
          subst this
          rw [exp] at hTv
          generalize T * v1 = a at *
          generalize T * v0 = b at *
          omega
    have hq1 : 1 ≤ q := by omega
    obtain ⟨p, rfl⟩ : ∃ p, q = p + 1 := ⟨q - 1, by omega⟩
    rw [Nat.add_sub_cancel]
    have hq' : p * v1 + (r + v1) = u2 * 2 ^ 32 + u1 := by rw [← hq, Nat.add_mul]; omega
    refine ⟨hq1, by omega, hq', fun hbig => ?_⟩
    have hpB : p ≤ 4294967295 := by
      have hlt : p * v1 < 4294967296 * v1 := by
        have : u2 * 2 ^ 32 ≤ v1 * 2 ^ 32 := Nat.mul_le_mul_right _ hu
        generalize p * v1 = a at *
        omega
      have := Nat.lt_of_mul_lt_mul_right hlt
      omega
    have hpv : p * v0 ≤ 4294967295 * 4294967295 := Nat.mul_le_mul hpB (by omega)
    have : p ≤ T := hTle p hpB (by
      rw [exp, e64]
      generalize p * v1 = a at *
      generalize p * v0 = b at *
      omega)
    omega
  · intro hc
    have : q ≤ T := hTle q (by omega) (by
      rw [exp, e64]
      generalize q * v1 = a at *
      generalize q * v0 = b at *
      omega)
    omega
theorem guess_first (u2 u1 u0 v1 v0 : Nat) (h0 : u0 < 2 ^ 32) (hv : 1 ≤ v1) (T : Nat) (hT : T = min 4294967295 ((u2 * 2 ^ 64 + u1 * 2 ^ 32 + u0) / (v1 * 2 ^ 32 + v0))) : T ≤ (u2 * 2 ^ 32 + u1) / v1 := by
  rw [Nat.le_div_iff_mul_le hv]
  have h := Nat.div_mul_le_self (u2 * 2 ^ 64 + u1 * 2 ^ 32 + u0) (v1 * 2 ^ 32 + v0)
  have : T ≤ (u2 * 2 ^ 64 + u1 * 2 ^ 32 + u0) / (v1 * 2 ^ 32 + v0) := by omega
  have h2 := Nat.le_trans (Nat.mul_le_mul_right (v1 * 2 ^ 32 + v0) this) h
  rw [Nat.mul_add, ← Nat.mul_assoc] at h2
  generalize T * v1 = a at *
  generalize T * v0 = b at *
  omega
def GI (u v : List Int) (q r : Int) : Prop := 0 ≤ q ∧ 0 ≤ r ∧ q.toNat * (v.getD 1 0).toNat + r.toNat = (u.getD 2 0).toNat * 2 ^ 32 + (u.getD 1 0).toNat ∧ r < 4294967296 ∧ kGuess u v ≤ q.toNat
theorem guessOK_of {u v : List Int} (h : stdV.guessOK u v = true) : GuessOK u v := by
  simp only [stdV, Bool.and_eq_true, decide_eq_true_eq] at h
  obtain ⟨⟨⟨⟨⟨h1, h2⟩, h3⟩, h4⟩, h5⟩, h6⟩ := h
  exact ⟨h1, h2, h3, h4, W32.all h5, W32.all h6⟩
theorem u64_id (x : Int) (h0 : 0 ≤ x) (h1 : x < 18446744073709551616) : IntKind.u64.wrap x = x := by rw [w_u64]; omega
theorem guess_init {u v : List Int} (h : GuessOK u v) (A : Alg) (hA : A = stdA) :
    GI u v (A.bin .quo .u64 (A.bin .or .u64 (A.bin .shl .u64 (A.wrap .u64 (A.get u 2 0)) 32) (A.wrap .u64 (A.get u 1 0))) (A.wrap .u64 (A.get v 1 0))) (A.bin .rem .u64 (A.bin .or .u64 (A.bin .shl .u64 (A.wrap .u64 (A.get u 2 0)) 32) (A.wrap .u64 (A.get u 1 0))) (A.wrap .u64 (A.get v 1 0))) ∧
    A.cmp .neq (A.wrap .u64 (A.get v 1 0)) 0 = true := by
  subst hA
  obtain ⟨a2, b2⟩ := h.wu.getD 2
  obtain ⟨a1, b1⟩ := h.wu.getD 1
  obtain ⟨a0, b0⟩ := h.wu.getD 0
  obtain ⟨c1, d1⟩ := h.wv.getD 1
  have hv := h.v1
  have first := guess_first (u.getD 2 0).toNat (u.getD 1 0).toNat (u.getD 0 0).toNat (v.getD 1 0).toNat (v.getD 0 0).toNat (by omega) (by omega) (kGuess u v) rfl
  unfold GI
  generalize kGuess u v = T at first ⊢
  show (0 ≤ stdBin .quo .u64 (stdBin .or .u64 (stdBin .shl .u64 (IntKind.u64.wrap (u.getD 2 0)) 32) (IntKind.u64.wrap (u.getD 1 0))) (IntKind.u64.wrap (v.getD 1 0)) ∧ _) ∧ (IntKind.u64.wrap (v.getD 1 0) != 0) = true
  show (0 ≤ stdBin .quo .u64 (stdBin .or .u64 (stdBin .shl .u64 (IntKind.u64.wrap (u.getD 2 0)) 32) (IntKind.u64.wrap (u.getD 1 0))) (IntKind.u64.wrap (v.getD 1 0)) ∧ 0 ≤ stdBin .rem .u64 (stdBin .or .u64 (stdBin .shl .u64 (IntKind.u64.wrap (u.getD 2 0)) 32) (IntKind.u64.wrap (u.getD 1 0))) (IntKind.u64.wrap (v.getD 1 0)) ∧
    (stdBin .quo .u64 (stdBin .or .u64 (stdBin .shl .u64 (IntKind.u64.wrap (u.getD 2 0)) 32) (IntKind.u64.wrap (u.getD 1 0))) (IntKind.u64.wrap (v.getD 1 0))).toNat * (v.getD 1 0).toNat + (stdBin .rem .u64 (stdBin .or .u64 (stdBin .shl .u64 (IntKind.u64.wrap (u.getD 2 0)) 32) (IntKind.u64.wrap (u.getD 1 0))) (IntKind.u64.wrap (v.getD 1 0))).toNat = (u.getD 2 0).toNat * 2 ^ 32 + (u.getD 1 0).toNat ∧
    stdBin .rem .u64 (stdBin .or .u64 (stdBin .shl .u64 (IntKind.u64.wrap (u.getD 2 0)) 32) (IntKind.u64.wrap (u.getD 1 0))) (IntKind.u64.wrap (v.getD 1 0)) < 4294967296 ∧ T ≤ (stdBin .quo .u64 (stdBin .or .u64 (stdBin .shl .u64 (IntKind.u64.wrap (u.getD 2 0)) 32) (IntKind.u64.wrap (u.getD 1 0))) (IntKind.u64.wrap (v.getD 1 0))).toNat) ∧ _
  generalize u.getD 2 0 = u2 at *
  generalize u.getD 1 0 = u1 at *
  generalize v.getD 1 0 = v1 at *
  rw [u64_id u2 a2 (by omega), u64_id u1 a1 (by omega), u64_id v1 c1 (by omega), shl32 u2 a2 b2, join32 u2 u1 a2 b2 a1 b1]
  obtain ⟨N, hN⟩ : ∃ N : Int, N = u2 * 4294967296 + u1 := ⟨_, rfl⟩
  have hN2 : u2.toNat * 2 ^ 32 + u1.toNat = N.toNat := by rw [hN]; omega
  have hN0 : 0 ≤ N := by omega
  have hN1 : N < 18446744073709551616 := by omega
  rw [← hN]
  rw [hN2] at first ⊢
  have h1 := Int.emod_nonneg N (show v1 ≠ 0 by omega)
  have h2 := Int.emod_lt_of_pos N (show 0 < v1 by omega)
  have h3 := Int.ediv_nonneg hN0 c1
  have h4 : N / v1 ≤ N := Int.ediv_le_self _ hN0
  have eq : stdBin .quo .u64 N v1 = N / v1 := by
    show IntKind.u64.wrap (N.tdiv v1) = _
    rw [Int.tdiv_eq_ediv_of_nonneg hN0, u64_id _ h3 (by omega)]
  have er : stdBin .rem .u64 N v1 = N % v1 := by
    show N.tmod v1 = _
    rw [Int.tmod_eq_emod_of_nonneg hN0]
  rw [eq, er]
  have e1 : (N / v1).toNat = N.toNat / v1.toNat := by
    have : N / v1 = ((N.toNat / v1.toNat : Nat) : Int) := by rw [Int.natCast_ediv]; congr 1 <;> omega
    rw [this, Int.toNat_natCast]
  have e2 : (N % v1).toNat = N.toNat % v1.toNat := by
    have : N % v1 = ((N.toNat % v1.toNat : Nat) : Int) := by rw [Int.natCast_emod]; congr 1 <;> omega
    rw [this, Int.toNat_natCast]
  rw [e1, e2]
  refine ⟨⟨h3, h1, ?_, by omega, first⟩, ?_⟩
  · rw [Nat.mul_comm]; exact Nat.div_add_mod _ _
  · rw [bne_iff_ne]; omega
theorem guess_round {u v : List Int} (h : GuessOK u v) (A : Alg) (hA : A = stdA) {q r : Int} (hI : GI u v q r) :
    (A.ite (A.cmp .gtr q 4294967295) true (A.cmp .gtr (A.bin .mul .u64 q (A.wrap .u64 (A.get v 0 0))) (A.bin .or .u64 (A.bin .shl .u64 r 32) (A.wrap .u64 (A.get u 0 0)))) = true →
      (A.cmp .gtr (A.bin .add .u64 r (A.wrap .u64 (A.get v 1 0))) 4294967295 = true → A.bin .sub .u64 q 1 = stdV.guess u v) ∧
      (A.cmp .gtr (A.bin .add .u64 r (A.wrap .u64 (A.get v 1 0))) 4294967295 = false → GI u v (A.bin .sub .u64 q 1) (A.bin .add .u64 r (A.wrap .u64 (A.get v 1 0))) ∧ (4294967296 - A.bin .add .u64 r (A.wrap .u64 (A.get v 1 0))).toNat < (4294967296 - r).toNat)) ∧
    (A.ite (A.cmp .gtr q 4294967295) true (A.cmp .gtr (A.bin .mul .u64 q (A.wrap .u64 (A.get v 0 0))) (A.bin .or .u64 (A.bin .shl .u64 r 32) (A.wrap .u64 (A.get u 0 0)))) = false → q = stdV.guess u v) := by
  subst hA
  obtain ⟨a2, b2⟩ := h.wu.getD 2
  obtain ⟨a1, b1⟩ := h.wu.getD 1
  obtain ⟨a0, b0⟩ := h.wu.getD 0
  obtain ⟨c1, d1⟩ := h.wv.getD 1
  obtain ⟨c0, d0⟩ := h.wv.getD 0
  have hv := h.v1
  have huv := h.uv
  obtain ⟨q0, r0, hq, hr, hTq⟩ := hI
  obtain ⟨s1, s2⟩ := guess_in (u.getD 2 0).toNat (u.getD 1 0).toNat (u.getD 0 0).toNat (v.getD 1 0).toNat (v.getD 0 0).toNat q.toNat r.toNat (by omega) (by omega) (by omega) (by omega) (by omega) (kGuess u v) rfl hq (by omega) hTq
  have hres : stdV.guess u v = ((kGuess u v : Nat) : Int) := rfl
  rw [hres]
  unfold GI
  generalize kGuess u v = T at *
  have eadd : stdA.bin .add .u64 r (stdA.wrap .u64 (stdA.get v 1 0)) = r + v.getD 1 0 := by
    show stdBin .add .u64 r (IntKind.u64.wrap (v.getD 1 0)) = _
    rw [u64_id _ c1 (by omega)]
    show IntKind.u64.wrap (r + v.getD 1 0) = _
    exact u64_id _ (by omega) (by omega)
  have ecmp : stdA.cmp .gtr (stdA.bin .add .u64 r (stdA.wrap .u64 (stdA.get v 1 0))) 4294967295 = decide (4294967295 < r + v.getD 1 0) := by rw [eadd]; rfl
  have eor : stdA.bin .or .u64 (stdA.bin .shl .u64 r 32) (stdA.wrap .u64 (stdA.get u 0 0)) = r * 4294967296 + u.getD 0 0 := by
    show stdBin .or .u64 (stdBin .shl .u64 r 32) (IntKind.u64.wrap (u.getD 0 0)) = _
    rw [u64_id _ a0 (by omega), shl32 r r0 hr, join32 r _ r0 hr a0 b0]
  have econd : ∀ b : Bool, stdA.ite (stdA.cmp .gtr q 4294967295) true (stdA.cmp .gtr (stdA.bin .mul .u64 q (stdA.wrap .u64 (stdA.get v 0 0))) (stdA.bin .or .u64 (stdA.bin .shl .u64 r 32) (stdA.wrap .u64 (stdA.get u 0 0)))) = b ↔ decide (4294967295 < q.toNat ∨ r.toNat * 2 ^ 32 + (u.getD 0 0).toNat < q.toNat * (v.getD 0 0).toNat) = b := fun b => by
    have : stdA.ite (stdA.cmp .gtr q 4294967295) true (stdA.cmp .gtr (stdA.bin .mul .u64 q (stdA.wrap .u64 (stdA.get v 0 0))) (stdA.bin .or .u64 (stdA.bin .shl .u64 r 32) (stdA.wrap .u64 (stdA.get u 0 0)))) = decide (4294967295 < q.toNat ∨ r.toNat * 2 ^ 32 + (u.getD 0 0).toNat < q.toNat * (v.getD 0 0).toNat) := by
      rw [eor]
      show (if decide (q > 4294967295) = true then true else decide (stdBin .mul .u64 q (IntKind.u64.wrap (v.getD 0 0)) > r * 4294967296 + u.getD 0 0)) = _
      by_cases hb : q > 4294967295
      · rw [if_pos (decide_eq_true hb)]; exact (decide_eq_true (.inl (by omega))).symm
      · rw [if_neg (by simpa using hb), u64_id _ c0 (by omega)]
        have hm : 0 ≤ q * v.getD 0 0 := Int.mul_nonneg q0 c0
        have hm2 : q * v.getD 0 0 < 18446744073709551616 := by
          have h1 : q * v.getD 0 0 ≤ 4294967295 * v.getD 0 0 := Int.mul_le_mul_of_nonneg_right (by omega) c0
          omega
        have e : stdBin .mul .u64 q (v.getD 0 0) = q * v.getD 0 0 := by
          show IntKind.u64.wrap (q * v.getD 0 0) = _
          exact u64_id _ hm hm2
        rw [e]
        have e2 : ((q.toNat * (v.getD 0 0).toNat : Nat) : Int) = q * v.getD 0 0 := by rw [Int.natCast_mul, Int.toNat_of_nonneg q0, Int.toNat_of_nonneg c0]
        rw [decide_eq_decide]
        generalize q.toNat * (v.getD 0 0).toNat = m at e2 ⊢
        omega
    rw [this]
  rw [econd true, econd false, ecmp, eadd, decide_eq_true_eq, decide_eq_false_iff_not, decide_eq_true_eq, decide_eq_false_iff_not]
  refine ⟨fun hc => ?_, fun hc => ?_⟩
  · obtain ⟨g1, g2, g3, g4⟩ := s1 hc
    have esub : stdA.bin .sub .u64 q 1 = q - 1 := by
      show IntKind.u64.wrap (q - 1) = _
      refine u64_id _ (by omega) ?_
      have : q.toNat ≤ (u.getD 2 0).toNat * 2 ^ 32 + (u.getD 1 0).toNat := by
        have := Nat.le_mul_of_pos_right q.toNat (show 0 < (v.getD 1 0).toNat by omega)
        omega
      omega
    rw [esub]
    have ht : (q - 1).toNat = q.toNat - 1 := by omega
    have ha : (r + v.getD 1 0).toNat = r.toNat + (v.getD 1 0).toNat := by omega
    refine ⟨fun hb => ?_, fun hb => ⟨⟨by omega, by omega, ?_, by omega, by rw [ht]; exact g2⟩, by omega⟩⟩
    · have := g4 (by omega)
      omega
    · rw [ht, ha]; exact g3
  · have := s2 hc
    omega
def gGuess (V : SV) : List CV → List Blk → Option LR
  | [.s (.hs 0), .s (.hs 1)], [.vec false (.int .u32) u, .vec false (.int .u32) v] => some ⟨[V.guessOK u v], .c (.s (.int .u64 (V.guess u v))), []⟩
  | _, _ => none
theorem ok_guess : CallOK Tryz.prog 213 (heapSem [.s (.int .u32), .s (.int .u32)] stdA (gGuess stdV)) := by
  refine callOK_heap (un := ⟨false, none⟩) tok tN8OK mixed (fn := Tryz.f213) (by kernel_rfl) (by kernel_rfl) (by kernel_rfl) (by decide +kernel) ?_
  intro w Wr args bs r hg ho hWr A L k hA hL hk
  obtain ⟨S, hS⟩ : ∃ S, S = stdW := ⟨_, rfl⟩
  obtain ⟨V, hV⟩ : ∃ V, V = stdV := ⟨_, rfl⟩
  (try rw [← hS])
  (try rw [← hV])
  (try rw [← hA])
  unfold gGuess at hg
  split at hg
  rotate_left
  · cases hg
  simp only [Option.some.injEq] at hg
  subst hg
  rename_i u v
  have hok := guessOK_of (ho_cons ho).1
  clear ho
  have init := guess_init hok A hA
  have lu : ∀ A2 : Alg, A2 = stdA → ∀ k : Int, k ≤ 2 → A2.cmp .lss k (A2.len u) = true := fun A2 h k hk => by subst h; exact decide_eq_true (by show k < (u.length : Int); have := hok.lu; omega)
  have lv : ∀ A2 : Alg, A2 = stdA → ∀ k : Int, k ≤ 1 → A2.cmp .lss k (A2.len v) = true := fun A2 h k hk => by subst h; exact decide_eq_true (by show k < (v.length : Int); have := hok.lv; omega)
  have ln : ∀ A2 : Alg, A2 = stdA → ∀ k : Int, 0 ≤ k → A2.cmp .leq 0 k = true := fun A2 h k hk => by subst h; exact decide_eq_true hk
  cbv
  repeat' first | (with_reducible intro hb; cbv) | with_reducible refine And.intro ?_ ?_
  all_goals first | exact lu A hA _ (by decide) | exact lv A hA _ (by decide) | exact ln A hA _ (by decide) | exact init.2 | skip
  refine hL _ _ _ (loop_rule (un := ⟨false, none⟩) tok tN8OK mixed (fun p : Int × Int => ⟨[(6, ⟨[], .c (.s (.int .u64 p.1))⟩), (7, ⟨[], .c (.s (.int .u64 p.2))⟩), (0, ⟨[], .c (.s (.hs 0))⟩), (1, ⟨[], .c (.s (.hs 1))⟩)], [(0, .vec false (.int .u32) u), (1, .vec false (.int .u32) v)], 2⟩)
    (fun p => GI u v p.1 p.2) (fun p => (4294967296 - p.2).toNat) (_, _) init.1 ?_ (fun _ i hi => by have := hWr i hi; simp at this ⊢; omega) ?_)
  · exact ⟨⟨⟨rfl, rfl, fun _ => rfl⟩, ⟨rfl, rfl, fun _ => rfl⟩, ⟨rfl, rfl, fun _ => rfl⟩, ⟨rfl, rfl, fun _ => rfl⟩, trivial⟩, ⟨leRefl rfl, leRefl rfl, trivial⟩, rfl, rfl⟩
  clear init
  rintro ⟨q, r⟩ hI A2 L2 k2 hA2 hL2 hnext hexit hret
  have st := guess_round hok A2 hA2 hI
  have im : ∀ a b : Bool, b = true → A2.imp a b = true := fun a b h => by subst hA2 h; show (!a || true) = true; simp
  rw [← hA2, ← hS, ← hV]
  cbv
  repeat' first | (with_reducible intro hb; cbv) | with_reducible refine And.intro ?_ ?_
  all_goals first | exact im _ _ (lu A2 hA2 _ (by decide)) | exact im _ _ (lv A2 hA2 _ (by decide)) | exact im _ _ (ln A2 hA2 _ (by decide)) | exact lv A2 hA2 _ (by decide) | exact ln A2 hA2 _ (by decide) | skip
  · rename_i hb0
    apply hexit
    have hM := (st.1 hb0).1 hb
    clear hexit hnext hret st
    cbv
    refine hk _ _ (Good.pure rfl fun ρ => ?_)
    subst hV
    exact ret1 hM
  · rename_i hb0
    obtain ⟨g1, g2⟩ := (st.1 hb0).2 hb
    exact hnext _ (_, _) g1 g2 ⟨⟨⟨rfl, rfl, fun _ => rfl⟩, ⟨rfl, rfl, fun _ => rfl⟩, ⟨rfl, rfl, fun _ => rfl⟩, ⟨rfl, rfl, fun _ => rfl⟩, trivial⟩, ⟨leRefl rfl, leRefl rfl, trivial⟩, rfl, rfl⟩
  · apply hexit
    have hM := st.2 hb
    clear hexit hnext hret st
    cbv
    refine hk _ _ (Good.pure rfl fun ρ => ?_)
    subst hV
    exact ret1 hM
def tN9 (A : Alg) (S : SW) (V : SV) : List (Nat × Sem') := (213, heapSem [.s (.int .u32), .s (.int .u32)] A (gGuess V)) :: ((tN8 A S V))
theorem tN9OK : COK Tryz.prog (look (tN9 stdA stdW stdV)) := COK_cons ok_guess (tN8OK)
end Go.Eng
namespace Go.Eng
open Go.Proofs
set_option maxRecDepth 100000
set_option linter.all false
set_option exponentiation.threshold 3000
structure WinOK (l v : List Int) (lo hi : Int) : Prop where
  lo0 : 0 ≤ lo
  loh : lo ≤ hi
  hl : hi ≤ l.length
  w : hi - lo = v.length + 1
  wl : W32 l
  wv : W32 v
  ln : (l.length : Int) ≤ 1000
theorem WinOK.of {l v : List Int} {lo hi : Int} {ob : List Bool} (h : ∀ b, b ∈ stdA.cmp .leq 0 lo :: stdA.cmp .leq lo hi :: stdA.cmp .leq hi (stdA.len l) :: stdA.cmp .eql (stdA.isub hi lo) (stdA.iadd (stdA.len v) 1) :: stdA.all32 l :: stdA.all32 v :: stdA.cmp .leq (stdA.len l) 1000 :: ob → b = true) : WinOK l v lo hi := by
  obtain ⟨h1, h⟩ := ho_cons h
  obtain ⟨h2, h⟩ := ho_cons h
  obtain ⟨h3, h⟩ := ho_cons h
  obtain ⟨h4, h⟩ := ho_cons h
  obtain ⟨h5, h⟩ := ho_cons h
  obtain ⟨h6, h⟩ := ho_cons h
  obtain ⟨h7, h⟩ := ho_cons h
  refine ⟨of_decide_eq_true h1, of_decide_eq_true h2, of_decide_eq_true h3, ?_, W32.all h5, W32.all h6, of_decide_eq_true h7⟩
  have h4 : (hi - lo == (v.length : Int) + 1) = true := h4
  simpa using h4
theorem WinOK.rest {a b c d e f g : Bool} {ob : List Bool} (h : ∀ x, x ∈ a :: b :: c :: d :: e :: f :: g :: ob → x = true) : ∀ x, x ∈ ob → x = true := fun x hx => h x (by simp [hx])
def GvI (l v : List Int) (lo i : Int) (M : List Int) (c : Int) : Prop :=
  0 ≤ i ∧ i ≤ v.length ∧ M = wst l lo.toNat ((lowV l lo.toNat i.toNat + lowV v 0 i.toNat) % 2 ^ (32 * i.toNat)) i.toNat ∧ c = (((lowV l lo.toNat i.toNat + lowV v 0 i.toNat) / 2 ^ (32 * i.toNat) : Nat) : Int)
theorem GvI.init (l v : List Int) (lo : Int) : GvI l v lo 0 l 0 := by
  refine ⟨Int.le_refl 0, Int.natCast_nonneg _, ?_, ?_⟩
  · exact (wst_zero _ _ _).symm
  · simp [lowV_zero]
theorem gives_word {l v : List Int} {lo hi i c : Int} {M : List Int} (h : WinOK l v lo hi) (hI : GvI l v lo i M c) :
    M.length = l.length ∧ W32 M ∧ 0 ≤ c ∧ c ≤ 1 ∧ M.getD (lo + i).toNat 0 = l.getD (lo.toNat + i.toNat) 0 ∧
    ∀ y : Int, 0 ≤ y → y < 4294967296 → M.set (lo + i).toNat ((M.getD (lo + i).toNat 0 + y + c) % 4294967296) =
      wst l lo.toNat ((lowV l lo.toNat (i.toNat + 1) + (lowV v 0 i.toNat + 2 ^ (32 * i.toNat) * y.toNat)) % 2 ^ (32 * (i.toNat + 1))) (i.toNat + 1) ∧
      (M.getD (lo + i).toNat 0 + y + c) / 4294967296 = (((lowV l lo.toNat (i.toNat + 1) + (lowV v 0 i.toNat + 2 ^ (32 * i.toNat) * y.toNat)) / 2 ^ (32 * (i.toNat + 1)) : Nat) : Int) := by
  obtain ⟨lo0, loh, hl, hw, wl, wv, ln⟩ := h
  obtain ⟨i0, i1, hM, hc⟩ := hI
  have hP := Nat.two_pow_pos (32 * i.toNat)
  have hlt : lo.toNat + i.toNat < l.length := by omega
  have ht : (lo + i).toNat = lo.toNat + i.toNat := by omega
  have hcl := carry_le (lowV l lo.toNat i.toNat) (lowV v 0 i.toNat) _ hP
  rw [Nat.mod_eq_of_lt (lowV_lt wl _ _), Nat.mod_eq_of_lt (lowV_lt wv _ _)] at hcl
  have hx := wl.getD (lo.toNat + i.toNat)
  have hget : M.getD (lo + i).toNat 0 = l.getD (lo.toNat + i.toNat) 0 := by rw [hM, ht]; exact wst_get _ _ _ _ hlt
  refine ⟨by rw [hM]; exact wst_len _ _ _ _ (by omega), by rw [hM]; exact wst_W32 wl _ _ _, by rw [hc]; exact Int.natCast_nonneg _, by rw [hc]; exact_mod_cast hcl, hget, fun y y0 y1 => ?_⟩
  rw [hget, lowV_succ l _ _ hlt]
  generalize l.getD (lo.toNat + i.toNat) 0 = x at *
  obtain ⟨s1, s2⟩ := sum_word (lowV l lo.toNat i.toNat) (lowV v 0 i.toNat) _ i.toNat _ x.toNat y.toNat rfl rfl
  have hcn : c.toNat = (lowV l lo.toNat i.toNat + lowV v 0 i.toNat) / 2 ^ (32 * i.toNat) := by rw [hc]; exact Int.toNat_natCast _
  rw [← hcn] at s1 s2
  have hc0 : 0 ≤ c := by rw [hc]; exact Int.natCast_nonneg _
  rw [← s1, ← s2]
  have e : (x + y + c) % 4294967296 = (((x.toNat + y.toNat + c.toNat) % 4294967296 : Nat) : Int) := by omega
  refine ⟨?_, by omega⟩
  rw [e, hM, ht]
  exact wst_set _ _ _ _ _ hlt (Nat.mod_lt _ hP) (Nat.mod_lt _ (by decide))
structure GivesStep (A : Alg) (V : SV) (l v : List Int) (lo hi i : Int) (M : List Int) (c : Int) : Prop where
  o1 : A.cmp .leq 0 lo = true
  o2 : A.cmp .leq hi (A.len M) = true
  o3 : A.cmp .lss (A.iadd lo i) hi = true
  o4 : A.cmp .leq 0 (A.iadd lo i) = true
  o5 : A.cmp .lss (A.iadd lo i) (A.len M) = true
  o6 : A.cmp .leq 0 (A.get M (A.iadd lo i) 0) = true
  o7 : A.cmp .lss (A.get M (A.iadd lo i) 0) 4294967296 = true
  o8 : A.cmp .leq 0 (A.get v i 0) = true
  o9 : A.cmp .lss (A.get v i 0) 4294967296 = true
  o10 : A.cmp .leq 0 c = true
  o11 : A.cmp .leq c 1 = true
  nx : GvI l v lo (i + 1) (A.set M (A.iadd lo i) (V.adds (A.get M (A.iadd lo i) 0) (A.get v i 0) c)) (V.addc (A.get M (A.iadd lo i) 0) (A.get v i 0) c)
  ad : A.bin .add .i64 i 1 = i + 1
  ms : ((v.length : Int) - (i + 1)).toNat < ((v.length : Int) - i).toNat
theorem gives_step {l v : List Int} {lo hi i c : Int} {M : List Int} (h : WinOK l v lo hi) (hI : GvI l v lo i M c) (A : Alg) (hA : A = stdA) (V : SV) (hV : V = stdV) (hb : A.cmp .lss i (A.len v) = true) : GivesStep A V l v lo hi i M c := by
  subst hA hV
  obtain ⟨g1, g2, g3, g4, g5, g6⟩ := gives_word h hI
  have hb : i < (v.length : Int) := of_decide_eq_true hb
  obtain ⟨i0, i1, hM, hc⟩ := hI
  obtain ⟨lo0, loh, hl, hw, wl, wv, ln⟩ := h
  have hm := g2.getD (lo + i).toNat
  have hy := wv.getD i.toNat
  obtain ⟨n1, n2⟩ := g6 (v.getD i.toNat 0) hy.1 hy.2
  have hv1 := lowV_succ v 0 i.toNat (by omega)
  rw [Nat.zero_add] at hv1
  rw [← hv1] at n1 n2
  have hi1 : (i + 1).toNat = i.toNat + 1 := by omega
  have hiL : i < 1000 := by omega
  have hml : stdA.len M = (l.length : Int) := by show (M.length : Int) = _; rw [g1]
  exact {
    o1 := decide_eq_true lo0
    o2 := by rw [hml]; exact decide_eq_true hl
    o3 := decide_eq_true (show lo + i < hi by omega)
    o4 := decide_eq_true (show 0 ≤ lo + i by omega)
    o5 := by rw [hml]; exact decide_eq_true (show lo + i < (l.length : Int) by omega)
    o6 := decide_eq_true hm.1
    o7 := decide_eq_true hm.2
    o8 := decide_eq_true hy.1
    o9 := decide_eq_true hy.2
    o10 := decide_eq_true g3
    o11 := decide_eq_true g4
    nx := by
      refine ⟨by omega, by omega, ?_, ?_⟩
      · rw [hi1]; exact n1
      · rw [hi1]; exact n2
    ad := by show stdBin .add .i64 i 1 = i + 1; simp only [stdBin, IntKind.wrap_i64]; omega
    ms := by omega }
structure GivesEnd (A : Alg) (V : SV) (l v : List Int) (lo hi : Int) (M : List Int) (c : Int) : Prop where
  o1 : A.cmp .leq 0 lo = true
  o2 : A.cmp .leq hi (A.len M) = true
  o3 : A.cmp .lss (A.iadd lo (A.len v)) hi = true
  o4 : A.cmp .leq 0 (A.iadd lo (A.len v)) = true
  o5 : A.cmp .lss (A.iadd lo (A.len v)) (A.len M) = true
  o6 : A.cmp .leq 0 (A.len v) = true
  res : A.set M (A.iadd lo (A.len v)) (A.bin .add .u32 (A.get M (A.iadd lo (A.len v)) 0) c) = V.givesL l lo hi v
theorem gives_end {l v : List Int} {lo hi i c : Int} {M : List Int} (h : WinOK l v lo hi) (hI : GvI l v lo i M c) (A : Alg) (hA : A = stdA) (V : SV) (hV : V = stdV) (hb : A.cmp .lss i (A.len v) = false) : GivesEnd A V l v lo hi M c := by
  subst hA hV
  have hb : ¬ i < (v.length : Int) := of_decide_eq_false hb
  have hi : i = v.length := by have := hI.2.1; omega
  subst hi
  obtain ⟨g1, g2, g3, g4, g5, g6⟩ := gives_word h hI
  obtain ⟨lo0, loh, hl, hw, wl, wv, ln⟩ := h
  have hm := g2.getD (lo + (v.length : Int)).toNat
  obtain ⟨n1, -⟩ := g6 0 (Int.le_refl 0) (by decide)
  rw [Int.toNat_natCast, lowV_all] at n1
  have hml : stdA.len M = (l.length : Int) := by show (M.length : Int) = _; rw [g1]
  exact {
    o1 := decide_eq_true lo0
    o2 := by rw [hml]; exact decide_eq_true hl
    o3 := decide_eq_true (show lo + (v.length : Int) < hi by omega)
    o4 := decide_eq_true (show 0 ≤ lo + (v.length : Int) by omega)
    o5 := by rw [hml]; exact decide_eq_true (show lo + (v.length : Int) < (l.length : Int) by omega)
    o6 := decide_eq_true (show 0 ≤ (v.length : Int) by omega)
    res := by
      have e1 : stdA.bin .add .u32 (stdA.get M (stdA.iadd lo (stdA.len v)) 0) c = (M.getD (lo + (v.length : Int)).toNat 0 + 0 + c) % 4294967296 := by
        show IntKind.u32.wrap (M.getD (lo + (v.length : Int)).toNat 0 + c) = _
        rw [IntKind.wrap_u32, Int.add_zero]
      rw [e1]
      refine n1.trans ?_
      have hh : v.length + 1 = hi.toNat - lo.toNat := by omega
      show wst l lo.toNat _ (v.length + 1) = winS l lo.toNat hi.toNat (digL ((winV l lo.toNat hi.toNat + valL v) % 2 ^ (32 * (v.length + 1))) (v.length + 1))
      rw [hh, wst_full _ _ _ _ (by omega), lowV_win]
      simp only [Int.toNat_zero, Nat.mul_zero, Nat.add_zero] }
def gGives (A : Alg) (V : SV) : List CV → List Blk → Option LW
  | [.s (.hw 0 1 lo hi), .s (.hs 1)], [.vec true (.int .u32) l, .vec false (.int .u32) v] => some ⟨[A.cmp .leq 0 lo, A.cmp .leq lo hi, A.cmp .leq hi (A.len l), A.cmp .eql (A.isub hi lo) (A.iadd (A.len v) 1), A.all32 l, A.all32 v, A.cmp .leq (A.len l) 1000], .t [], [], [.vec true (.int .u32) (V.givesL l lo hi v)]⟩
  | _, _ => none
theorem ok_gives : CallOK Tryz.prog 215 (heapSemW [.sw (.int .u32), .s (.int .u32)] stdA (gGives stdA stdV)) := by
  refine callOK_heapW (un := ⟨false, none⟩) tok tN9OK mixed (fn := Tryz.f215) (by kernel_rfl) (by kernel_rfl) (by kernel_rfl) (by decide +kernel) ?_
  intro w Wr args bs r hg ho hWr A L k hA hL hk
  obtain ⟨S, hS⟩ : ∃ S, S = stdW := ⟨_, rfl⟩
  obtain ⟨V, hV⟩ : ∃ V, V = stdV := ⟨_, rfl⟩
  (try rw [← hS])
  (try rw [← hV])
  (try rw [← hA])
  unfold gGives at hg
  split at hg
  rotate_left
  · cases hg
  simp only [Option.some.injEq] at hg
  subst hg
  rename_i lo hi l v
  have hw := WinOK.of ho
  clear ho
  have init := GvI.init l v lo
  cbv
  refine hL _ _ _ (loop_rule (un := ⟨false, none⟩) tok tN9OK mixed (fun p : Int × List Int × Int => ⟨[(9, ⟨[], .c (.s (.int .i64 p.1))⟩), (4, ⟨[], .c (.s (.int .u32 p.2.2))⟩), (7, ⟨[], .c (.s (.hs 1))⟩), (8, ⟨[], .c (.s (.int .i64 (stdA.len v)))⟩), (0, ⟨[], .c (.s (.hw 0 1 lo hi))⟩), (1, ⟨[], .c (.s (.hs 1))⟩)], [(0, .vec true (.int .u32) p.2.1), (1, .vec false (.int .u32) v)], 2⟩)
    (fun p => GvI l v lo p.1 p.2.1 p.2.2) (fun p => ((v.length : Int) - p.1).toNat) (0, l, 0) init ?_ (fun _ i hi => by have := hWr i hi; simp at this ⊢; omega) ?_)
  · exact ⟨⟨⟨rfl, rfl, fun _ => rfl⟩, ⟨rfl, rfl, fun _ => rfl⟩, ⟨rfl, rfl, fun _ => rfl⟩, ⟨rfl, rfl, leI (by subst hA; rfl)⟩, ⟨rfl, rfl, fun _ => rfl⟩, ⟨rfl, rfl, fun _ => rfl⟩, trivial⟩, ⟨leRefl rfl, leRefl rfl, trivial⟩, rfl, rfl⟩
  clear init
  rintro ⟨i, M, c⟩ hI A2 L2 k2 hA2 hL2 hnext hexit hret
  have o0 : A2.cmp .leq 0 i = true := by subst hA2; exact decide_eq_true hI.1
  have st := gives_step hw hI A2 hA2 V hV
  have en := gives_end hw hI A2 hA2 V hV
  rw [← hA2, ← hS, ← hV]
  cbv
  repeat' first | (with_reducible intro hb; cbv) | with_reducible refine And.intro ?_ ?_
  all_goals first | exact o0 | exact hb | exact (st hb).o1 | exact (st hb).o2 | exact (st hb).o3 | exact (st hb).o4 | exact (st hb).o5 | exact (st hb).o6 | exact (st hb).o7 | exact (st hb).o8 | exact (st hb).o9 | exact (st hb).o10 | exact (st hb).o11 | skip
  · exact hnext _ (i + 1, _, _) (st hb).nx (st hb).ms ⟨⟨⟨rfl, rfl, leI (st hb).ad⟩, ⟨rfl, rfl, fun _ => rfl⟩, ⟨rfl, rfl, fun _ => rfl⟩, ⟨rfl, rfl, leI (by subst hA2; rfl)⟩, ⟨rfl, rfl, fun _ => rfl⟩, ⟨rfl, rfl, fun _ => rfl⟩, trivial⟩, ⟨leV rfl, leRefl rfl, trivial⟩, rfl, rfl⟩
  · apply hexit
    have en := en hb
    have eA : A2 = A := hA2.trans hA.symm
    rw [eA] at en
    clear hexit hnext hret st
    cbv
    repeat' first | (with_reducible intro hb; cbv) | with_reducible refine And.intro ?_ ?_
    all_goals first | exact en.o1 | exact en.o2 | exact en.o3 | exact en.o4 | exact en.o5 | exact en.o6 | skip
    refine hk _ _ (GoodW.one (t := 0) rfl (fun ρ => rfl) rfl rfl rfl (leV ?_))
    subst hV
    exact en.res
def tN10 (A : Alg) (S : SW) (V : SV) : List (Nat × Sem') := (215, heapSemW [.sw (.int .u32), .s (.int .u32)] A (gGives A V)) :: ((tN9 A S V))
theorem tN10OK : COK Tryz.prog (look (tN10 stdA stdW stdV)) := COK_cons ok_gives (tN9OK)
def TkP (l : List Int) (lo S P i : Nat) (M : List Int) (cu bo : Int) : Prop :=
  ∃ D : Nat, M = wst l lo D i ∧ D < 2 ^ (32 * i) ∧ (D : Int) = S - (P % 2 ^ (32 * i) : Nat) + (2 ^ (32 * i) : Nat) * bo ∧ cu = ((P / 2 ^ (32 * i) : Nat) : Int) ∧ 0 ≤ bo ∧ bo ≤ 1
def TkI (l v : List Int) (lo q i : Int) (M : List Int) (cu bo : Int) : Prop :=
  0 ≤ i ∧ i ≤ v.length ∧ TkP l lo.toNat (lowV l lo.toNat i.toNat) (q.toNat * lowV v 0 i.toNat) i.toNat M cu bo
theorem TkI.init (l v : List Int) (lo q : Int) : TkI l v lo q 0 l 0 0 := by
  refine ⟨Int.le_refl 0, Int.natCast_nonneg _, 0, (wst_zero _ _ _).symm, Nat.two_pow_pos _, ?_, ?_, by decide, by decide⟩
  · simp [lowV_zero]
  · simp [lowV_zero]
theorem takes_word {l v : List Int} {lo hi i q cu bo : Int} {M : List Int} (h : WinOK l v lo hi) (hq0 : 0 ≤ q) (hq1 : q ≤ 4294967295) (hI : TkI l v lo q i M cu bo) :
    M.length = l.length ∧ W32 M ∧ 0 ≤ bo ∧ bo ≤ 1 ∧ 0 ≤ cu ∧ cu ≤ q ∧
    ∀ y w s : Int, 0 ≤ y → y < 4294967296 → w = q * y + cu → s = M.getD (lo + i).toNat 0 - w % 4294967296 - bo → 0 ≤ w ∧ w < 18446744073709551616 ∧
      TkP l lo.toNat (lowV l lo.toNat (i.toNat + 1)) (q.toNat * (lowV v 0 i.toNat + 2 ^ (32 * i.toNat) * y.toNat)) (i.toNat + 1) (M.set (lo + i).toNat (s % 4294967296)) (w / 4294967296) (if s < 0 then 1 else 0) := by
  obtain ⟨lo0, loh, hl, hw, wl, wv, ln⟩ := h
  obtain ⟨i0, i1, D, hM, hD, hDe, hcu, hb0, hb1⟩ := hI
  have hP := Nat.two_pow_pos (32 * i.toNat)
  have hlt : lo.toNat + i.toNat < l.length := by omega
  have ht : (lo + i).toNat = lo.toNat + i.toNat := by omega
  have hx := wl.getD (lo.toNat + i.toNat)
  have hget : M.getD (lo + i).toNat 0 = l.getD (lo.toNat + i.toNat) 0 := by rw [hM, ht]; exact wst_get _ _ _ _ hlt
  have hc0 : 0 ≤ cu := by rw [hcu]; exact Int.natCast_nonneg _
  have hcq : cu ≤ q := by
    have h1 : q.toNat * lowV v 0 i.toNat / 2 ^ (32 * i.toNat) ≤ q.toNat := by
      have := Nat.mul_le_mul_left q.toNat (Nat.le_of_lt (lowV_lt wv 0 i.toNat))
      exact Nat.div_le_of_le_mul (by rw [Nat.mul_comm (2 ^ (32 * i.toNat))]; exact this)
    rw [hcu]; omega
  refine ⟨by rw [hM]; exact wst_len _ _ _ _ (by omega), by rw [hM]; exact wst_W32 wl _ _ _, hb0, hb1, hc0, hcq, fun y w s y0 y1 hw' hs => ?_⟩
  rw [hget] at hs
  rw [lowV_succ l _ _ hlt]
  generalize l.getD (lo.toNat + i.toNat) 0 = x at *
  have hcn : cu.toNat = q.toNat * lowV v 0 i.toNat / 2 ^ (32 * i.toNat) := by rw [hcu]; exact Int.toNat_natCast _
  have ewn : w = ((q.toNat * y.toNat + cu.toNat : Nat) : Int) := by
    rw [hw', Int.natCast_add, Int.natCast_mul, Int.toNat_of_nonneg hq0, Int.toNat_of_nonneg y0, Int.toNat_of_nonneg hc0]
  have hwl : w < 18446744073709551616 := by
    have h1 : q * y ≤ q * 4294967295 := Int.mul_le_mul_of_nonneg_left (by omega) hq0
    omega
  have es : s = (x.toNat : Int) - ((q.toNat * y.toNat + cu.toNat) % 4294967296 : Nat) - bo := by rw [hs, ewn]; omega
  obtain ⟨d1, d2, d3⟩ := dif_word (lowV l lo.toNat i.toNat) (q.toNat * lowV v 0 i.toNat) D i.toNat cu.toNat x.toNat y.toNat q.toNat bo hb0 hb1 (by omega) hD hDe hcn s es
  refine ⟨by rw [ewn]; exact Int.natCast_nonneg _, hwl, D + 2 ^ (32 * i.toNat) * (s % 4294967296).toNat, ?_, d2, ?_, ?_, by split <;> decide, by split <;> decide⟩
  · rw [hM, ht]
    have := wst_set l lo.toNat D i.toNat (s % 4294967296).toNat hlt hD (by omega)
    rw [← this]
    congr 1
    omega
  · rw [Nat.mul_add, ← Nat.mul_assoc, Nat.mul_comm q.toNat (2 ^ (32 * i.toNat)), Nat.mul_assoc]; exact d1
  · rw [Nat.mul_add, ← Nat.mul_assoc, Nat.mul_comm q.toNat (2 ^ (32 * i.toNat)), Nat.mul_assoc, ← d3, ewn]
    omega
structure TakesStep (A : Alg) (V : SV) (l v : List Int) (lo hi q i : Int) (M : List Int) (cu bo : Int) : Prop where
  o1 : A.cmp .leq 0 lo = true
  o2 : A.cmp .leq hi (A.len M) = true
  o3 : A.cmp .lss (A.iadd lo i) hi = true
  o4 : A.cmp .leq 0 (A.iadd lo i) = true
  o5 : A.cmp .lss (A.iadd lo i) (A.len M) = true
  o6 : A.cmp .leq 0 (A.get M (A.iadd lo i) 0) = true
  o7 : A.cmp .lss (A.get M (A.iadd lo i) 0) 4294967296 = true
  o8 : A.cmp .leq 0 (A.wrap .u32 (A.bin .and .u64 (A.bin .add .u64 (A.bin .mul .u64 q (A.wrap .u64 (A.get v i 0))) cu) 4294967295)) = true
  o9 : A.cmp .lss (A.wrap .u32 (A.bin .and .u64 (A.bin .add .u64 (A.bin .mul .u64 q (A.wrap .u64 (A.get v i 0))) cu) 4294967295)) 4294967296 = true
  o10 : A.cmp .leq 0 bo = true
  o11 : A.cmp .leq bo 1 = true
  nx : TkI l v lo q (i + 1) (A.set M (A.iadd lo i) (V.subs (A.get M (A.iadd lo i) 0) (A.wrap .u32 (A.bin .and .u64 (A.bin .add .u64 (A.bin .mul .u64 q (A.wrap .u64 (A.get v i 0))) cu) 4294967295)) bo)) (A.bin .shr .u64 (A.bin .add .u64 (A.bin .mul .u64 q (A.wrap .u64 (A.get v i 0))) cu) 32) (V.subc (A.get M (A.iadd lo i) 0) (A.wrap .u32 (A.bin .and .u64 (A.bin .add .u64 (A.bin .mul .u64 q (A.wrap .u64 (A.get v i 0))) cu) 4294967295)) bo)
  ad : A.bin .add .i64 i 1 = i + 1
  ms : ((v.length : Int) - (i + 1)).toNat < ((v.length : Int) - i).toNat
theorem takes_step {l v : List Int} {lo hi i q cu bo : Int} {M : List Int} (h : WinOK l v lo hi) (hq0 : 0 ≤ q) (hq1 : q ≤ 4294967295) (hI : TkI l v lo q i M cu bo) (A : Alg) (hA : A = stdA) (V : SV) (hV : V = stdV) (hb : A.cmp .lss i (A.len v) = true) : TakesStep A V l v lo hi q i M cu bo := by
  subst hA hV
  obtain ⟨g1, g2, g3, g4, g5, g6, g7⟩ := takes_word h hq0 hq1 hI
  have hb : i < (v.length : Int) := of_decide_eq_true hb
  obtain ⟨i0, i1, -⟩ := hI
  obtain ⟨lo0, loh, hl, hw, wl, wv, ln⟩ := h
  have hm := g2.getD (lo + i).toNat
  have hy := wv.getD i.toNat
  obtain ⟨n1, n2, n3⟩ := g7 (v.getD i.toNat 0) _ _ hy.1 hy.2 rfl rfl
  have hv1 := lowV_succ v 0 i.toNat (by omega)
  rw [Nat.zero_add] at hv1
  rw [← hv1] at n3
  have hi1 : (i + 1).toNat = i.toNat + 1 := by omega
  have hml : stdA.len M = (l.length : Int) := by show (M.length : Int) = _; rw [g1]
  have ew : stdA.bin .add .u64 (stdA.bin .mul .u64 q (stdA.wrap .u64 (stdA.get v i 0))) cu = q * v.getD i.toNat 0 + cu := by
    have hm0 : 0 ≤ q * v.getD i.toNat 0 := Int.mul_nonneg hq0 hy.1
    show IntKind.u64.wrap (IntKind.u64.wrap (q * IntKind.u64.wrap (v.getD i.toNat 0)) + cu) = _
    rw [u64_id _ hy.1 (by omega), u64_id _ hm0 (by omega), u64_id _ n1 n2]
  have el : stdA.wrap .u32 (stdA.bin .and .u64 (stdA.bin .add .u64 (stdA.bin .mul .u64 q (stdA.wrap .u64 (stdA.get v i 0))) cu) 4294967295) = (q * v.getD i.toNat 0 + cu) % 4294967296 := by
    rw [ew]; exact low_word _ n1 n2
  have eh : stdA.bin .shr .u64 (stdA.bin .add .u64 (stdA.bin .mul .u64 q (stdA.wrap .u64 (stdA.get v i 0))) cu) 32 = (q * v.getD i.toNat 0 + cu) / 4294967296 := by
    rw [ew]; exact u64_high _ n1
  exact {
    o1 := decide_eq_true lo0
    o2 := by rw [hml]; exact decide_eq_true hl
    o3 := decide_eq_true (show lo + i < hi by omega)
    o4 := decide_eq_true (show 0 ≤ lo + i by omega)
    o5 := by rw [hml]; exact decide_eq_true (show lo + i < (l.length : Int) by omega)
    o6 := decide_eq_true hm.1
    o7 := decide_eq_true hm.2
    o8 := by rw [el]; exact decide_eq_true (show 0 ≤ (q * v.getD i.toNat 0 + cu) % 4294967296 by omega)
    o9 := by rw [el]; exact decide_eq_true (show (q * v.getD i.toNat 0 + cu) % 4294967296 < 4294967296 by omega)
    o10 := decide_eq_true g3
    o11 := decide_eq_true g4
    nx := by
      rw [el, eh]
      refine ⟨by omega, by omega, ?_⟩
      rw [hi1]; exact n3
    ad := by show stdBin .add .i64 i 1 = i + 1; simp only [stdBin, IntKind.wrap_i64]; omega
    ms := by omega }
structure TakesEnd (A : Alg) (V : SV) (l v : List Int) (lo hi q : Int) (M : List Int) (cu bo : Int) : Prop where
  o1 : A.cmp .leq 0 lo = true
  o2 : A.cmp .leq hi (A.len M) = true
  o3 : A.cmp .lss (A.iadd lo (A.len v)) hi = true
  o4 : A.cmp .leq 0 (A.iadd lo (A.len v)) = true
  o5 : A.cmp .lss (A.iadd lo (A.len v)) (A.len M) = true
  o6 : A.cmp .leq 0 (A.len v) = true
  o7 : A.cmp .leq 0 (A.get M (A.iadd lo (A.len v)) 0) = true
  o8 : A.cmp .lss (A.get M (A.iadd lo (A.len v)) 0) 4294967296 = true
  o9 : A.cmp .leq 0 (A.wrap .u32 cu) = true
  o10 : A.cmp .lss (A.wrap .u32 cu) 4294967296 = true
  o11 : A.cmp .leq 0 bo = true
  o12 : A.cmp .leq bo 1 = true
  res : A.set M (A.iadd lo (A.len v)) (V.subs (A.get M (A.iadd lo (A.len v)) 0) (A.wrap .u32 cu) bo) = V.takesL l lo hi v q
  resB : A.cmp .eql (V.subc (A.get M (A.iadd lo (A.len v)) 0) (A.wrap .u32 cu) bo) 0 = V.takesB l lo hi v q
theorem takes_end {l v : List Int} {lo hi i q cu bo : Int} {M : List Int} (h : WinOK l v lo hi) (hq0 : 0 ≤ q) (hq1 : q ≤ 4294967295) (hI : TkI l v lo q i M cu bo) (A : Alg) (hA : A = stdA) (V : SV) (hV : V = stdV) (hb : A.cmp .lss i (A.len v) = false) : TakesEnd A V l v lo hi q M cu bo := by
  subst hA hV
  have hb : ¬ i < (v.length : Int) := of_decide_eq_false hb
  have hi : i = v.length := by have := hI.2.1; omega
  subst hi
  obtain ⟨g1, g2, g3, g4, g5, g6, g7⟩ := takes_word h hq0 hq1 hI
  obtain ⟨lo0, loh, hl, hw, wl, wv, ln⟩ := h
  have hm := g2.getD (lo + (v.length : Int)).toNat
  obtain ⟨-, -, n3⟩ := g7 0 cu _ (Int.le_refl 0) (by decide) (by rw [Int.mul_zero, Int.zero_add]) rfl
  rw [Int.toNat_natCast, lowV_all] at n3
  simp only [Int.toNat_zero, Nat.mul_zero, Nat.add_zero] at n3
  have hml : stdA.len M = (l.length : Int) := by show (M.length : Int) = _; rw [g1]
  have el : stdA.wrap .u32 cu = cu % 4294967296 := IntKind.wrap_u32 cu
  have hh : v.length + 1 = hi.toNat - lo.toNat := by omega
  have hWlt : winV l lo.toNat hi.toNat < 2 ^ (32 * (v.length + 1)) := by rw [hh, ← lowV_win]; exact lowV_lt wl _ _
  have hPlt : q.toNat * valL v < 2 ^ (32 * (v.length + 1)) := by
    have h1 := valL_lt wv
    rw [pow_step]
    calc q.toNat * valL v ≤ 4294967295 * valL v := Nat.mul_le_mul_right _ (by omega)
      _ < 2 ^ (32 * v.length) * 2 ^ 32 := by generalize 2 ^ (32 * v.length) = P at h1 ⊢; omega
  obtain ⟨D, hM', hD, hDe, -, b0, b1⟩ := n3
  rw [hh] at hDe
  rw [lowV_win, ← hh, Nat.mod_eq_of_lt hPlt] at hDe
  exact {
    o1 := decide_eq_true lo0
    o2 := by rw [hml]; exact decide_eq_true hl
    o3 := decide_eq_true (show lo + (v.length : Int) < hi by omega)
    o4 := decide_eq_true (show 0 ≤ lo + (v.length : Int) by omega)
    o5 := by rw [hml]; exact decide_eq_true (show lo + (v.length : Int) < (l.length : Int) by omega)
    o6 := decide_eq_true (show 0 ≤ (v.length : Int) by omega)
    o7 := decide_eq_true hm.1
    o8 := decide_eq_true hm.2
    o9 := by rw [el]; exact decide_eq_true (show 0 ≤ cu % 4294967296 by omega)
    o10 := by rw [el]; exact decide_eq_true (show cu % 4294967296 < 4294967296 by omega)
    o11 := decide_eq_true g3
    o12 := decide_eq_true g4
    res := by
      rw [el]
      refine hM'.trans ?_
      show wst l lo.toNat D (v.length + 1) = winS l lo.toNat hi.toNat (digL ((2 ^ (32 * (v.length + 1)) * 2 ^ 64 + winV l lo.toNat hi.toNat - q.toNat * valL v) % 2 ^ (32 * (v.length + 1))) (v.length + 1))
      rw [hh, wst_full _ _ _ _ (by omega), ← hh]
      congr 2
      generalize (if M.getD (lo + (v.length : Int)).toNat 0 - cu % 4294967296 - bo < 0 then (1 : Int) else 0) = z at *
      generalize winV l lo.toNat hi.toNat = W at *
      generalize q.toNat * valL v = P at *
      generalize (2 : Nat) ^ (32 * (v.length + 1)) = B at *
      have hz : z = 0 ∨ z = 1 := by omega
      rcases hz with rfl | rfl
      · rw [show B * 2 ^ 64 + W - P = D + B * 2 ^ 64 by omega, Nat.add_mul_mod_self_left, Nat.mod_eq_of_lt hD]
      · rw [show B * 2 ^ 64 + W - P = D + B * (2 ^ 64 - 1) by omega, Nat.add_mul_mod_self_left, Nat.mod_eq_of_lt hD]
    resB := by
      rw [el]
      show ((if M.getD (lo + (v.length : Int)).toNat 0 - cu % 4294967296 - bo < 0 then (1 : Int) else 0) == 0) = decide (q.toNat * valL v ≤ winV l lo.toNat hi.toNat)
      generalize (if M.getD (lo + (v.length : Int)).toNat 0 - cu % 4294967296 - bo < 0 then (1 : Int) else 0) = z at *
      generalize winV l lo.toNat hi.toNat = W at *
      generalize q.toNat * valL v = P at *
      generalize (2 : Nat) ^ (32 * (v.length + 1)) = B at *
      have hz : z = 0 ∨ z = 1 := by omega
      rcases hz with rfl | rfl
      · have : P ≤ W := by omega
        simp [this]
      · have : ¬ P ≤ W := by omega
        simp [this] }
def gTakes (A : Alg) (V : SV) : List CV → List Blk → Option LW
  | [.s (.hw 0 1 lo hi), .s (.hs 1), .s (.int .u64 q)], [.vec true (.int .u32) l, .vec false (.int .u32) v] => some ⟨[A.cmp .leq 0 lo, A.cmp .leq lo hi, A.cmp .leq hi (A.len l), A.cmp .eql (A.isub hi lo) (A.iadd (A.len v) 1), A.all32 l, A.all32 v, A.cmp .leq (A.len l) 1000, A.cmp .leq 0 q, A.cmp .leq q 4294967295], .c (.s (.bool (V.takesB l lo hi v q))), [], [.vec true (.int .u32) (V.takesL l lo hi v q)]⟩
  | _, _ => none
theorem ok_takes : CallOK Tryz.prog 214 (heapSemW [.sw (.int .u32), .s (.int .u32), .v] stdA (gTakes stdA stdV)) := by
  refine callOK_heapW (un := ⟨false, none⟩) tok tN10OK mixed (fn := Tryz.f214) (by kernel_rfl) (by kernel_rfl) (by kernel_rfl) (by decide +kernel) ?_
  intro w Wr args bs r hg ho hWr A L k hA hL hk
  obtain ⟨S, hS⟩ : ∃ S, S = stdW := ⟨_, rfl⟩
  obtain ⟨V, hV⟩ : ∃ V, V = stdV := ⟨_, rfl⟩
  (try rw [← hS])
  (try rw [← hV])
  (try rw [← hA])
  unfold gTakes at hg
  split at hg
  rotate_left
  · cases hg
  simp only [Option.some.injEq] at hg
  subst hg
  rename_i lo hi q l v
  have hw := WinOK.of ho
  have hr := WinOK.rest ho
  have hq0 : 0 ≤ q := of_decide_eq_true (ho_cons hr).1
  have hq1 : q ≤ 4294967295 := of_decide_eq_true (ho_cons (ho_cons hr).2).1
  clear hr
  clear ho
  have init := TkI.init l v lo q
  cbv
  refine hL _ _ _ (loop_rule (un := ⟨false, none⟩) tok tN10OK mixed (fun p : Int × List Int × Int × Int => ⟨[(14, ⟨[], .c (.s (.int .i64 p.1))⟩), (7, ⟨[], .c (.s (.int .u64 p.2.2.1))⟩), (8, ⟨[], .c (.s (.int .u32 p.2.2.2))⟩), (12, ⟨[], .c (.s (.hs 1))⟩), (13, ⟨[], .c (.s (.int .i64 (stdA.len v)))⟩), (0, ⟨[], .c (.s (.hw 0 1 lo hi))⟩), (1, ⟨[], .c (.s (.hs 1))⟩), (2, ⟨[], .c (.s (.int .u64 q))⟩)], [(0, .vec true (.int .u32) p.2.1), (1, .vec false (.int .u32) v)], 2⟩)
    (fun p => TkI l v lo q p.1 p.2.1 p.2.2.1 p.2.2.2) (fun p => ((v.length : Int) - p.1).toNat) (0, l, 0, 0) init ?_ (fun _ i hi => by have := hWr i hi; simp at this ⊢; omega) ?_)
  · exact ⟨⟨⟨rfl, rfl, fun _ => rfl⟩, ⟨rfl, rfl, fun _ => rfl⟩, ⟨rfl, rfl, fun _ => rfl⟩, ⟨rfl, rfl, fun _ => rfl⟩, ⟨rfl, rfl, leI (by subst hA; rfl)⟩, ⟨rfl, rfl, fun _ => rfl⟩, ⟨rfl, rfl, fun _ => rfl⟩, ⟨rfl, rfl, fun _ => rfl⟩, trivial⟩, ⟨leRefl rfl, leRefl rfl, trivial⟩, rfl, rfl⟩
  clear init
  rintro ⟨i, M, cu, bo⟩ hI A2 L2 k2 hA2 hL2 hnext hexit hret
  have o0 : A2.cmp .leq 0 i = true := by subst hA2; exact decide_eq_true hI.1
  have st := takes_step hw hq0 hq1 hI A2 hA2 V hV
  have en := takes_end hw hq0 hq1 hI A2 hA2 V hV
  rw [← hA2, ← hS, ← hV]
  cbv
  repeat' first | (with_reducible intro hb; cbv) | with_reducible refine And.intro ?_ ?_
  all_goals first | exact o0 | exact hb | exact (st hb).o1 | exact (st hb).o2 | exact (st hb).o3 | exact (st hb).o4 | exact (st hb).o5 | exact (st hb).o6 | exact (st hb).o7 | exact (st hb).o8 | exact (st hb).o9 | exact (st hb).o10 | exact (st hb).o11 | skip
  · exact hnext _ (i + 1, _, _, _) (st hb).nx (st hb).ms ⟨⟨⟨rfl, rfl, leI (st hb).ad⟩, ⟨rfl, rfl, fun _ => rfl⟩, ⟨rfl, rfl, fun _ => rfl⟩, ⟨rfl, rfl, fun _ => rfl⟩, ⟨rfl, rfl, leI (by subst hA2; rfl)⟩, ⟨rfl, rfl, fun _ => rfl⟩, ⟨rfl, rfl, fun _ => rfl⟩, ⟨rfl, rfl, fun _ => rfl⟩, trivial⟩, ⟨leV rfl, leRefl rfl, trivial⟩, rfl, rfl⟩
  · apply hexit
    have en := en hb
    have eA : A2 = A := hA2.trans hA.symm
    rw [eA] at en
    clear hexit hnext hret st
    cbv
    repeat' first | (with_reducible intro hb; cbv) | with_reducible refine And.intro ?_ ?_
    all_goals first | exact en.o1 | exact en.o2 | exact en.o3 | exact en.o4 | exact en.o5 | exact en.o6 | exact en.o7 | exact en.o8 | exact en.o9 | exact en.o10 | exact en.o11 | exact en.o12 | skip
    refine hk _ _ (GoodW.one (t := 0) rfl (fun ρ => ?_) rfl rfl rfl (leV ?_))
    · subst hV
      exact retB en.resB
    · subst hV
      exact en.res
def tN11 (A : Alg) (S : SW) (V : SV) : List (Nat × Sem') := (214, heapSemW [.sw (.int .u32), .s (.int .u32), .v] A (gTakes A V)) :: ((tN10 A S V))
theorem tN11OK : COK Tryz.prog (look (tN11 stdA stdW stdV)) := COK_cons ok_takes (tN10OK)
end Go.Eng

