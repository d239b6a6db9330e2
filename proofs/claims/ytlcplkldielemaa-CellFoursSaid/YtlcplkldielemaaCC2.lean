/- Contracts: squares, second part. -/
import Derived.Test.YtlcplkldielemaaCC1
namespace Go.Eng
open Go.Proofs
set_option maxRecDepth 100000
set_option linter.all false
set_option exponentiation.threshold 3000

theorem or_ff {c d : Bool} (h : (if (!c) = true then true else d) = false) : c = true ∧ d = false := by cases c <;> simp_all

theorem cIs_bd {x y s : Int} (h : cIs x y s = true) : 1 ≤ s ∧ s ≤ 64 ∧ 0 ≤ x ∧ 0 ≤ y ∧ x ≤ 64 - s ∧ y ≤ 64 - s := by
  simp only [cIs, Bool.and_eq_true, decide_eq_true_eq] at h
  obtain ⟨⟨⟨⟨⟨⟨h1, h2⟩, h3⟩, h4⟩, h5⟩, _⟩, _⟩ := h
  have := pw2_bd h1
  exact ⟨this.1, this.2, h2, h3, h4, h5⟩

def gUp (C : SC) : List CV → List Blk → Option LR
  | [.g [.s (.int .i64 x), .s (.int .i64 y), .s (.int .i64 s)]], [] => some ⟨[], .t [.g [.s (.int .i64 (C.up1 x y s)), .s (.int .i64 (C.up2 x y s)), .s (.int .i64 (C.up3 x y s))], .s (.bool (C.upOK x y s))], []⟩
  | _, _ => none
theorem ok_up : CallOK Try.prog 10 (heapSem [.v] stdA (gUp stdC)) := by
  refine callOK_heap (un := ⟨false, none⟩) tok tK2OK mixed (fn := Try.f10) (by kernel_rfl) (by kernel_rfl) (by kernel_rfl) (by decide +kernel) ?_
  intro w Wr args bs r hg ho hWr A L k hA hL hk
  obtain ⟨C, hC⟩ : ∃ C, C = stdC := ⟨_, rfl⟩
  (try rw [← hC])
  (try rw [← hA])
  unfold gUp at hg
  split at hg
  rotate_left
  · cases hg
  simp only [Option.some.injEq] at hg
  subst hg
  rename_i x y s
  cbv
  repeat' first | (with_reducible intro hb; cbv) | with_reducible refine And.intro ?_ ?_
  all_goals subst hA hC
  · have hb : (if (!cIs x y s) = true then true else (s == 64)) = true := hb
    have h : (cIs x y s && decide (s ≠ 64)) = false := by
      cases hc : cIs x y s
      · rfl
      · rw [hc] at hb; simpa using hb
    refine hk _ _ (Good.pure rfl fun ρ => ?_)
    show Value.tuple #[.agg #[.int .i64 0, .int .i64 0, .int .i64 0], .bool false] = .tuple #[.agg #[.int .i64 (if (cIs x y s && decide (s ≠ 64)) = true then x - x % (2 * s) else 0), .int .i64 (if (cIs x y s && decide (s ≠ 64)) = true then y - y % (2 * s) else 0), .int .i64 (if (cIs x y s && decide (s ≠ 64)) = true then 2 * s else 0)], .bool (cIs x y s && decide (s ≠ 64))]
    rw [h]; rfl
  all_goals have hb : (if (!cIs x y s) = true then true else (s == 64)) = false := hb
  all_goals obtain ⟨hc, h64⟩ := or_ff hb
  all_goals have h64 : s ≠ 64 := by simpa using h64
  all_goals obtain ⟨s1, s2, x0, y0, x1, y1⟩ := cIs_bd hc
  all_goals have e1 : stdBin .mul .i64 2 s = 2 * s := by simp only [stdBin, IntKind.wrap_i64]; omega
  · show (stdBin .mul .i64 2 s != 0) = true
    rw [e1]; simp only [bne_iff_ne]; omega
  · show (stdBin .mul .i64 2 s != 0) = true
    rw [e1]; simp only [bne_iff_ne]; omega
  · have h : (cIs x y s && decide (s ≠ 64)) = true := by rw [hc, decide_eq_true h64]; rfl
    refine hk _ _ (Good.pure rfl fun ρ => ?_)
    show Value.tuple #[.agg #[.int .i64 (stdBin .sub .i64 x (x.tmod (stdBin .mul .i64 2 s))), .int .i64 (stdBin .sub .i64 y (y.tmod (stdBin .mul .i64 2 s))), .int .i64 (stdBin .mul .i64 2 s)], .bool true] = .tuple #[.agg #[.int .i64 (if (cIs x y s && decide (s ≠ 64)) = true then x - x % (2 * s) else 0), .int .i64 (if (cIs x y s && decide (s ≠ 64)) = true then y - y % (2 * s) else 0), .int .i64 (if (cIs x y s && decide (s ≠ 64)) = true then 2 * s else 0)], .bool (cIs x y s && decide (s ≠ 64))]
    rw [h, if_pos rfl, if_pos rfl, if_pos rfl, e1, Int.tmod_eq_emod_of_nonneg x0, Int.tmod_eq_emod_of_nonneg y0]
    have a1 := Int.emod_nonneg x (show 2 * s ≠ 0 by omega)
    have a2 := Int.emod_lt_of_pos x (show 0 < 2 * s by omega)
    have a3 := Int.emod_nonneg y (show 2 * s ≠ 0 by omega)
    have a4 := Int.emod_lt_of_pos y (show 0 < 2 * s by omega)
    have e2 : stdBin .sub .i64 x (x % (2 * s)) = x - x % (2 * s) := by simp only [stdBin, IntKind.wrap_i64]; omega
    have e3 : stdBin .sub .i64 y (y % (2 * s)) = y - y % (2 * s) := by simp only [stdBin, IntKind.wrap_i64]; omega
    rw [e2, e3]

def gKey (C : SC) : List CV → List Blk → Option LR
  | [.g [.s (.int .i64 x), .s (.int .i64 y), .s (.int .i64 s)]], [] => some ⟨[], .c (.s (.int .i64 (C.key x y s))), []⟩
  | _, _ => none
theorem ok_key : CallOK Try.prog 12 (heapSem [.v] stdA (gKey stdC)) := by
  refine callOK_heap (un := ⟨true, none⟩) tok tK2OK mixed (fn := Try.f12) (by kernel_rfl) (by kernel_rfl) (by kernel_rfl) (by decide +kernel) ?_
  intro w Wr args bs r hg ho hWr A L k hA hL hk
  obtain ⟨C, hC⟩ : ∃ C, C = stdC := ⟨_, rfl⟩
  (try rw [← hC])
  (try rw [← hA])
  unfold gKey at hg
  split at hg
  rotate_left
  · cases hg
  simp only [Option.some.injEq] at hg
  subst hg
  rename_i x y s
  cbv
  repeat' first | (with_reducible intro hb; cbv) | with_reducible refine And.intro ?_ ?_
  all_goals subst hA hC
  · have hb : (!cIs x y s) = true := hb
    refine hk _ _ (Good.pure rfl fun ρ => ?_)
    show Value.int .i64 (-1) = .int .i64 (if cIs x y s = true then keyE x y else -1)
    cases hc : cIs x y s
    · rfl
    · rw [hc] at hb; cases hb
  · have hb : (!cIs x y s) = false := hb
    refine hk _ _ (Good.pure rfl fun ρ => ?_)
    show Value.int .i64 (keyE x y) = .int .i64 (if cIs x y s = true then keyE x y else -1)
    cases hc : cIs x y s
    · rw [hc] at hb; cases hb
    · rfl

def gOr (A : Alg) (C : SC) : List CV → List Blk → Option LR
  | [.s (.hs 0)], [.vec false (.int .i64) l] => some ⟨[A.cmp .lss (A.len l) 1000000], .c (.s (.int .i64 (C.nz l))), []⟩
  | _, _ => none

theorem nz_all : ∀ (l : List Int), (∀ j, j < l.length → l.getD j 0 = 0) → firstNZ l = 0
  | [], _ => rfl
  | x :: r, h => by
    have h0 : x = 0 := by simpa using h 0 (by simp)
    simp only [firstNZ, if_pos h0]
    exact nz_all r fun j hj => by simpa using h (j + 1) (by simpa using hj)

theorem nz_at : ∀ (l : List Int) (i : Nat), i < l.length → (∀ j, j < i → l.getD j 0 = 0) → l.getD i 0 ≠ 0 → firstNZ l = l.getD i 0
  | [], _, h, _, _ => by simp at h
  | x :: r, 0, _, _, hn => by
    have hn : x ≠ 0 := by simpa using hn
    simp [firstNZ, if_neg hn]
  | x :: r, i + 1, hi, h, hn => by
    have h0 : x = 0 := by simpa using h 0 (by omega)
    simp only [firstNZ, if_pos h0]
    rw [nz_at r i (by simpa using hi) (fun j hj => by simpa using h (j + 1) (by omega)) (by simpa using hn)]
    simp

theorem ok_or : CallOK Try.prog 18 (heapSem [.s (.int .i64)] stdA (gOr stdA stdC)) := by
  refine callOK_heap (un := ⟨false, none⟩) tok tK2OK mixed (fn := Try.f18) (by kernel_rfl) (by kernel_rfl) (by kernel_rfl) (by decide +kernel) ?_
  intro w Wr args bs r hg ho hWr A L k hA hL hk
  obtain ⟨C, hC⟩ : ∃ C, C = stdC := ⟨_, rfl⟩
  (try rw [← hC])
  (try rw [← hA])
  unfold gOr at hg
  split at hg
  rotate_left
  · cases hg
  simp only [Option.some.injEq] at hg
  subst hg
  rename_i l
  change List Int at l
  have hlen := ho _ (List.mem_cons_self ..)
  clear ho
  simp only [stdA, stdCmp, decide_eq_true_eq] at hlen
  cbv
  refine hL _ _ _ (loop_rule (un := ⟨false, none⟩) tok tK2OK mixed (fun i : Int => ⟨[(8, ⟨[], .c (.s (.int .i64 i))⟩), (7, ⟨[], .c (.s (.int .i64 (A.len l)))⟩), (6, ⟨[], .c (.s (.hs 0))⟩), (3, ⟨[], .c (.s (.lit .i64 0))⟩)], [(0, .vec false (.int .i64) l)], 1⟩)
    (fun i => 0 ≤ i ∧ i ≤ zn l.length ∧ ∀ j, j < i.toNat → l.getD j 0 = 0) (fun i => (zn l.length - i).toNat) 0 ?_ ?_ (fun _ i hi => hWr i hi) ?_)
  · exact ⟨by omega, by simp only [zn]; omega, fun j hj => by simp at hj⟩
  · exact ⟨⟨⟨rfl, rfl, fun _ => rfl⟩, ⟨rfl, rfl, fun _ => rfl⟩, ⟨rfl, rfl, fun _ => rfl⟩, ⟨rfl, rfl, fun _ => rfl⟩, trivial⟩, ⟨⟨rfl, rfl, rfl, rfl, fun h => h⟩, trivial⟩, rfl, rfl⟩
  intro i hI A2 L2 k2 hA2 hL2 hnext hexit hret
  obtain ⟨i0, i1, i2⟩ := hI
  cbv
  repeat' first | (with_reducible intro hb; cbv) | with_reducible refine And.intro ?_ ?_
  all_goals try (subst hC; (try clear hk); (try clear hL); (try clear hexit hnext hret); (try clear hexit2 hnext2 hret2); (try clear hL2); (try clear hL3); (try clear hexit3 hnext3 hret3); (try subst hA3); (try subst hA2); (try subst hA); (try simp only [toZn] at *); (try simp only [zn] at *); (try simp only [stdA, stdCmp, stdBin, Bool.if_false_right, Bool.if_true_left, Bool.decide_eq_true, Bool.and_eq_false_iff, Bool.or_eq_false_iff, IntKind.wrap_i64, IntKind.wrap_u32, IntKind.wrap_u8, w_u64, Int.zero_add, Int.sub_zero, ofNat_cast, beq_true, Bool.or_eq_true, Bool.and_eq_true, Bool.not_eq_true', decide_eq_true_eq, decide_eq_false_iff_not, beq_iff_eq, bne_iff_ne, beq_eq_false_iff_ne, ne_eq, if_true, if_false] at *); omega)
  · have h1 : l.getD i.toNat 0 ≠ 0 := by rw [hA2] at hb; simpa [stdA, stdCmp] using hb
    rename_i hb1
    have h2 : i.toNat < l.length := by (try clear hk); (try clear hL); (try clear hexit hnext hret); (try clear hexit2 hnext2 hret2); (try clear hL2); (try clear hL3); (try clear hexit3 hnext3 hret3); (try subst hA3); (try subst hA2); (try subst hA); (try simp only [toZn] at *); (try simp only [zn] at *); (try simp only [stdA, stdCmp, stdBin, Bool.if_false_right, Bool.if_true_left, Bool.decide_eq_true, Bool.and_eq_false_iff, Bool.or_eq_false_iff, IntKind.wrap_i64, IntKind.wrap_u32, IntKind.wrap_u8, w_u64, Int.zero_add, Int.sub_zero, ofNat_cast, beq_true, Bool.or_eq_true, Bool.and_eq_true, Bool.not_eq_true', decide_eq_true_eq, decide_eq_false_iff_not, beq_iff_eq, bne_iff_ne, beq_eq_false_iff_ne, ne_eq, if_true, if_false] at *); omega
    apply hret
    cbv
    refine hk _ _ (Good.pure rfl fun ρ => ?_)
    subst hC
    show Value.int .i64 (A2.get l i 0) = .int .i64 (firstNZ l)
    rw [nz_at l i.toNat h2 i2 h1, hA2]; rfl
  · have h1 : l.getD i.toNat 0 = 0 := by rw [hA2] at hb; simpa [stdA, stdCmp] using hb
    rename_i hb1
    have h2 : i.toNat < l.length := by (try clear hk); (try clear hL); (try clear hexit hnext hret); (try clear hexit2 hnext2 hret2); (try clear hL2); (try clear hL3); (try clear hexit3 hnext3 hret3); (try subst hA3); (try subst hA2); (try subst hA); (try simp only [toZn] at *); (try simp only [zn] at *); (try simp only [stdA, stdCmp, stdBin, Bool.if_false_right, Bool.if_true_left, Bool.decide_eq_true, Bool.and_eq_false_iff, Bool.or_eq_false_iff, IntKind.wrap_i64, IntKind.wrap_u32, IntKind.wrap_u8, w_u64, Int.zero_add, Int.sub_zero, ofNat_cast, beq_true, Bool.or_eq_true, Bool.and_eq_true, Bool.not_eq_true', decide_eq_true_eq, decide_eq_false_iff_not, beq_iff_eq, bne_iff_ne, beq_eq_false_iff_ne, ne_eq, if_true, if_false] at *); omega
    have e4 : A2.bin .add .i64 i 1 = i + 1 := by (try clear hk); (try clear hL); (try clear hexit hnext hret); (try clear hexit2 hnext2 hret2); (try clear hL2); (try clear hL3); (try clear hexit3 hnext3 hret3); (try subst hA3); (try subst hA2); (try subst hA); (try simp only [toZn] at *); (try simp only [zn] at *); (try simp only [stdA, stdCmp, stdBin, Bool.if_false_right, Bool.if_true_left, Bool.decide_eq_true, Bool.and_eq_false_iff, Bool.or_eq_false_iff, IntKind.wrap_i64, IntKind.wrap_u32, IntKind.wrap_u8, w_u64, Int.zero_add, Int.sub_zero, ofNat_cast, beq_true, Bool.or_eq_true, Bool.and_eq_true, Bool.not_eq_true', decide_eq_true_eq, decide_eq_false_iff_not, beq_iff_eq, bne_iff_ne, beq_eq_false_iff_ne, ne_eq, if_true, if_false] at *); omega
    refine hnext _ (i + 1) ⟨by omega, ?_, ?_⟩ ?_ ⟨⟨⟨rfl, rfl, fun ρ => congrArg (Value.int .i64) e4⟩, ⟨rfl, rfl, fun _ => rfl⟩, ⟨rfl, rfl, fun _ => rfl⟩, ⟨rfl, rfl, fun _ => rfl⟩, trivial⟩, ⟨⟨rfl, rfl, rfl, rfl, fun h => h⟩, trivial⟩, rfl, rfl⟩
    · simp only [zn]; omega
    · intro j hj
      by_cases hji : j = i.toNat
      · rw [hji]; exact h1
      · exact i2 j (by omega)
    · show (zn l.length - (i + 1)).toNat < (zn l.length - i).toNat
      simp only [zn]; omega
  · have h2 : i.toNat = l.length := by (try clear hk); (try clear hL); (try clear hexit hnext hret); (try clear hexit2 hnext2 hret2); (try clear hL2); (try clear hL3); (try clear hexit3 hnext3 hret3); (try subst hA3); (try subst hA2); (try subst hA); (try simp only [toZn] at *); (try simp only [zn] at *); (try simp only [stdA, stdCmp, stdBin, Bool.if_false_right, Bool.if_true_left, Bool.decide_eq_true, Bool.and_eq_false_iff, Bool.or_eq_false_iff, IntKind.wrap_i64, IntKind.wrap_u32, IntKind.wrap_u8, w_u64, Int.zero_add, Int.sub_zero, ofNat_cast, beq_true, Bool.or_eq_true, Bool.and_eq_true, Bool.not_eq_true', decide_eq_true_eq, decide_eq_false_iff_not, beq_iff_eq, bne_iff_ne, beq_eq_false_iff_ne, ne_eq, if_true, if_false] at *); omega
    apply hexit
    cbv
    refine hk _ _ (Good.pure rfl fun ρ => ?_)
    subst hC
    show Value.int .i64 0 = .int .i64 (firstNZ l)
    rw [nz_all l (by rw [← h2]; exact i2)]

def tK3 (A : Alg) (C : SC) : List (Nat × Sem') := (12, heapSem [.v] A (gKey C)) :: (10, heapSem [.v] A (gUp C)) :: (9, heapSem [.v] A (gFour A C)) :: (18, heapSem [.s (.int .i64)] A (gOr A C)) :: ((tK2 A C))
theorem tK3OK : COK Try.prog (look (tK3 stdA stdC)) := COK_cons ok_key (COK_cons ok_up (COK_cons ok_four (COK_cons ok_or (tK2OK))))

def gCmpC (C : SC) : List CV → List Blk → Option LR
  | [.g [.s (.int .i64 x), .s (.int .i64 y), .s (.int .i64 s)], .g [.s (.int .i64 u), .s (.int .i64 v), .s (.int .i64 t)]], [] => some ⟨[], .c (.s (.int .i64 (C.cmp x y s u v t))), []⟩
  | _, _ => none
theorem ok_cmpC : CallOK Try.prog 11 (heapSem [.v, .v] stdA (gCmpC stdC)) := by
  refine callOK_heap (un := ⟨false, none⟩) tok tK3OK mixed (fn := Try.f11) (by kernel_rfl) (by kernel_rfl) (by kernel_rfl) (by decide +kernel) ?_
  intro w Wr args bs r hg ho hWr A L k hA hL hk
  obtain ⟨C, hC⟩ : ∃ C, C = stdC := ⟨_, rfl⟩
  (try rw [← hC])
  (try rw [← hA])
  unfold gCmpC at hg
  split at hg
  rotate_left
  · cases hg
  simp only [Option.some.injEq] at hg
  subst hg
  rename_i x y s u v t
  cbv
  repeat' first | (with_reducible intro hb; cbv) | with_reducible refine And.intro ?_ ?_
  all_goals subst hA hC
  · simp [stdA, stdCmp]
  · refine hk _ _ (Good.pure rfl fun ρ => ?_)
    show Value.int .i64 (firstNZ [sgn (stdC.key x y s) (stdC.key u v t), sgn s t]) = .int .i64 (stdC.cmp x y s u v t)
    simp only [firstNZ]
    show Value.int .i64 (if sgn (stdC.key x y s) (stdC.key u v t) = 0 then (if sgn s t = 0 then 0 else sgn s t) else sgn (stdC.key x y s) (stdC.key u v t)) = .int .i64 (if sgn (stdC.key x y s) (stdC.key u v t) = 0 then sgn s t else sgn (stdC.key x y s) (stdC.key u v t))
    congr 2
    split
    · rename_i h; exact h.symm
    · rfl

def gHas (A : Alg) (C : SC) : List CV → List Blk → Option LR
  | [.g [.s (.int .i64 x), .s (.int .i64 y), .s (.int .i64 s)], .s (.int .i64 p), .s (.int .i64 q)], [] => some ⟨[], .c (.s (.bool (C.has x y s p q))), []⟩
  | _, _ => none
theorem ok_has : CallOK Try.prog 14 (heapSem [.v, .v, .v] stdA (gHas stdA stdC)) := by
  refine callOK_heap (un := ⟨false, none⟩) tok tK3OK mixed (fn := Try.f14) (by kernel_rfl) (by kernel_rfl) (by kernel_rfl) (by decide +kernel) ?_
  intro w Wr args bs r hg ho hWr A L k hA hL hk
  obtain ⟨C, hC⟩ : ∃ C, C = stdC := ⟨_, rfl⟩
  (try rw [← hC])
  (try rw [← hA])
  unfold gHas at hg
  split at hg
  rotate_left
  · cases hg
  simp only [Option.some.injEq] at hg
  subst hg
  rename_i x y s p q
  cbv
  repeat' first | (with_reducible intro hb; cbv) | with_reducible refine And.intro ?_ ?_
  all_goals subst hA hC
  refine hk _ _ (Good.pure rfl fun ρ => ?_)
  show Value.bool (if (if cIs x y s = true then (if decide (p ≥ x) = true then decide (p ≤ stdBin .add .i64 x s) else false) else false) = true then (if decide (q ≥ y) = true then decide (q ≤ stdBin .add .i64 y s) else false) else false) = .bool (cIs x y s && decide (x ≤ p) && decide (p ≤ x + s) && decide (y ≤ q) && decide (q ≤ y + s))
  cases hc : cIs x y s
  · rfl
  · obtain ⟨s1, s2, x0, y0, x1, y1⟩ := cIs_bd hc
    have e1 : stdBin .add .i64 x s = x + s := by simp only [stdBin, IntKind.wrap_i64]; omega
    have e2 : stdBin .add .i64 y s = y + s := by simp only [stdBin, IntKind.wrap_i64]; omega
    rw [e1, e2]
    congr 1
    rw [Bool.eq_iff_iff]
    simp only [Bool.if_false_right, Bool.decide_eq_true, Bool.and_eq_true, decide_eq_true_eq, if_true, true_and, Bool.true_and]
    omega

def gBes (C : SC) : List CV → List Blk → Option LR
  | [.g [.s (.int .i64 x), .s (.int .i64 y), .s (.int .i64 s)], .g [.s (.int .i64 u), .s (.int .i64 v), .s (.int .i64 t)]], [] => some ⟨[], .c (.s (.bool (C.bes x y s u v t))), []⟩
  | _, _ => none
theorem ok_bes : CallOK Try.prog 13 (heapSem [.v, .v] stdA (gBes stdC)) := by
  refine callOK_heap (un := ⟨false, none⟩) tok tK3OK mixed (fn := Try.f13) (by kernel_rfl) (by kernel_rfl) (by kernel_rfl) (by decide +kernel) ?_
  intro w Wr args bs r hg ho hWr A L k hA hL hk
  obtain ⟨C, hC⟩ : ∃ C, C = stdC := ⟨_, rfl⟩
  (try rw [← hC])
  (try rw [← hA])
  unfold gBes at hg
  split at hg
  rotate_left
  · cases hg
  simp only [Option.some.injEq] at hg
  subst hg
  rename_i x y s u v t
  cbv
  repeat' first | (with_reducible intro hb; cbv) | with_reducible refine And.intro ?_ ?_
  all_goals subst hA hC
  · have hb : (if (!cIs x y s) = true then true else (!cIs u v t)) = true := hb
    refine hk _ _ (Good.pure rfl fun ρ => ?_)
    show Value.bool false = .bool (cBes x y s u v t)
    unfold cBes
    cases hc : cIs x y s
    · rfl
    · cases hd : cIs u v t
      · rfl
      · rw [hc, hd] at hb; cases hb
  · have hb : (if (!cIs x y s) = true then true else (!cIs u v t)) = false := hb
    obtain ⟨hc, hd⟩ := or_ff hb
    have hd : cIs u v t = true := by simpa using hd
    refine hk _ _ (Good.pure rfl fun ρ => ?_)
    refine congrArg Value.bool ?_
    show stdA.ite (stdA.ite (stdA.cmp .eql (stdA.bin .sub .i64 (stdA.mn (stdA.bin .add .i64 x s) (stdA.bin .add .i64 u t)) (stdA.mx x u)) 0) (stdA.cmp .gtr (stdA.bin .sub .i64 (stdA.mn (stdA.bin .add .i64 y s) (stdA.bin .add .i64 v t)) (stdA.mx y v)) 0) false) true
      (stdA.ite (stdA.cmp .gtr (stdA.bin .sub .i64 (stdA.mn (stdA.bin .add .i64 x s) (stdA.bin .add .i64 u t)) (stdA.mx x u)) 0) (stdA.cmp .eql (stdA.bin .sub .i64 (stdA.mn (stdA.bin .add .i64 y s) (stdA.bin .add .i64 v t)) (stdA.mx y v)) 0) false) = cBes x y s u v t
    obtain ⟨s1, s2, x0, y0, x1, y1⟩ := cIs_bd hc
    obtain ⟨t1, t2, u0, v0, u1, v1⟩ := cIs_bd hd
    have ea : ∀ p q : Int, 0 ≤ p → 0 ≤ q → p ≤ 64 → q ≤ 64 → stdA.bin .add .i64 p q = p + q := fun p q _ _ _ _ => by simp only [stdA, stdBin, IntKind.wrap_i64]; omega
    have ec : ∀ a b c d : Int, 0 ≤ a → a ≤ 128 → 0 ≤ b → b ≤ 128 → 0 ≤ c → c ≤ 128 → 0 ≤ d → d ≤ 128 → stdA.bin .sub .i64 (stdA.mn b d) (stdA.mx a c) = com a b c d := fun a b c d _ _ _ _ _ _ _ _ => by
      simp only [stdA, stdBin, IntKind.wrap_i64, com]
      split <;> split <;> omega
    rw [ea x s, ea u t, ea y s, ea v t, ec, ec]
    · unfold cBes
      rw [hc, hd]
      simp only [stdA, stdCmp, Bool.true_and]
      generalize com x (x + s) u (u + t) = M
      generalize com y (y + s) v (v + t) = N
      rw [Bool.eq_iff_iff]
      simp only [Bool.if_false_right, Bool.if_true_left, Bool.decide_eq_true, Bool.and_eq_true, Bool.or_eq_true, decide_eq_true_eq, beq_iff_eq]
    all_goals omega

def gRoot : List CV → List Blk → Option LR
  | [], [] => some ⟨[], .c (.g [.s (.lit .i64 0), .s (.lit .i64 0), .s (.lit .i64 64)]), []⟩
  | _, _ => none
theorem ok_root : CallOK Try.prog 15 (heapSem [] stdA (gRoot)) := by
  refine callOK_heap (un := ⟨false, none⟩) tok tK3OK mixed (fn := Try.f15) (by kernel_rfl) (by kernel_rfl) (by kernel_rfl) (by decide +kernel) ?_
  intro w Wr args bs r hg ho hWr A L k hA hL hk
  obtain ⟨C, hC⟩ : ∃ C, C = stdC := ⟨_, rfl⟩
  (try rw [← hC])
  (try rw [← hA])
  unfold gRoot at hg
  split at hg
  rotate_left
  · cases hg
  simp only [Option.some.injEq] at hg
  subst hg
  cbv
  exact hk _ _ (Good.pure rfl fun ρ => rfl)

end Go.Eng
