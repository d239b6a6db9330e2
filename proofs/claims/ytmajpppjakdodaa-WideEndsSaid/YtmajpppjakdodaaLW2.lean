/- The law WideShifts. -/
import Derived.Test.YtmajpppjakdodaaLW1
namespace Go.Eng
open Go.Proofs
set_option maxRecDepth 100000
set_option linter.all false
set_option exponentiation.threshold 3000
set_option maxHeartbeats 4000000

def gLawShifts (A : Alg) : List CV → List Blk → Option LR
  | [.g [.W _], .s (.int .u8 n)], [] => some ⟨[A.cmp .leq 0 n, A.cmp .lss n 256], .c (.s (.bool true)), []⟩
  | _, _ => none

/-- what stands fast in the law -/
structure ShOK (x : Wd) (n : Int) : Prop where
  n0 : 0 ≤ n
  n1 : n < 256
  ix : stdW.isW x = true
  sm : x.d.n < 2 ^ 700

theorem ShOK.fit {x : Wd} {n : Int} (h : ShOK x n) (k : Nat) (hk : k ≤ 255) : fitZ (wval x * 2 ^ k) = true := by
  refine decide_eq_true ?_
  rw [shift_abs]
  have h1 := Nat.mul_lt_mul_of_pos_right h.sm (Nat.two_pow_pos k)
  rw [← Nat.pow_add] at h1
  exact Nat.lt_of_lt_of_le h1 (Nat.pow_le_pow_right (by decide) (by omega))

def ShI (x : Wd) (n i : Int) (d : Wd) : Prop := 0 ≤ i ∧ i ≤ n ∧ d = ofZ (wval x * 2 ^ i.toNat)

theorem ShI.init {x : Wd} {n : Int} (h : ShOK x n) : ShI x n 0 x := by
  refine ⟨Int.le_refl 0, h.n0, ?_⟩
  rw [show (0 : Int).toNat = 0 from rfl, Int.pow_zero, Int.mul_one]
  exact (ofZ_wval h.ix).symm

theorem sh_shift {x : Wd} {n : Int} (h : ShOK x n) : stdV.shift x n = ofZ (wval x * 2 ^ n.toNat) ∧ stdV.shiftOK x n = true := by
  have hc : clampZ n = n.toNat := by have := h.n0; have := h.n1; show min n.toNat 1024 = _; omega
  have hf := h.fit n.toNat (by have := h.n1; omega)
  constructor
  · show pick (fitZ (wval x * 2 ^ clampZ n)) (wval x * 2 ^ clampZ n) = _
    rw [hc, hf]; rfl
  · show fitZ (wval x * 2 ^ clampZ n) = true
    rw [hc, hf]

structure ShStep (A : Alg) (V : SV) (x : Wd) (n i : Int) (d : Wd) : Prop where
  ok : A.not (V.addOK d d) = false
  nx : ShI x n (i + 1) (V.add d d)
  ad : A.bin .add .i64 i 1 = i + 1
  ms : (n - (i + 1)).toNat < (n - i).toNat

theorem sh_step {x : Wd} {n i : Int} {d : Wd} (h : ShOK x n) (hI : ShI x n i d) (A : Alg) (hA : A = stdA) (V : SV) (hV : V = stdV) (hb : A.cmp .lss i (A.wrap .i64 n) = true) : ShStep A V x n i d := by
  subst hA hV
  have hn0 := h.n0
  have hn1 := h.n1
  have hw : stdA.wrap .i64 n = n := by show IntKind.i64.wrap n = n; rw [IntKind.wrap_i64]; omega
  rw [hw] at hb
  have hb : i < n := of_decide_eq_true hb
  obtain ⟨i0, i1, hd⟩ := hI
  have hv : wval d = wval x * 2 ^ i.toNat := by rw [hd]; exact wval_ofZ (h.fit _ (by omega))
  have hs : wval d + wval d = wval x * 2 ^ (i + 1).toNat := by
    rw [hv, show (i + 1).toNat = i.toNat + 1 by omega, Int.pow_succ]
    rw [← Int.mul_assoc]; omega
  have hf := h.fit (i + 1).toNat (by omega)
  have hok : stdV.addOK d d = true := by show fitZ (wval d + wval d) = true; rw [hs]; exact hf
  exact {
    ok := by rw [hok]; rfl
    nx := by
      refine ⟨by omega, by omega, ?_⟩
      show pick (fitZ (wval d + wval d)) (wval d + wval d) = _
      rw [hs, hf]; rfl
    ad := by show stdBin .add .i64 i 1 = i + 1; simp only [stdBin, IntKind.wrap_i64]; omega
    ms := by omega }

structure ShEnd (A : Alg) (V : SV) (S : SW) (x d : Wd) (n : Int) : Prop where
  k1 : A.cmp .leq (-9223372036854775808) 1 = true
  k2 : A.cmp .lss 1 9223372036854775808 = true
  i1 : ∀ b, A.imp b (A.cmp .leq (-9223372036854775808) 0) = true
  i2 : ∀ b, A.imp b (A.cmp .lss 0 9223372036854775808) = true
  fin : A.ite (A.ite (A.ite (A.ite (A.ite (V.shiftOK x n) (A.eqW (V.shift x n) d) false) (V.shiftOK (S.from64 1) n) false) (V.dmOK (V.shift (S.from64 1) n)) false) (A.eqW (V.dmQ (V.shift x n) (V.shift (S.from64 1) n)) x) false) (A.eqW (V.dmR (V.shift x n) (V.shift (S.from64 1) n)) (S.from64 0)) false = true

theorem sh_end {x : Wd} {n i : Int} {d : Wd} (h : ShOK x n) (hI : ShI x n i d) (A : Alg) (hA : A = stdA) (V : SV) (hV : V = stdV) (S : SW) (hS : S = stdW) (hb : A.cmp .lss i (A.wrap .i64 n) = false) : ShEnd A V S x d (A.wrap .i64 n) := by
  subst hA hV hS
  have hn0 := h.n0
  have hn1 := h.n1
  have hw : stdA.wrap .i64 n = n := by show IntKind.i64.wrap n = n; rw [IntKind.wrap_i64]; omega
  rw [hw] at hb ⊢
  have hb : ¬ i < n := of_decide_eq_false hb
  obtain ⟨i0, i1, hd⟩ := hI
  have hin : i = n := by omega
  subst hin
  obtain ⟨s1, s2⟩ := sh_shift h
  have e1 : wval (stdW.from64 1) = 1 := wval_ofZ (z := 1) rfl
  have hone : ShOK (stdW.from64 1) i := ⟨hn0, hn1, rfl, by show 1 % 2 ^ 1024 < 2 ^ 700; decide⟩
  obtain ⟨p1, p2⟩ := sh_shift hone
  rw [e1, Int.one_mul] at p1
  have hx : wval (stdV.shift x i) = wval x * 2 ^ i.toNat := by rw [s1]; exact wval_ofZ (h.fit _ (by omega))
  have hp : wval (stdV.shift (stdW.from64 1) i) = 2 ^ i.toNat := by
    rw [p1]
    have := hone.fit i.toNat (by omega)
    rw [e1, Int.one_mul] at this
    exact wval_ofZ this
  have hp0 : (2 : Int) ^ i.toNat ≠ 0 := by
    have : (2 : Int) ^ i.toNat = ((2 ^ i.toNat : Nat) : Int) := by simp
    rw [this]
    have := Nat.two_pow_pos i.toNat
    omega
  have hok : stdV.dmOK (stdV.shift (stdW.from64 1) i) = true := by
    show decide (wval (stdV.shift (stdW.from64 1) i) ≠ 0) = true
    rw [hp]; exact decide_eq_true hp0
  have hok' : decide (wval (stdV.shift (stdW.from64 1) i) ≠ 0) = true := hok
  have hq : stdV.dmQ (stdV.shift x i) (stdV.shift (stdW.from64 1) i) = x := by
    show pick (decide (wval (stdV.shift (stdW.from64 1) i) ≠ 0)) ((wval (stdV.shift x i)).tdiv (wval (stdV.shift (stdW.from64 1) i))) = x
    rw [hok', hx, hp, Int.mul_tdiv_cancel _ hp0]
    exact ofZ_wval h.ix
  have hr : stdV.dmR (stdV.shift x i) (stdV.shift (stdW.from64 1) i) = stdW.from64 0 := by
    show pick (decide (wval (stdV.shift (stdW.from64 1) i) ≠ 0)) ((wval (stdV.shift x i)).tmod (wval (stdV.shift (stdW.from64 1) i))) = _
    rw [hok', hx, hp, Int.mul_tmod_left]; rfl
  have eqW : ∀ a b : Wd, a = b → stdA.eqW a b = true := fun a b h => decide_eq_true h
  have imp : ∀ a b : Bool, b = true → stdA.imp a b = true := fun a b h => by show (!a || b) = true; rw [h]; simp
  refine ⟨rfl, rfl, fun b => imp _ _ rfl, fun b => imp _ _ rfl, ?_⟩
  rw [s2, p2, hok, hq, hr, eqW _ _ (by rw [s1]; exact hd.symm), eqW x x rfl, eqW _ _ rfl]
  rfl

theorem sh_ok (x : Wd) (n : Int) (A : Alg) (hA : A = stdA) (S : SW) (hS : S = stdW) (n0 : 0 ≤ n) (n1 : n < 256) (hv : A.ite (A.not (S.isW x)) true (A.cmp .gtr (S.bits x) 700) = false) : ShOK x n := by
  subst hA hS
  have hv : (if (!stdW.isW x) = true then true else decide (((lenOf x.d.n : Nat) : Int) > 700)) = false := hv
  have hx : stdW.isW x = true := by cases h : stdW.isW x <;> simp [h] at hv ⊢
  rw [hx] at hv
  simp only [Bool.not_true, Bool.false_eq_true, if_false, decide_eq_false_iff_not] at hv
  refine ⟨n0, n1, hx, ?_⟩
  by_cases h0 : x.d.n = 0
  · rw [h0]; exact Nat.two_pow_pos _
  · exact Nat.lt_of_lt_of_le (lenOf_spec _ h0).2.2 (Nat.pow_le_pow_right (by decide) (by omega))

theorem ok_wideShifts : CallOK Try.prog 3 (heapSem [.v, .v] stdA (gLawShifts stdA)) := by
  refine callOK_heap (un := ⟨false, some [1,2,4,5,6,7,8,9,10,11,12,13,14,15,16,18,26,38,48]⟩) tok tW1OK mixed (fn := Try.f3) (by kernel_rfl) (by kernel_rfl) (by kernel_rfl) (by decide +kernel) ?_
  intro w Wr args bs r hg ho hWr A L k hA hL hk
  obtain ⟨S, hS⟩ : ∃ S, S = stdW := ⟨_, rfl⟩
  obtain ⟨T, hT⟩ : ∃ T, T = stdT := ⟨_, rfl⟩
  obtain ⟨V, hV⟩ : ∃ V, V = stdV := ⟨_, rfl⟩
  (try rw [← hS])
  (try rw [← hT])
  (try rw [← hV])
  (try rw [← hA])
  unfold gLawShifts at hg
  split at hg
  rotate_left
  · cases hg
  simp only [Option.some.injEq] at hg
  subst hg
  rename_i x n
  have n0 := (ho_cons ho).1
  have n1 := (ho_cons (ho_cons ho).2).1
  clear ho
  simp only [stdA, stdCmp, decide_eq_true_eq] at n0 n1
  have go := sh_ok x n A hA S hS n0 n1
  clear n0 n1
  cbv
  repeat' first | (with_reducible intro hb; cbv) | with_reducible refine And.intro ?_ ?_
  rotate_right
  · rename_i hb0
    have hok := go hb
    have i0 := ShI.init hok
    clear go
    refine hL _ _ _ (loop_rule (un := ⟨false, some [2, 4, 5, 6, 7, 8, 9, 10, 11, 38, 48]⟩) tok tW1OK mixed (fun p : Int × Wd => ⟨[(9, ⟨[], .c (.s (.int .i64 p.1))⟩), (5, ⟨[], .c (.s (.int .i64 (stdA.wrap .i64 n)))⟩), (7, ⟨[], .c (.s (.bool (stdV.shiftOK x (stdA.wrap .i64 n))))⟩), (8, ⟨[], .c (.s (.hp 2 0))⟩), (2, ⟨[], .c (.s (.hp 0 0))⟩), (6, ⟨[], .c (.s (.hp 1 0))⟩)], [(0, .fix true [.W x]), (1, .fix true [.W (stdV.shift x (stdA.wrap .i64 n))]), (2, .fix true [.W p.2])], 3⟩)
      (fun p => ShI x n p.1 p.2) (fun p => (n - p.1).toNat) (0, x) i0 ?_ (fun _ i hi => by have := hWr i hi; simp at this) ?_)
    · subst hA hV
      exact ⟨⟨⟨rfl, rfl, fun _ => rfl⟩, ⟨rfl, rfl, fun _ => rfl⟩, ⟨rfl, rfl, fun _ => rfl⟩, ⟨rfl, rfl, fun _ => rfl⟩, ⟨rfl, rfl, fun _ => rfl⟩, ⟨rfl, rfl, fun _ => rfl⟩, trivial⟩, ⟨leRefl rfl, leRefl rfl, leRefl rfl, trivial⟩, rfl, rfl⟩
    clear i0 hb hb0
    rintro ⟨i, d⟩ hI A2 L2 k2 hA2 hL2 hnext hexit hret
    have st := fun hb : A2.cmp .lss i (A2.wrap .i64 n) = true => sh_step hok hI A2 hA2 V hV hb
    have en := fun hb : A2.cmp .lss i (A2.wrap .i64 n) = false => sh_end hok hI A2 hA2 V hV S hS hb
    clear hok hI
    rw [← hA2, ← hS, ← hV, ← hT]
    cbv
    repeat' first | (with_reducible intro hb; cbv) | with_reducible refine And.intro ?_ ?_
    rotate_right
    · apply hexit
      have em := en hb
      have eA : A2 = A := hA2.trans hA.symm
      clear hexit hnext hret en st hb
      rw [eA] at em
      rw [eA]
      cbv
      repeat' first | (with_reducible intro hb; cbv) | with_reducible refine And.intro ?_ ?_
      all_goals first | exact em.k1 | exact em.k2 | exact em.i1 _ | exact em.i2 _ | skip
      refine hk _ _ (Good.pure rfl fun ρ => ?_)
      exact retB em.fin
    · rename_i hb0
      have := (st hb0).ok
      rw [show A2.not (V.addOK d d) = true from hb] at this
      cases this
    · rename_i hb0
      refine hnext _ (i + 1, _) (st hb0).nx (st hb0).ms ?_
      have ead := (st hb0).ad
      subst hA2 hV
      exact ⟨⟨⟨rfl, rfl, leI ead⟩, ⟨rfl, rfl, fun _ => rfl⟩, ⟨rfl, rfl, fun _ => rfl⟩, ⟨rfl, rfl, fun _ => rfl⟩, ⟨rfl, rfl, fun _ => rfl⟩, ⟨rfl, rfl, fun _ => rfl⟩, trivial⟩, ⟨leRefl rfl, leRefl rfl, leRefl rfl, trivial⟩, rfl, rfl⟩
  · subst hA
    cases hb
  · exact hk _ _ (Good.pure rfl fun ρ => rfl)

def tW2 (A : Alg) (S : SW) (V : SV) (T : ST) : List (Nat × Sem') := (3, heapSem [.v, .v] A (gLawShifts A)) :: ((tW1 A S V T))
theorem tW2OK : COK Try.prog (look (tW2 stdA stdW stdV stdT)) := COK_cons ok_wideShifts (tW1OK)
end Go.Eng
