/- Contracts: whole numbers, the guess of a quotient's word. -/
import Derived.Test.YtmajpppjakdodaaCN4
import Derived.Test.YtmajpppjakdodaaSpecNA
namespace Go.Eng
open Go.Proofs
set_option maxRecDepth 100000
set_option linter.all false
set_option exponentiation.threshold 3000

/-- a step of the guess: what the loop keeps -/
theorem guess_in (u2 u1 u0 v1 v0 q r : Nat) (h1 : u1 < 2 ^ 32) (h0 : u0 < 2 ^ 32) (k0 : v0 < 2 ^ 32) (hv : 1 ≤ v1) (hu : u2 ≤ v1) (T : Nat) (hT : T = min 4294967295 ((u2 * 2 ^ 64 + u1 * 2 ^ 32 + u0) / (v1 * 2 ^ 32 + v0)))
    (hq : q * v1 + r = u2 * 2 ^ 32 + u1) (hr : r < 2 ^ 32) (hTq : T ≤ q) :
    ((4294967295 < q ∨ r * 2 ^ 32 + u0 < q * v0) → 1 ≤ q ∧ T ≤ q - 1 ∧ (q - 1) * v1 + (r + v1) = u2 * 2 ^ 32 + u1 ∧ (4294967295 < r + v1 → q - 1 = T)) ∧
    (¬ (4294967295 < q ∨ r * 2 ^ 32 + u0 < q * v0) → q = T) := by
  have hV : 0 < v1 * 2 ^ 32 + v0 := by omega
  have hTle : ∀ m : Nat, m ≤ 4294967295 → m * (v1 * 2 ^ 32 + v0) ≤ u2 * 2 ^ 64 + u1 * 2 ^ 32 + u0 → m ≤ T := fun m h h' => by
    have := (Nat.le_div_iff_mul_le hV).2 h'
    omega
  have hTv : T * (v1 * 2 ^ 32 + v0) ≤ u2 * 2 ^ 64 + u1 * 2 ^ 32 + u0 := by
    have h := Nat.div_mul_le_self (u2 * 2 ^ 64 + u1 * 2 ^ 32 + u0) (v1 * 2 ^ 32 + v0)
    have : T ≤ (u2 * 2 ^ 64 + u1 * 2 ^ 32 + u0) / (v1 * 2 ^ 32 + v0) := by omega
    exact Nat.le_trans (Nat.mul_le_mul_right _ this) h
  have hTB : T ≤ 4294967295 := by omega
  have exp : ∀ m : Nat, m * (v1 * 2 ^ 32 + v0) = m * v1 * 2 ^ 32 + m * v0 := fun m => by rw [Nat.mul_add, Nat.mul_assoc]
  have e64 : u2 * 2 ^ 64 = u2 * 2 ^ 32 * 2 ^ 32 := by omega
  constructor
  · intro hc
    have hlt : T < q := by
      rcases hc with hc | hc
      · omega
      · rcases Nat.lt_or_ge T q with h | h
        · exact h
        · have : T = q := by omega
          subst this
          rw [exp] at hTv
          generalize T * v1 = a at *
          generalize T * v0 = b at *
          omega
    have hq1 : 1 ≤ q := by omega
    obtain ⟨p, rfl⟩ : ∃ p, q = p + 1 := ⟨q - 1, by omega⟩
    rw [Nat.add_sub_cancel]
    have hq' : p * v1 + (r + v1) = u2 * 2 ^ 32 + u1 := by rw [← hq, Nat.add_mul]; omega
    refine ⟨hq1, by omega, hq', fun hbig => ?_⟩
    have hpB : p ≤ 4294967295 := by
      have hlt : p * v1 < 4294967296 * v1 := by
        have : u2 * 2 ^ 32 ≤ v1 * 2 ^ 32 := Nat.mul_le_mul_right _ hu
        generalize p * v1 = a at *
        omega
      have := Nat.lt_of_mul_lt_mul_right hlt
      omega
    have hpv : p * v0 ≤ 4294967295 * 4294967295 := Nat.mul_le_mul hpB (by omega)
    have : p ≤ T := hTle p hpB (by
      rw [exp, e64]
      generalize p * v1 = a at *
      generalize p * v0 = b at *
      omega)
    omega
  · intro hc
    have : q ≤ T := hTle q (by omega) (by
      rw [exp, e64]
      generalize q * v1 = a at *
      generalize q * v0 = b at *
      omega)
    omega

theorem guess_first (u2 u1 u0 v1 v0 : Nat) (h0 : u0 < 2 ^ 32) (hv : 1 ≤ v1) (T : Nat) (hT : T = min 4294967295 ((u2 * 2 ^ 64 + u1 * 2 ^ 32 + u0) / (v1 * 2 ^ 32 + v0))) : T ≤ (u2 * 2 ^ 32 + u1) / v1 := by
  rw [Nat.le_div_iff_mul_le hv]
  have h := Nat.div_mul_le_self (u2 * 2 ^ 64 + u1 * 2 ^ 32 + u0) (v1 * 2 ^ 32 + v0)
  have : T ≤ (u2 * 2 ^ 64 + u1 * 2 ^ 32 + u0) / (v1 * 2 ^ 32 + v0) := by omega
  have h2 := Nat.le_trans (Nat.mul_le_mul_right (v1 * 2 ^ 32 + v0) this) h
  rw [Nat.mul_add, ← Nat.mul_assoc] at h2
  generalize T * v1 = a at *
  generalize T * v0 = b at *
  omega

/-- what the loop keeps -/
def GI (u v : List Int) (q r : Int) : Prop := 0 ≤ q ∧ 0 ≤ r ∧ q.toNat * (v.getD 1 0).toNat + r.toNat = (u.getD 2 0).toNat * 2 ^ 32 + (u.getD 1 0).toNat ∧ r < 4294967296 ∧ kGuess u v ≤ q.toNat

theorem guessOK_of {u v : List Int} (h : stdV.guessOK u v = true) : GuessOK u v := by
  simp only [stdV, Bool.and_eq_true, decide_eq_true_eq] at h
  obtain ⟨⟨⟨⟨⟨h1, h2⟩, h3⟩, h4⟩, h5⟩, h6⟩ := h
  exact ⟨h1, h2, h3, h4, W32.all h5, W32.all h6⟩

theorem u64_id (x : Int) (h0 : 0 ≤ x) (h1 : x < 18446744073709551616) : IntKind.u64.wrap x = x := by rw [w_u64]; omega

theorem guess_init {u v : List Int} (h : GuessOK u v) (A : Alg) (hA : A = stdA) :
    GI u v (A.bin .quo .u64 (A.bin .or .u64 (A.bin .shl .u64 (A.wrap .u64 (A.get u 2 0)) 32) (A.wrap .u64 (A.get u 1 0))) (A.wrap .u64 (A.get v 1 0))) (A.bin .rem .u64 (A.bin .or .u64 (A.bin .shl .u64 (A.wrap .u64 (A.get u 2 0)) 32) (A.wrap .u64 (A.get u 1 0))) (A.wrap .u64 (A.get v 1 0))) ∧
    A.cmp .neq (A.wrap .u64 (A.get v 1 0)) 0 = true := by
  subst hA
  obtain ⟨a2, b2⟩ := h.wu.getD 2
  obtain ⟨a1, b1⟩ := h.wu.getD 1
  obtain ⟨a0, b0⟩ := h.wu.getD 0
  obtain ⟨c1, d1⟩ := h.wv.getD 1
  have hv := h.v1
  have first := guess_first (u.getD 2 0).toNat (u.getD 1 0).toNat (u.getD 0 0).toNat (v.getD 1 0).toNat (v.getD 0 0).toNat (by omega) (by omega) (kGuess u v) rfl
  unfold GI
  generalize kGuess u v = T at first ⊢
  show (0 ≤ stdBin .quo .u64 (stdBin .or .u64 (stdBin .shl .u64 (IntKind.u64.wrap (u.getD 2 0)) 32) (IntKind.u64.wrap (u.getD 1 0))) (IntKind.u64.wrap (v.getD 1 0)) ∧ _) ∧ (IntKind.u64.wrap (v.getD 1 0) != 0) = true
  show (0 ≤ stdBin .quo .u64 (stdBin .or .u64 (stdBin .shl .u64 (IntKind.u64.wrap (u.getD 2 0)) 32) (IntKind.u64.wrap (u.getD 1 0))) (IntKind.u64.wrap (v.getD 1 0)) ∧ 0 ≤ stdBin .rem .u64 (stdBin .or .u64 (stdBin .shl .u64 (IntKind.u64.wrap (u.getD 2 0)) 32) (IntKind.u64.wrap (u.getD 1 0))) (IntKind.u64.wrap (v.getD 1 0)) ∧
    (stdBin .quo .u64 (stdBin .or .u64 (stdBin .shl .u64 (IntKind.u64.wrap (u.getD 2 0)) 32) (IntKind.u64.wrap (u.getD 1 0))) (IntKind.u64.wrap (v.getD 1 0))).toNat * (v.getD 1 0).toNat + (stdBin .rem .u64 (stdBin .or .u64 (stdBin .shl .u64 (IntKind.u64.wrap (u.getD 2 0)) 32) (IntKind.u64.wrap (u.getD 1 0))) (IntKind.u64.wrap (v.getD 1 0))).toNat = (u.getD 2 0).toNat * 2 ^ 32 + (u.getD 1 0).toNat ∧
    stdBin .rem .u64 (stdBin .or .u64 (stdBin .shl .u64 (IntKind.u64.wrap (u.getD 2 0)) 32) (IntKind.u64.wrap (u.getD 1 0))) (IntKind.u64.wrap (v.getD 1 0)) < 4294967296 ∧ T ≤ (stdBin .quo .u64 (stdBin .or .u64 (stdBin .shl .u64 (IntKind.u64.wrap (u.getD 2 0)) 32) (IntKind.u64.wrap (u.getD 1 0))) (IntKind.u64.wrap (v.getD 1 0))).toNat) ∧ _
  generalize u.getD 2 0 = u2 at *
  generalize u.getD 1 0 = u1 at *
  generalize v.getD 1 0 = v1 at *
  rw [u64_id u2 a2 (by omega), u64_id u1 a1 (by omega), u64_id v1 c1 (by omega), shl32 u2 a2 b2, join32 u2 u1 a2 b2 a1 b1]
  obtain ⟨N, hN⟩ : ∃ N : Int, N = u2 * 4294967296 + u1 := ⟨_, rfl⟩
  have hN2 : u2.toNat * 2 ^ 32 + u1.toNat = N.toNat := by rw [hN]; omega
  have hN0 : 0 ≤ N := by omega
  have hN1 : N < 18446744073709551616 := by omega
  rw [← hN]
  rw [hN2] at first ⊢
  have h1 := Int.emod_nonneg N (show v1 ≠ 0 by omega)
  have h2 := Int.emod_lt_of_pos N (show 0 < v1 by omega)
  have h3 := Int.ediv_nonneg hN0 c1
  have h4 : N / v1 ≤ N := Int.ediv_le_self _ hN0
  have eq : stdBin .quo .u64 N v1 = N / v1 := by
    show IntKind.u64.wrap (N.tdiv v1) = _
    rw [Int.tdiv_eq_ediv_of_nonneg hN0, u64_id _ h3 (by omega)]
  have er : stdBin .rem .u64 N v1 = N % v1 := by
    show N.tmod v1 = _
    rw [Int.tmod_eq_emod_of_nonneg hN0]
  rw [eq, er]
  have e1 : (N / v1).toNat = N.toNat / v1.toNat := by
    have : N / v1 = ((N.toNat / v1.toNat : Nat) : Int) := by rw [Int.natCast_ediv]; congr 1 <;> omega
    rw [this, Int.toNat_natCast]
  have e2 : (N % v1).toNat = N.toNat % v1.toNat := by
    have : N % v1 = ((N.toNat % v1.toNat : Nat) : Int) := by rw [Int.natCast_emod]; congr 1 <;> omega
    rw [this, Int.toNat_natCast]
  rw [e1, e2]
  refine ⟨⟨h3, h1, ?_, by omega, first⟩, ?_⟩
  · rw [Nat.mul_comm]; exact Nat.div_add_mod _ _
  · rw [bne_iff_ne]; omega

theorem guess_round {u v : List Int} (h : GuessOK u v) (A : Alg) (hA : A = stdA) {q r : Int} (hI : GI u v q r) :
    (A.ite (A.cmp .gtr q 4294967295) true (A.cmp .gtr (A.bin .mul .u64 q (A.wrap .u64 (A.get v 0 0))) (A.bin .or .u64 (A.bin .shl .u64 r 32) (A.wrap .u64 (A.get u 0 0)))) = true →
      (A.cmp .gtr (A.bin .add .u64 r (A.wrap .u64 (A.get v 1 0))) 4294967295 = true → A.bin .sub .u64 q 1 = stdV.guess u v) ∧
      (A.cmp .gtr (A.bin .add .u64 r (A.wrap .u64 (A.get v 1 0))) 4294967295 = false → GI u v (A.bin .sub .u64 q 1) (A.bin .add .u64 r (A.wrap .u64 (A.get v 1 0))) ∧ (4294967296 - A.bin .add .u64 r (A.wrap .u64 (A.get v 1 0))).toNat < (4294967296 - r).toNat)) ∧
    (A.ite (A.cmp .gtr q 4294967295) true (A.cmp .gtr (A.bin .mul .u64 q (A.wrap .u64 (A.get v 0 0))) (A.bin .or .u64 (A.bin .shl .u64 r 32) (A.wrap .u64 (A.get u 0 0)))) = false → q = stdV.guess u v) := by
  subst hA
  obtain ⟨a2, b2⟩ := h.wu.getD 2
  obtain ⟨a1, b1⟩ := h.wu.getD 1
  obtain ⟨a0, b0⟩ := h.wu.getD 0
  obtain ⟨c1, d1⟩ := h.wv.getD 1
  obtain ⟨c0, d0⟩ := h.wv.getD 0
  have hv := h.v1
  have huv := h.uv
  obtain ⟨q0, r0, hq, hr, hTq⟩ := hI
  obtain ⟨s1, s2⟩ := guess_in (u.getD 2 0).toNat (u.getD 1 0).toNat (u.getD 0 0).toNat (v.getD 1 0).toNat (v.getD 0 0).toNat q.toNat r.toNat (by omega) (by omega) (by omega) (by omega) (by omega) (kGuess u v) rfl hq (by omega) hTq
  have hres : stdV.guess u v = ((kGuess u v : Nat) : Int) := rfl
  rw [hres]
  unfold GI
  generalize kGuess u v = T at *
  have eadd : stdA.bin .add .u64 r (stdA.wrap .u64 (stdA.get v 1 0)) = r + v.getD 1 0 := by
    show stdBin .add .u64 r (IntKind.u64.wrap (v.getD 1 0)) = _
    rw [u64_id _ c1 (by omega)]
    show IntKind.u64.wrap (r + v.getD 1 0) = _
    exact u64_id _ (by omega) (by omega)
  have ecmp : stdA.cmp .gtr (stdA.bin .add .u64 r (stdA.wrap .u64 (stdA.get v 1 0))) 4294967295 = decide (4294967295 < r + v.getD 1 0) := by rw [eadd]; rfl
  have eor : stdA.bin .or .u64 (stdA.bin .shl .u64 r 32) (stdA.wrap .u64 (stdA.get u 0 0)) = r * 4294967296 + u.getD 0 0 := by
    show stdBin .or .u64 (stdBin .shl .u64 r 32) (IntKind.u64.wrap (u.getD 0 0)) = _
    rw [u64_id _ a0 (by omega), shl32 r r0 hr, join32 r _ r0 hr a0 b0]
  have econd : ∀ b : Bool, stdA.ite (stdA.cmp .gtr q 4294967295) true (stdA.cmp .gtr (stdA.bin .mul .u64 q (stdA.wrap .u64 (stdA.get v 0 0))) (stdA.bin .or .u64 (stdA.bin .shl .u64 r 32) (stdA.wrap .u64 (stdA.get u 0 0)))) = b ↔ decide (4294967295 < q.toNat ∨ r.toNat * 2 ^ 32 + (u.getD 0 0).toNat < q.toNat * (v.getD 0 0).toNat) = b := fun b => by
    have : stdA.ite (stdA.cmp .gtr q 4294967295) true (stdA.cmp .gtr (stdA.bin .mul .u64 q (stdA.wrap .u64 (stdA.get v 0 0))) (stdA.bin .or .u64 (stdA.bin .shl .u64 r 32) (stdA.wrap .u64 (stdA.get u 0 0)))) = decide (4294967295 < q.toNat ∨ r.toNat * 2 ^ 32 + (u.getD 0 0).toNat < q.toNat * (v.getD 0 0).toNat) := by
      rw [eor]
      show (if decide (q > 4294967295) = true then true else decide (stdBin .mul .u64 q (IntKind.u64.wrap (v.getD 0 0)) > r * 4294967296 + u.getD 0 0)) = _
      by_cases hb : q > 4294967295
      · rw [if_pos (decide_eq_true hb)]; exact (decide_eq_true (.inl (by omega))).symm
      · rw [if_neg (by simpa using hb), u64_id _ c0 (by omega)]
        have hm : 0 ≤ q * v.getD 0 0 := Int.mul_nonneg q0 c0
        have hm2 : q * v.getD 0 0 < 18446744073709551616 := by
          have h1 : q * v.getD 0 0 ≤ 4294967295 * v.getD 0 0 := Int.mul_le_mul_of_nonneg_right (by omega) c0
          omega
        have e : stdBin .mul .u64 q (v.getD 0 0) = q * v.getD 0 0 := by
          show IntKind.u64.wrap (q * v.getD 0 0) = _
          exact u64_id _ hm hm2
        rw [e]
        have e2 : ((q.toNat * (v.getD 0 0).toNat : Nat) : Int) = q * v.getD 0 0 := by rw [Int.natCast_mul, Int.toNat_of_nonneg q0, Int.toNat_of_nonneg c0]
        rw [decide_eq_decide]
        generalize q.toNat * (v.getD 0 0).toNat = m at e2 ⊢
        omega
    rw [this]
  rw [econd true, econd false, ecmp, eadd, decide_eq_true_eq, decide_eq_false_iff_not, decide_eq_true_eq, decide_eq_false_iff_not]
  refine ⟨fun hc => ?_, fun hc => ?_⟩
  · obtain ⟨g1, g2, g3, g4⟩ := s1 hc
    have esub : stdA.bin .sub .u64 q 1 = q - 1 := by
      show IntKind.u64.wrap (q - 1) = _
      refine u64_id _ (by omega) ?_
      have : q.toNat ≤ (u.getD 2 0).toNat * 2 ^ 32 + (u.getD 1 0).toNat := by
        have := Nat.le_mul_of_pos_right q.toNat (show 0 < (v.getD 1 0).toNat by omega)
        omega
      omega
    rw [esub]
    have ht : (q - 1).toNat = q.toNat - 1 := by omega
    have ha : (r + v.getD 1 0).toNat = r.toNat + (v.getD 1 0).toNat := by omega
    refine ⟨fun hb => ?_, fun hb => ⟨⟨by omega, by omega, ?_, by omega, by rw [ht]; exact g2⟩, by omega⟩⟩
    · have := g4 (by omega)
      omega
    · rw [ht, ha]; exact g3
  · have := s2 hc
    omega

def gGuess (V : SV) : List CV → List Blk → Option LR
  | [.s (.hs 0), .s (.hs 1)], [.vec false (.int .u32) u, .vec false (.int .u32) v] => some ⟨[V.guessOK u v], .c (.s (.int .u64 (V.guess u v))), []⟩
  | _, _ => none

theorem ok_guess : CallOK Try.prog 92 (heapSem [.s (.int .u32), .s (.int .u32)] stdA (gGuess stdV)) := by
  refine callOK_heap (un := ⟨false, none⟩) tok tN8OK mixed (fn := Try.f92) (by kernel_rfl) (by kernel_rfl) (by kernel_rfl) (by decide +kernel) ?_
  intro w Wr args bs r hg ho hWr A L k hA hL hk
  obtain ⟨S, hS⟩ : ∃ S, S = stdW := ⟨_, rfl⟩
  obtain ⟨V, hV⟩ : ∃ V, V = stdV := ⟨_, rfl⟩
  (try rw [← hS])
  (try rw [← hV])
  (try rw [← hA])
  unfold gGuess at hg
  split at hg
  rotate_left
  · cases hg
  simp only [Option.some.injEq] at hg
  subst hg
  rename_i u v
  have hok := guessOK_of (ho_cons ho).1
  clear ho
  have init := guess_init hok A hA
  have lu : ∀ A2 : Alg, A2 = stdA → ∀ k : Int, k ≤ 2 → A2.cmp .lss k (A2.len u) = true := fun A2 h k hk => by subst h; exact decide_eq_true (by show k < (u.length : Int); have := hok.lu; omega)
  have lv : ∀ A2 : Alg, A2 = stdA → ∀ k : Int, k ≤ 1 → A2.cmp .lss k (A2.len v) = true := fun A2 h k hk => by subst h; exact decide_eq_true (by show k < (v.length : Int); have := hok.lv; omega)
  have ln : ∀ A2 : Alg, A2 = stdA → ∀ k : Int, 0 ≤ k → A2.cmp .leq 0 k = true := fun A2 h k hk => by subst h; exact decide_eq_true hk
  cbv
  repeat' first | (with_reducible intro hb; cbv) | with_reducible refine And.intro ?_ ?_
  all_goals first | exact lu A hA _ (by decide) | exact lv A hA _ (by decide) | exact ln A hA _ (by decide) | exact init.2 | skip
  refine hL _ _ _ (loop_rule (un := ⟨false, none⟩) tok tN8OK mixed (fun p : Int × Int => ⟨[(6, ⟨[], .c (.s (.int .u64 p.1))⟩), (7, ⟨[], .c (.s (.int .u64 p.2))⟩), (0, ⟨[], .c (.s (.hs 0))⟩), (1, ⟨[], .c (.s (.hs 1))⟩)], [(0, .vec false (.int .u32) u), (1, .vec false (.int .u32) v)], 2⟩)
    (fun p => GI u v p.1 p.2) (fun p => (4294967296 - p.2).toNat) (_, _) init.1 ?_ (fun _ i hi => by have := hWr i hi; simp at this ⊢; omega) ?_)
  · exact ⟨⟨⟨rfl, rfl, fun _ => rfl⟩, ⟨rfl, rfl, fun _ => rfl⟩, ⟨rfl, rfl, fun _ => rfl⟩, ⟨rfl, rfl, fun _ => rfl⟩, trivial⟩, ⟨leRefl rfl, leRefl rfl, trivial⟩, rfl, rfl⟩
  clear init
  rintro ⟨q, r⟩ hI A2 L2 k2 hA2 hL2 hnext hexit hret
  have st := guess_round hok A2 hA2 hI
  have im : ∀ a b : Bool, b = true → A2.imp a b = true := fun a b h => by subst hA2 h; show (!a || true) = true; simp
  rw [← hA2, ← hS, ← hV]
  cbv
  repeat' first | (with_reducible intro hb; cbv) | with_reducible refine And.intro ?_ ?_
  all_goals first | exact im _ _ (lu A2 hA2 _ (by decide)) | exact im _ _ (lv A2 hA2 _ (by decide)) | exact im _ _ (ln A2 hA2 _ (by decide)) | exact lv A2 hA2 _ (by decide) | exact ln A2 hA2 _ (by decide) | skip
  · rename_i hb0
    apply hexit
    have hM := (st.1 hb0).1 hb
    clear hexit hnext hret st
    cbv
    refine hk _ _ (Good.pure rfl fun ρ => ?_)
    subst hV
    exact ret1 hM
  · rename_i hb0
    obtain ⟨g1, g2⟩ := (st.1 hb0).2 hb
    exact hnext _ (_, _) g1 g2 ⟨⟨⟨rfl, rfl, fun _ => rfl⟩, ⟨rfl, rfl, fun _ => rfl⟩, ⟨rfl, rfl, fun _ => rfl⟩, ⟨rfl, rfl, fun _ => rfl⟩, trivial⟩, ⟨leRefl rfl, leRefl rfl, trivial⟩, rfl, rfl⟩
  · apply hexit
    have hM := st.2 hb
    clear hexit hnext hret st
    cbv
    refine hk _ _ (Good.pure rfl fun ρ => ?_)
    subst hV
    exact ret1 hM

def tN9 (A : Alg) (S : SW) (V : SV) : List (Nat × Sem') := (92, heapSem [.s (.int .u32), .s (.int .u32)] A (gGuess V)) :: ((tN8 A S V))
theorem tN9OK : COK Try.prog (look (tN9 stdA stdW stdV)) := COK_cons ok_guess (tN8OK)
end Go.Eng
