/- Contracts: the reference's whole numbers, points. -/
import Derived.Test.YtlcplkldielemaaCW6
namespace Go.Eng
open Go.Proofs
set_option maxRecDepth 100000
set_option linter.all false
set_option exponentiation.threshold 3000

def tC9 (A : Alg) (S : SW) (R : SR) (X : SX) : List (Nat × Sem') := (48, heapSem [.s (.int .u32)] A (gTrim A X)) :: ((tC8 A S R))
theorem tC9OK : COK Try.prog (look (tC9 stdA stdW stdR stdX)) := COK_cons ok_trim (tC8OK)

def gWide (A : Alg) (X : SX) : List CV → List Blk → Option LR
  | [.s (.bool b), .s (.hs 0)], [.vec false (.int .u32) l] => some ⟨[A.cmp .lss (A.len l) 1000000, X.rng l], .t [.g [.W (X.wV b l)], .s (.bool (X.wOK l))], []⟩
  | _, _ => none

theorem tld_zero (b : Bool) (l : List Int) (h : tlen l ≠ 0) (hr : inR l) (h32 : tlen l ≤ 32) : tld b (mk1024 (magN l)) = ⟨b, mk1024 (magN l)⟩ := by
  have h1 := magN_ge hr h
  have h2 := Nat.two_pow_pos (32 * (tlen l - 1))
  have h3 : magN l < 2 ^ 1024 := lt_pow (magN_tlen_lt hr) (by omega)
  have e : (mk1024 (magN l)).n = magN l := Nat.mod_eq_of_lt h3
  unfold tld
  rw [e, decide_eq_true (show magN l ≠ 0 by omega), Bool.and_true]

theorem ok_wide : CallOK Try.prog 38 (heapSem [.v, .s (.int .u32)] stdA (gWide stdA stdX)) := by
  refine callOK_heap (un := ⟨false, none⟩) tok tC9OK mixed (fn := Try.f38) (by kernel_rfl) (by kernel_rfl) (by kernel_rfl) (by decide +kernel) ?_
  intro w Wr args bs r hg ho hWr A L k hA hL hk
  obtain ⟨R, hR⟩ : ∃ R, R = stdR := ⟨_, rfl⟩
  obtain ⟨S, hS⟩ : ∃ S, S = stdW := ⟨_, rfl⟩
  obtain ⟨X, hX⟩ : ∃ X, X = stdX := ⟨_, rfl⟩
  (try rw [← hR])
  (try rw [← hS])
  (try rw [← hX])
  (try rw [← hA])
  unfold gWide at hg
  split at hg
  rotate_left
  · cases hg
  simp only [Option.some.injEq] at hg
  subst hg
  rename_i b l
  change List Int at l
  have hlen : (l.length : Int) < 1000000 := of_decide_eq_true (ho _ (by simp [stdA, stdCmp]))
  have hr : inR l := rng_iff.1 (ho _ (by simp [stdX]))
  have ht := tlen_le l
  have hT0 : (0 : Int) ≤ ((tlen l : Nat) : Int) := by omega
  cbv
  repeat' first | (with_reducible intro hb; cbv) | with_reducible refine And.intro ?_ ?_
  · (try clear hk); (try clear hL); (try clear hexit hnext hret); (try clear hexit2 hnext2 hret2); (try clear hL2); (try clear hL3); (try clear hexit3 hnext3 hret3); (try subst hA3); (try subst hA2); (try subst hA); (try simp only [toZn] at *); (try simp only [zn] at *); (try simp only [stdA, stdCmp, stdBin, Bool.if_false_right, Bool.if_true_left, Bool.decide_eq_true, Bool.and_eq_false_iff, Bool.or_eq_false_iff, IntKind.wrap_i64, IntKind.wrap_u32, IntKind.wrap_u8, w_u64, Int.zero_add, Int.sub_zero, ofNat_cast, beq_true, Bool.or_eq_true, Bool.and_eq_true, Bool.not_eq_true', decide_eq_true_eq, decide_eq_false_iff_not, beq_iff_eq, bne_iff_ne, beq_eq_false_iff_ne, ne_eq, if_true, if_false] at *); omega
  · (try clear hk); (try clear hL); (try clear hexit hnext hret); (try clear hexit2 hnext2 hret2); (try clear hL2); (try clear hL3); (try clear hexit3 hnext3 hret3); (try subst hA3); (try subst hA2); (try subst hA); (try simp only [toZn] at *); (try simp only [zn] at *); (try simp only [stdA, stdCmp, stdBin, Bool.if_false_right, Bool.if_true_left, Bool.decide_eq_true, Bool.and_eq_false_iff, Bool.or_eq_false_iff, IntKind.wrap_i64, IntKind.wrap_u32, IntKind.wrap_u8, w_u64, Int.zero_add, Int.sub_zero, ofNat_cast, beq_true, Bool.or_eq_true, Bool.and_eq_true, Bool.not_eq_true', decide_eq_true_eq, decide_eq_false_iff_not, beq_iff_eq, bne_iff_ne, beq_eq_false_iff_ne, ne_eq, if_true, if_false] at *); omega
  · subst hX; (try clear hk); (try clear hL); (try clear hexit hnext hret); (try clear hexit2 hnext2 hret2); (try clear hL2); (try clear hL3); (try clear hexit3 hnext3 hret3); subst hA; exact decide_eq_true hT0
  · have hb : decide (((tlen l : Nat) : Int) - 0 > 32) = true := by rw [hA, hX] at hb; exact hb
    simp only [decide_eq_true_eq] at hb
    refine hk _ _ (Good.pure rfl fun ρ => ?_)
    show Value.tuple #[.agg (flats ρ [.W ⟨false, Dg.zero⟩]).toArray, .bool false] = .tuple #[.agg (flats ρ [.W (stdX.wV b l)]).toArray, .bool (stdX.wOK l)]
    have e1 : stdX.wV b l = ⟨false, Dg.zero⟩ := if_neg (by omega)
    have e2 : stdX.wOK l = false := decide_eq_false (by omega)
    rw [e1, e2]
  · subst hX; (try clear hk); (try clear hL); (try clear hexit hnext hret); (try clear hexit2 hnext2 hret2); (try clear hL2); (try clear hL3); (try clear hexit3 hnext3 hret3); subst hA; cases b <;> rfl
  · subst hX; (try clear hk); (try clear hL); (try clear hexit hnext hret); (try clear hexit2 hnext2 hret2); (try clear hL2); (try clear hL3); (try clear hexit3 hnext3 hret3); subst hA; cases b
    · rfl
    · exact decide_eq_true hT0
  · have hb : decide (((tlen l : Nat) : Int) - 0 > 32) = false := by rw [hA, hX] at hb; exact hb
    simp only [decide_eq_false_iff_not] at hb
    have h32 : tlen l ≤ 32 := by omega
    have hlt := lt_pow (magN_tlen_lt hr) (show 32 * tlen l ≤ 1024 by omega)
    obtain ⟨D, hD⟩ : ∃ D : Int → Dg, ∀ i, D i = mk1024 (magN (l.take i.toNat)) := ⟨_, fun _ => rfl⟩
    obtain ⟨T, hT⟩ : ∃ T : Int, T = ((tlen l : Nat) : Int) := ⟨_, rfl⟩
    obtain ⟨c, hc⟩ : ∃ c : Bool, c = (b && decide (tlen l ≠ 0)) := ⟨_, rfl⟩
    refine hL _ _ _ (loop_rule (un := ⟨false, none⟩) tok tC9OK mixed (fun i : Int => ⟨[(8, ⟨[], .c (.s (.int .i64 i))⟩), (6, ⟨[], .c (.s (.hw 0 1 0 T))⟩), (7, ⟨[], .c (.s (.hp 2 0))⟩), (4, ⟨[], .c (.s (.hp 1 0))⟩)], [(0, .vec false (.int .u32) l), (1, .fix true [.W ⟨false, Dg.zero⟩]), (2, .fix true [.W ⟨c, D i⟩])], 3⟩)
      (fun i => 0 ≤ i ∧ i ≤ T) (fun i => (T - i).toNat) 0 ?_ ?_ (fun _ i hi => by have := hWr i hi; simp only [List.length_cons, List.length_nil] at this; show i < 3; omega) ?_)
    · exact ⟨by omega, by omega⟩
    · have e1 : (A.ite b (A.cmp .gtr (A.isub (X.tlen l) 0) 0) false) = c := by
        rw [hA, hX, hc]
        show (if b = true then decide (((tlen l : Nat) : Int) - 0 > 0) else false) = _
        cases b
        · rfl
        · simp only [if_true, Bool.true_and, decide_eq_decide]; omega
      have e2 : D 0 = Dg.zero := by rw [hD]; show mk1024 (magN (l.take 0)) = _; rw [List.take_zero]; rfl
      have e3 : X.tlen l = T := by rw [hX, hT]; rfl
      refine ⟨⟨⟨rfl, rfl, fun _ => rfl⟩, ⟨rfl, rfl, fun ρ => by rw [← e3]⟩, ⟨rfl, rfl, fun _ => rfl⟩, ⟨rfl, rfl, fun _ => rfl⟩, trivial⟩, ⟨⟨rfl, rfl, rfl, rfl, fun h => h⟩, ⟨rfl, rfl, fun _ => rfl⟩, ⟨rfl, rfl, fun ρ => ?_⟩, trivial⟩, rfl, rfl⟩
      show flats ρ [.W ⟨A.ite b (A.cmp .gtr (A.isub (X.tlen l) 0) 0) false, Dg.zero⟩] = _
      rw [e1, e2]
    intro i hI A2 L2 k2 hA2 hL2 hnext hexit hret
    cbv
    repeat' first | (with_reducible intro hb; cbv) | with_reducible refine And.intro ?_ ?_
    all_goals obtain ⟨i0, i1⟩ := hI
    all_goals have hw := hr.at i.toNat
    all_goals try ((try clear hk); (try clear hL); (try clear hexit hnext hret); (try clear hexit2 hnext2 hret2); (try clear hL2); (try clear hL3); (try clear hexit3 hnext3 hret3); (try subst hA3); (try subst hA2); (try subst hA); (try simp only [toZn] at *); (try simp only [zn] at *); (try simp only [stdA, stdCmp, stdBin, Bool.if_false_right, Bool.if_true_left, Bool.decide_eq_true, Bool.and_eq_false_iff, Bool.or_eq_false_iff, IntKind.wrap_i64, IntKind.wrap_u32, IntKind.wrap_u8, w_u64, Int.zero_add, Int.sub_zero, ofNat_cast, beq_true, Bool.or_eq_true, Bool.and_eq_true, Bool.not_eq_true', decide_eq_true_eq, decide_eq_false_iff_not, beq_iff_eq, bne_iff_ne, beq_eq_false_iff_ne, ne_eq, if_true, if_false] at *); omega)
    · have e4 : A2.bin .add .i64 i 1 = i + 1 := by (try clear hk); (try clear hL); (try clear hexit hnext hret); (try clear hexit2 hnext2 hret2); (try clear hL2); (try clear hL3); (try clear hexit3 hnext3 hret3); (try subst hA3); (try subst hA2); (try subst hA); (try simp only [toZn] at *); (try simp only [zn] at *); (try simp only [stdA, stdCmp, stdBin, Bool.if_false_right, Bool.if_true_left, Bool.decide_eq_true, Bool.and_eq_false_iff, Bool.or_eq_false_iff, IntKind.wrap_i64, IntKind.wrap_u32, IntKind.wrap_u8, w_u64, Int.zero_add, Int.sub_zero, ofNat_cast, beq_true, Bool.or_eq_true, Bool.and_eq_true, Bool.not_eq_true', decide_eq_true_eq, decide_eq_false_iff_not, beq_iff_eq, bne_iff_ne, beq_eq_false_iff_ne, ne_eq, if_true, if_false] at *); omega
      have e5 : A2.setD (D i) i (A2.get l (A2.iadd 0 i) 0) = D (i + 1) := by
        (try clear hk); (try clear hL); (try clear hexit hnext hret); (try clear hexit2 hnext2 hret2); (try clear hL2); (try clear hL3); (try clear hexit3 hnext3 hret3)
        simp only [stdA, stdCmp, decide_eq_true_eq, hA2] at hb
        rw [hD, hD, hA2]
        (try simp only [toZn] at *); (try simp only [zn] at *)
        show (mk1024 (magN (l.take i.toNat))).set i.toNat (l.getD (0 + i).toNat 0).toNat = mk1024 (magN (l.take (i + 1).toNat))
        have ht := tlen_le l
        rw [Int.zero_add, show (i + 1).toNat = i.toNat + 1 from by omega, magN_set l hr i.toNat (by omega) (by omega)]
      refine hnext _ (i + 1) ?_ ?_ ⟨⟨⟨rfl, rfl, fun ρ => congrArg (Value.int .i64) e4⟩, ⟨rfl, rfl, fun _ => rfl⟩, ⟨rfl, rfl, fun _ => rfl⟩, ⟨rfl, rfl, fun _ => rfl⟩, trivial⟩, ⟨⟨rfl, rfl, rfl, rfl, fun h => h⟩, ⟨rfl, rfl, fun _ => rfl⟩, ⟨rfl, rfl, fun ρ => congrArg (fun d => flats ρ [.W ⟨c, d⟩]) e5⟩, trivial⟩, rfl, rfl⟩
      · (try clear hk); (try clear hL); (try clear hexit hnext hret); (try clear hexit2 hnext2 hret2); (try clear hL2); (try clear hL3); (try clear hexit3 hnext3 hret3); clear e4 e5; subst hA2; (try simp only [toZn] at *); (try simp only [zn] at *); (try simp only [stdA, stdCmp, stdBin, Bool.if_false_right, Bool.if_true_left, Bool.decide_eq_true, Bool.and_eq_false_iff, Bool.or_eq_false_iff, IntKind.wrap_i64, IntKind.wrap_u32, IntKind.wrap_u8, w_u64, Int.zero_add, Int.sub_zero, ofNat_cast, beq_true, Bool.or_eq_true, Bool.and_eq_true, Bool.not_eq_true', decide_eq_true_eq, decide_eq_false_iff_not, beq_iff_eq, bne_iff_ne, beq_eq_false_iff_ne, ne_eq, if_true, if_false] at *); omega
      · simp only [stdA, stdCmp, decide_eq_true_eq, hA2] at hb
        show (T - (i + 1)).toNat < (T - i).toNat; omega
    · apply hexit
      have hx : i = T := by (try clear hk); (try clear hL); (try clear hexit hnext hret); (try clear hexit2 hnext2 hret2); (try clear hL2); (try clear hL3); (try clear hexit3 hnext3 hret3); (try subst hA3); (try subst hA2); (try subst hA); (try simp only [toZn] at *); (try simp only [zn] at *); (try simp only [stdA, stdCmp, stdBin, Bool.if_false_right, Bool.if_true_left, Bool.decide_eq_true, Bool.and_eq_false_iff, Bool.or_eq_false_iff, IntKind.wrap_i64, IntKind.wrap_u32, IntKind.wrap_u8, w_u64, Int.zero_add, Int.sub_zero, ofNat_cast, beq_true, Bool.or_eq_true, Bool.and_eq_true, Bool.not_eq_true', decide_eq_true_eq, decide_eq_false_iff_not, beq_iff_eq, bne_iff_ne, beq_eq_false_iff_ne, ne_eq, if_true, if_false] at *); omega
      cbv
      repeat' first | (with_reducible intro hb; cbv) | with_reducible refine And.intro ?_ ?_
      refine hk _ _ (Good.pure rfl fun ρ => ?_)
      show Value.tuple #[.agg (flats ρ [.W ⟨c, D i⟩]).toArray, .bool true] = .tuple #[.agg (flats ρ [.W (stdX.wV b l)]).toArray, .bool (stdX.wOK l)]
      have e1 : stdX.wV b l = ⟨c, D i⟩ := by
        show (if tlen l ≤ 32 then tld b (mk1024 (magN l)) else _) = _
        rw [if_pos h32, hc, hD, hx, hT, Int.toNat_natCast, magN_trim]
        by_cases h0 : tlen l = 0
        · have : magN l = 0 := by have := magN_tlen_lt hr; rw [h0] at this; simpa using this
          rw [this, h0]; cases b <;> rfl
        · rw [tld_zero b l h0 hr h32, decide_eq_true (by exact h0), Bool.and_true]
      have e2 : stdX.wOK l = true := decide_eq_true h32
      rw [e1, e2]
end Go.Eng
