/- Contracts: the reference's whole numbers. -/
import Derived.Test.YtlcplkldielemaaCW5
import Derived.Test.YtlcplkldielemaaSpecX
namespace Go.Eng
open Go.Proofs
set_option maxRecDepth 100000
set_option linter.all false
set_option exponentiation.threshold 3000

structure SX where
  tlen : List Int → Int
  rng : List Int → Bool
  wOK : List Int → Bool
  wV : Bool → List Int → Wd

def stdX : SX where
  tlen l := ((Eng.tlen l : Nat) : Int)
  rng := Eng.rng
  wOK l := decide (Eng.tlen l ≤ 32)
  wV b l := if Eng.tlen l ≤ 32 then tld b (mk1024 (magN l)) else ⟨false, Dg.zero⟩

def gTrim (A : Alg) (X : SX) : List CV → List Blk → Option LR
  | [.s (.hs 0)], [.vec false (.int .u32) l] => some ⟨[A.cmp .lss (A.len l) 1000000], .c (.s (.hw 0 1 0 (X.tlen l))), []⟩
  | _, _ => none

theorem ok_trim : CallOK Try.prog 48 (heapSem [.s (.int .u32)] stdA (gTrim stdA stdX)) := by
  refine callOK_heap (un := ⟨false, none⟩) tok noCOK mixed (fn := Try.f48) (by kernel_rfl) (by kernel_rfl) (by kernel_rfl) (by decide +kernel) ?_
  intro w Wr args bs r hg ho hWr A L k hA hL hk
  obtain ⟨X, hX⟩ : ∃ X, X = stdX := ⟨_, rfl⟩
  (try rw [← hX])
  (try rw [← hA])
  unfold gTrim at hg
  split at hg
  rotate_left
  · cases hg
  simp only [Option.some.injEq] at hg
  subst hg
  rename_i l
  change List Int at l
  have hlen : (l.length : Int) < 1000000 := of_decide_eq_true (ho _ (by simp [stdA, stdCmp]))
  cbv
  refine hL _ _ _ (loop_rule (un := ⟨false, none⟩) tok noCOK mixed (fun n : Int => ⟨[(3, ⟨[], .c (.s (.int .i64 n))⟩), (2, ⟨[], .c (.s .nils)⟩), (0, ⟨[], .c (.s (.hs 0))⟩)], [(0, .vec false (.int .u32) l)], 1⟩)
    (fun n => 0 ≤ n ∧ n ≤ l.length ∧ ∀ i, n.toNat ≤ i → i < l.length → l.getD i 0 = 0) (fun n => n.toNat) (A.len l) ?_ ?_ (fun _ i hi => hWr i hi) ?_)
  · rw [hA]
    refine ⟨?_, ?_, fun i h1 h2 => ?_⟩
    · show 0 ≤ (l.length : Int); omega
    · show (l.length : Int) ≤ l.length; omega
    · have h1 : ((l.length : Int)).toNat ≤ i := h1
      omega
  · exact ⟨⟨⟨rfl, rfl, fun _ => rfl⟩, ⟨rfl, rfl, fun _ => rfl⟩, ⟨rfl, rfl, fun _ => rfl⟩, trivial⟩, ⟨⟨rfl, rfl, rfl, rfl, fun h => h⟩, trivial⟩, rfl, rfl⟩
  intro n hI A2 L2 k2 hA2 hL2 hnext hexit hret
  obtain ⟨h0, h1, h2⟩ := hI
  cbv
  repeat' first | (with_reducible intro hb; cbv) | with_reducible refine And.intro ?_ ?_
  · (try clear hk); (try clear hL); (try clear hexit hnext hret); (try clear hexit2 hnext2 hret2); (try clear hL2); (try clear hL3); (try clear hexit3 hnext3 hret3); (try subst hA3); (try subst hA2); (try subst hA); (try simp only [toZn] at *); (try simp only [zn] at *); (try simp only [stdA, stdCmp, stdBin, Bool.if_false_right, Bool.if_true_left, Bool.decide_eq_true, Bool.and_eq_false_iff, Bool.or_eq_false_iff, IntKind.wrap_i64, IntKind.wrap_u32, IntKind.wrap_u8, w_u64, Int.zero_add, Int.sub_zero, ofNat_cast, beq_true, Bool.or_eq_true, Bool.and_eq_true, Bool.not_eq_true', decide_eq_true_eq, decide_eq_false_iff_not, beq_iff_eq, bne_iff_ne, beq_eq_false_iff_ne, ne_eq, if_true, if_false] at *); omega
  · (try clear hk); (try clear hL); (try clear hexit hnext hret); (try clear hexit2 hnext2 hret2); (try clear hL2); (try clear hL3); (try clear hexit3 hnext3 hret3); (try subst hA3); (try subst hA2); (try subst hA); (try simp only [toZn] at *); (try simp only [zn] at *); (try simp only [stdA, stdCmp, stdBin, Bool.if_false_right, Bool.if_true_left, Bool.decide_eq_true, Bool.and_eq_false_iff, Bool.or_eq_false_iff, IntKind.wrap_i64, IntKind.wrap_u32, IntKind.wrap_u8, w_u64, Int.zero_add, Int.sub_zero, ofNat_cast, beq_true, Bool.or_eq_true, Bool.and_eq_true, Bool.not_eq_true', decide_eq_true_eq, decide_eq_false_iff_not, beq_iff_eq, bne_iff_ne, beq_eq_false_iff_ne, ne_eq, if_true, if_false] at *); omega
  · (try clear hk); (try clear hL); (try clear hexit hnext hret); (try clear hexit2 hnext2 hret2); (try clear hL2); (try clear hL3); (try clear hexit3 hnext3 hret3); (try subst hA3); (try subst hA2); (try subst hA); (try simp only [toZn] at *); (try simp only [zn] at *); (try simp only [stdA, stdCmp, stdBin, Bool.if_false_right, Bool.if_true_left, Bool.decide_eq_true, Bool.and_eq_false_iff, Bool.or_eq_false_iff, IntKind.wrap_i64, IntKind.wrap_u32, IntKind.wrap_u8, w_u64, Int.zero_add, Int.sub_zero, ofNat_cast, beq_true, Bool.or_eq_true, Bool.and_eq_true, Bool.not_eq_true', decide_eq_true_eq, decide_eq_false_iff_not, beq_iff_eq, bne_iff_ne, beq_eq_false_iff_ne, ne_eq, if_true, if_false] at *); omega
  · (try clear hk); (try clear hL); (try clear hexit hnext hret); (try clear hexit2 hnext2 hret2); (try clear hL2); (try clear hL3); (try clear hexit3 hnext3 hret3); (try subst hA3); (try subst hA2); (try subst hA); (try simp only [toZn] at *); (try simp only [zn] at *); (try simp only [stdA, stdCmp, stdBin, Bool.if_false_right, Bool.if_true_left, Bool.decide_eq_true, Bool.and_eq_false_iff, Bool.or_eq_false_iff, IntKind.wrap_i64, IntKind.wrap_u32, IntKind.wrap_u8, w_u64, Int.zero_add, Int.sub_zero, ofNat_cast, beq_true, Bool.or_eq_true, Bool.and_eq_true, Bool.not_eq_true', decide_eq_true_eq, decide_eq_false_iff_not, beq_iff_eq, bne_iff_ne, beq_eq_false_iff_ne, ne_eq, if_true, if_false] at *); omega
  · have hs : A2.bin .sub .i64 n 1 = n - 1 := by (try clear hk); (try clear hL); (try clear hexit hnext hret); (try clear hexit2 hnext2 hret2); (try clear hL2); (try clear hL3); (try clear hexit3 hnext3 hret3); (try subst hA3); (try subst hA2); (try subst hA); (try simp only [toZn] at *); (try simp only [zn] at *); (try simp only [stdA, stdCmp, stdBin, Bool.if_false_right, Bool.if_true_left, Bool.decide_eq_true, Bool.and_eq_false_iff, Bool.or_eq_false_iff, IntKind.wrap_i64, IntKind.wrap_u32, IntKind.wrap_u8, w_u64, Int.zero_add, Int.sub_zero, ofNat_cast, beq_true, Bool.or_eq_true, Bool.and_eq_true, Bool.not_eq_true', decide_eq_true_eq, decide_eq_false_iff_not, beq_iff_eq, bne_iff_ne, beq_eq_false_iff_ne, ne_eq, if_true, if_false] at *); omega
    simp only [hs] at hb ⊢
    rw [hA2] at hb
    have hb : (if decide (n > 0) = true then (l.getD (n - 1).toNat 0 == 0) else false) = true := hb
    split at hb
    · rename_i hn
      simp only [decide_eq_true_eq, beq_iff_eq] at hn hb
      refine hnext _ (n - 1) ?_ ?_ ?_
      · clear hexit hnext hret hL hL2 hk
        (try simp only [toZn] at *); (try simp only [zn] at *)
        refine ⟨by omega, by omega, fun i h3 h4 => ?_⟩
        by_cases hi : i = (n - 1).toNat
        · rw [hi]; exact hb
        · exact h2 i (by omega) h4
      · show (n - 1).toNat < n.toNat; omega
      · exact ⟨⟨⟨rfl, rfl, fun _ => rfl⟩, ⟨rfl, rfl, fun _ => rfl⟩, ⟨rfl, rfl, fun _ => rfl⟩, trivial⟩, ⟨⟨rfl, rfl, rfl, rfl, fun h => h⟩, trivial⟩, rfl, rfl⟩
    · cases hb
  · have hs : A2.bin .sub .i64 n 1 = n - 1 := by (try clear hk); (try clear hL); (try clear hexit hnext hret); (try clear hexit2 hnext2 hret2); (try clear hL2); (try clear hL3); (try clear hexit3 hnext3 hret3); (try subst hA3); (try subst hA2); (try subst hA); (try simp only [toZn] at *); (try simp only [zn] at *); (try simp only [stdA, stdCmp, stdBin, Bool.if_false_right, Bool.if_true_left, Bool.decide_eq_true, Bool.and_eq_false_iff, Bool.or_eq_false_iff, IntKind.wrap_i64, IntKind.wrap_u32, IntKind.wrap_u8, w_u64, Int.zero_add, Int.sub_zero, ofNat_cast, beq_true, Bool.or_eq_true, Bool.and_eq_true, Bool.not_eq_true', decide_eq_true_eq, decide_eq_false_iff_not, beq_iff_eq, bne_iff_ne, beq_eq_false_iff_ne, ne_eq, if_true, if_false] at *); omega
    simp only [hs] at hb
    rw [hA2] at hb
    have hb : (if decide (n > 0) = true then (l.getD (n - 1).toNat 0 == 0) else false) = false := hb
    apply hexit
    cbv
    repeat' first | (with_reducible intro hb; cbv) | with_reducible refine And.intro ?_ ?_
    · (try clear hk); (try clear hL); (try clear hexit hnext hret); (try clear hexit2 hnext2 hret2); (try clear hL2); (try clear hL3); (try clear hexit3 hnext3 hret3); (try subst hA3); (try subst hA2); (try subst hA); (try simp only [toZn] at *); (try simp only [zn] at *); (try simp only [stdA, stdCmp, stdBin, Bool.if_false_right, Bool.if_true_left, Bool.decide_eq_true, Bool.and_eq_false_iff, Bool.or_eq_false_iff, IntKind.wrap_i64, IntKind.wrap_u32, IntKind.wrap_u8, w_u64, Int.zero_add, Int.sub_zero, ofNat_cast, beq_true, Bool.or_eq_true, Bool.and_eq_true, Bool.not_eq_true', decide_eq_true_eq, decide_eq_false_iff_not, beq_iff_eq, bne_iff_ne, beq_eq_false_iff_ne, ne_eq, if_true, if_false] at *); omega
    · (try clear hk); (try clear hL); (try clear hexit hnext hret); (try clear hexit2 hnext2 hret2); (try clear hL2); (try clear hL3); (try clear hexit3 hnext3 hret3); (try subst hA3); (try subst hA2); (try subst hA); (try simp only [toZn] at *); (try simp only [zn] at *); (try simp only [stdA, stdCmp, stdBin, Bool.if_false_right, Bool.if_true_left, Bool.decide_eq_true, Bool.and_eq_false_iff, Bool.or_eq_false_iff, IntKind.wrap_i64, IntKind.wrap_u32, IntKind.wrap_u8, w_u64, Int.zero_add, Int.sub_zero, ofNat_cast, beq_true, Bool.or_eq_true, Bool.and_eq_true, Bool.not_eq_true', decide_eq_true_eq, decide_eq_false_iff_not, beq_iff_eq, bne_iff_ne, beq_eq_false_iff_ne, ne_eq, if_true, if_false] at *); omega
    · (try clear hk); (try clear hL); (try clear hexit hnext hret); (try clear hexit2 hnext2 hret2); (try clear hL2); (try clear hL3); (try clear hexit3 hnext3 hret3); (try subst hA3); (try subst hA2); (try subst hA); (try simp only [toZn] at *); (try simp only [zn] at *); (try simp only [stdA, stdCmp, stdBin, Bool.if_false_right, Bool.if_true_left, Bool.decide_eq_true, Bool.and_eq_false_iff, Bool.or_eq_false_iff, IntKind.wrap_i64, IntKind.wrap_u32, IntKind.wrap_u8, w_u64, Int.zero_add, Int.sub_zero, ofNat_cast, beq_true, Bool.or_eq_true, Bool.and_eq_true, Bool.not_eq_true', decide_eq_true_eq, decide_eq_false_iff_not, beq_iff_eq, bne_iff_ne, beq_eq_false_iff_ne, ne_eq, if_true, if_false] at *); omega
    · refine hk _ _ (Good.pure rfl fun ρ => ?_)
      clear hexit hnext hret hL hL2 hk
      subst hX
      have : n = ((tlen l : Nat) : Int) := by
        (try simp only [toZn] at *); (try simp only [zn] at *)
        rw [tlen_of l n.toNat (by omega) h2]
        · omega
        · split at hb
          · rename_i hn
            simp only [decide_eq_true_eq, beq_eq_false_iff_ne, ne_eq] at hn hb
            right; rw [show n.toNat - 1 = (n - 1).toNat from by omega]; exact hb
          · rename_i hn
            simp only [decide_eq_true_eq] at hn
            left; omega
      show (Sc.hw 0 1 0 n).den ρ = (Sc.hw 0 1 0 ((tlen l : Nat) : Int)).den ρ
      rw [← this]
end Go.Eng
