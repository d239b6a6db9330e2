/- Contracts: whole numbers, DivMod. -/
import Derived.Test.YtmajpppjakdodaaCN8
import Derived.Test.YtmajpppjakdodaaSpecNA
namespace Go.Eng
open Go.Proofs
set_option maxRecDepth 100000
set_option linter.all false
set_option exponentiation.threshold 3000

def gDivMod (V : SV) : List CV → List Blk → Option LR
  | [.g [.W x], .g [.W y]], [] => some ⟨[], .t [.g [.W (V.dmQ x y)], .g [.W (V.dmR x y)], .s (.bool (V.dmOK y))], []⟩
  | _, _ => none

theorem dm_word (x y : Wd) (A : Alg) (hA : A = stdA) (V : SV) (hV : V = stdV) (S : SW) (hS : S = stdW) (hb : A.cmp .eql (S.size y.d) 1 = true) :
    A.cmp .leq 1 (A.dig y.d 0) = true ∧ A.cmp .lss (A.dig y.d 0) 4294967296 = true ∧ A.cmp .leq 0 (V.byR x.d (A.dig y.d 0)) = true ∧ A.cmp .lss (V.byR x.d (A.dig y.d 0)) 4294967296 = true ∧
    V.byQ x.d (A.dig y.d 0) = V.divQ x.d y.d ∧ A.setD Dg.zero 0 (V.byR x.d (A.dig y.d 0)) = V.divR x.d y.d := by
  subst hA hV hS
  have hb : ((dSize y.d : Int) == 1) = true := hb
  rw [beq_iff_eq] at hb
  obtain ⟨h1, h2, h3⟩ := one_word y.d (by omega)
  have hm := Nat.mod_lt x.d.n (show 0 < y.d.n by omega)
  have e : stdA.dig y.d 0 = (y.d.n : Int) := by show ((y.d.dig 0 : Nat) : Int) = _; rw [h3]
  have er : stdV.byR x.d (y.d.n : Int) = ((x.d.n % y.d.n : Nat) : Int) := by show ((x.d.n % (y.d.n : Int).toNat : Nat) : Int) = _; rw [Int.toNat_natCast]
  rw [e, er]
  have k : ∀ z : Int, 1 ≤ z → stdA.cmp .leq 1 z = true := fun z h => decide_eq_true h
  refine ⟨k _ (by omega), (word_ok _ (by omega) (by omega)).2, (word_ok _ (by omega) (by omega)).1, (word_ok _ (by omega) (by omega)).2, ?_, ?_⟩
  · exact Dg.ext' (by show x.d.n / (y.d.n : Int).toNat = _; rw [Int.toNat_natCast]; rfl)
  · apply Dg.ext'
    show (Dg.zero.set 0 ((x.d.n % y.d.n : Nat) : Int).toNat).n = x.d.n % y.d.n
    rw [Int.toNat_natCast]; exact zero_set _ (by omega)

theorem dm_big (x y : Wd) (A : Alg) (hA : A = stdA) (V : SV) (hV : V = stdV) (S : SW) (hS : S = stdW) (h0 : A.cmp .eql (S.size y.d) 0 = false) (h1 : A.cmp .lss (S.dcmp x.d y.d) 0 = false) (hb : A.cmp .eql (S.size y.d) 1 = false) :
    V.two y.d = true ∧ V.leD y.d x.d = true := by
  subst hA hV hS
  have h0 : ((dSize y.d : Int) == 0) = false := h0
  have hb : ((dSize y.d : Int) == 1) = false := hb
  have h1 : decide (sgn x.d.n y.d.n < 0) = false := h1
  rw [sgn_lt, decide_eq_false_iff_not] at h1
  rw [beq_eq_false_iff_ne] at h0 hb
  refine ⟨decide_eq_true ?_, decide_eq_true (by omega)⟩
  have := dSize_le y.d 1
  rw [show 32 * 1 = 32 from rfl] at this
  rcases Nat.lt_or_ge y.d.n (2 ^ 32) with h | h
  · have := this.2 h; omega
  · exact h

theorem ok_divmod : CallOK Try.prog 19 (heapSem [.v, .v] stdA (gDivMod stdV)) := by
  refine callOK_heap (un := ⟨false, some [2,3,4,5,6,7,8,9,10,26,32,37,11,12]⟩) tok tN12OK mixed (fn := Try.f19) (by kernel_rfl) (by kernel_rfl) (by kernel_rfl) (by decide +kernel) ?_
  intro w Wr args bs r hg ho hWr A L k hA hL hk
  obtain ⟨S, hS⟩ : ∃ S, S = stdW := ⟨_, rfl⟩
  obtain ⟨V, hV⟩ : ∃ V, V = stdV := ⟨_, rfl⟩
  (try rw [← hS])
  (try rw [← hV])
  (try rw [← hA])
  unfold gDivMod at hg
  split at hg
  rotate_left
  · cases hg
  simp only [Option.some.injEq] at hg
  subst hg
  rename_i x y
  have hw := dm_word x y A hA V hV S hS
  have hbg := dm_big x y A hA V hV S hS
  have hz := dSize_zero y.d
  have hq := dm_eq x y
  have hq0 := dm_zero x y
  have hlt : ∀ b, A.cmp .lss (S.dcmp x.d y.d) 0 = b → decide (x.d.n < y.d.n) = b := fun b h => by subst hA hS; have h : decide (sgn x.d.n y.d.n < 0) = b := h; rw [sgn_lt] at h; exact h
  have hsm := div_small x.d y.d
  have hz0 : A.cmp .eql (S.size y.d) 0 = true → y.d.n = 0 := fun h => hz.1 (by subst hA hS; exact h)
  have hz1 : A.cmp .eql (S.size y.d) 0 = false → y.d.n ≠ 0 := fun h => hz.2 (by subst hA hS; exact h)
  clear hz
  cbv
  repeat' first | (with_reducible intro hb; cbv) | with_reducible refine And.intro ?_ ?_
  · have := hq0 (hz0 hb)
    refine hk _ _ (Good.pure rfl fun ρ => ?_)
    subst hV
    exact tupWWt this.1.symm this.2.1.symm this.2.2.symm
  · rename_i hb0
    have h1 := hq (hz1 hb0)
    have h2 := hsm (of_decide_eq_true (hlt _ hb))
    refine hk _ _ (Good.pure rfl fun ρ => ?_)
    subst hV hA hS
    rw [h2.1, h2.2] at h1
    exact tupWWt h1.1.symm h1.2.1.symm h1.2.2.symm
  · (intro hb)
    cbv
    repeat' first | (with_reducible intro hb; cbv) | with_reducible refine And.intro ?_ ?_
    · exact (hw hb).1
    · exact (hw hb).2.1
    · exact (hw hb).2.2.1
    · exact (hw hb).2.2.2.1
    · rename_i hb0 hb1
      have h1 := hq (hz1 hb0)
      have h2 := (hw hb).2.2.2.2
      refine hk _ _ (Good.pure rfl fun ρ => ?_)
      subst hV hA hS
      rw [← h2.1, ← h2.2] at h1
      exact tupWWt h1.1.symm h1.2.1.symm h1.2.2.symm
  · rename_i hb0 hb1
    exact (hbg hb0 hb1 hb).1
  · rename_i hb0 hb1
    exact (hbg hb0 hb1 hb).2
  · rename_i hb0 hb1
    have h1 := hq (hz1 hb0)
    refine hk _ _ (Good.pure rfl fun ρ => ?_)
    subst hV hA hS
    exact tupWWt h1.1.symm h1.2.1.symm h1.2.2.symm

def tN13 (A : Alg) (S : SW) (V : SV) : List (Nat × Sem') := (19, heapSem [.v, .v] A (gDivMod V)) :: ((tN12 A S V))
theorem tN13OK : COK Try.prog (look (tN13 stdA stdW stdV)) := COK_cons ok_divmod (tN12OK)
end Go.Eng
