/- Contracts: whole numbers, a division by one word. -/
import Derived.Test.YtmajpppjakdodaaCN2
namespace Go.Eng
open Go.Proofs
set_option maxRecDepth 100000
set_option linter.all false
set_option exponentiation.threshold 3000

def gByWord (A : Alg) (V : SV) : List CV → List Blk → Option LR
  | [.s (.hp 0 0), .s (.int .u32 n)], [.fix false [.D d]] => some ⟨[A.cmp .leq 1 n, A.cmp .lss n 4294967296], .t [.s (.hp 1 0), .s (.int .u32 (V.byR d n))], [.fix true [.D (V.byQ d n)]]⟩
  | _, _ => none

theorem ok_byWord : CallOK Try.prog 61 (heapSem [.pd, .v] stdA (gByWord stdA stdV)) := by
  refine callOK_heap (un := ⟨false, none⟩) tok tN6OK mixed (fn := Try.f61) (by kernel_rfl) (by kernel_rfl) (by kernel_rfl) (by decide +kernel) ?_
  intro w Wr args bs r hg ho hWr A L k hA hL hk
  obtain ⟨S, hS⟩ : ∃ S, S = stdW := ⟨_, rfl⟩
  obtain ⟨V, hV⟩ : ∃ V, V = stdV := ⟨_, rfl⟩
  (try rw [← hS])
  (try rw [← hV])
  (try rw [← hA])
  unfold gByWord at hg
  split at hg
  rotate_left
  · cases hg
  simp only [Option.some.injEq] at hg
  subst hg
  rename_i n d
  have n1 := (ho_cons ho).1; replace ho := (ho_cons ho).2
  have n2 := (ho_cons ho).1; replace ho := (ho_cons ho).2
  clear ho
  simp only [stdA, stdCmp, decide_eq_true_eq] at n1 n2
  have hsz := dSize_le d 32
  cbv
  refine hL _ _ _ (loop_rule (un := ⟨false, none⟩) tok tN6OK mixed (fun p : Int × Dg × Int => ⟨[(8, ⟨[], .c (.s (.int .i64 p.1))⟩), (7, ⟨[], .c (.s (.int .u32 p.2.2))⟩), (6, ⟨[], .c (.s (.hp 1 0))⟩), (0, ⟨[], .c (.s (.hp 0 0))⟩), (1, ⟨[], .c (.s (.int .u32 n))⟩)], [(1, .fix true [.D p.2.1]), (0, .fix false [.D d])], 2⟩)
    (fun p => -1 ≤ p.1 ∧ p.1 < 32 ∧ p.2.1.n = d.n / 2 ^ (32 * (p.1 + 1).toNat) / n.toNat * 2 ^ (32 * (p.1 + 1).toNat) ∧ p.2.2 = ((d.n / 2 ^ (32 * (p.1 + 1).toNat) % n.toNat : Nat) : Int)) (fun p => (p.1 + 1).toNat) ((dSize d : Int) - 1, Dg.zero, 0) ?_ ?_ (fun _ i hi => by have := hWr i hi; simp at this ⊢; omega) ?_)
  · have h0 : d.n / 2 ^ (32 * ((dSize d : Int) - 1 + 1).toNat) = 0 := by
      rw [show ((dSize d : Int) - 1 + 1).toNat = dSize d by omega]
      exact Nat.div_eq_of_lt ((dSize_le d (dSize d)).1 (Nat.le_refl _))
    have h32 : dSize d ≤ 32 := hsz.2 d.lt
    refine ⟨by show (-1 : Int) ≤ (dSize d : Int) - 1; omega, by show (dSize d : Int) - 1 < 32; omega, ?_, ?_⟩
    · show Dg.zero.n = _
      rw [h0]; simp [Dg.zero]
    · show (0 : Int) = _
      rw [h0]; simp
  · refine ⟨⟨⟨rfl, rfl, leI ?_⟩, ⟨rfl, rfl, fun _ => rfl⟩, ⟨rfl, rfl, fun _ => rfl⟩, ⟨rfl, rfl, fun _ => rfl⟩, ⟨rfl, rfl, fun _ => rfl⟩, trivial⟩, ⟨⟨rfl, rfl, fun _ => rfl⟩, ⟨rfl, rfl, fun _ => rfl⟩, trivial⟩, rfl, rfl⟩
    subst hA hS
    have h32 : dSize d ≤ 32 := hsz.2 d.lt
    show stdBin .sub .i64 (dSize d : Int) 1 = (dSize d : Int) - 1
    simp only [stdBin, IntKind.wrap_i64]; omega
  rintro ⟨i, out, c⟩ ⟨i0, i1, h1, h2⟩ A2 L2 k2 hA2 hL2 hnext hexit hret
  simp only at i0 i1 h1 h2
  have hd1 := dig_lt d i.toNat
  have hc0 : 0 ≤ c := by rw [h2]; exact Int.natCast_nonneg _
  have hcn : c < n := by
    have := Nat.mod_lt (d.n / 2 ^ (32 * (i + 1).toNat)) (show 0 < n.toNat by omega)
    rw [h2]; omega
  have hq : 0 ≤ i → (c * 4294967296 + (d.dig i.toNat : Nat)) / n = (((c.toNat * 2 ^ 32 + d.dig i.toNat) / n.toNat : Nat) : Int) ∧ (c * 4294967296 + (d.dig i.toNat : Nat)) % n = (((c.toNat * 2 ^ 32 + d.dig i.toNat) % n.toNat : Nat) : Int) := fun h => by
    have e : (n.toNat : Int) = n := by omega
    have e2 : (c.toNat : Int) = c := by omega
    rw [Int.natCast_ediv, Int.natCast_emod, Int.natCast_add, Int.natCast_mul, e, e2]
    exact ⟨rfl, rfl⟩
  have hstep : 0 ≤ i → _ := fun h => byWord_step d out n.toNat i.toNat c.toNat (by omega) (by rw [h1, show (i + 1).toNat = i.toNat + 1 by omega]) (by rw [h2, show (i + 1).toNat = i.toNat + 1 by omega]; exact Int.toNat_natCast _) (by omega) (by omega)
  rw [← hA2, ← hS, ← hV]
  cbv
  repeat' first | (with_reducible intro hb; cbv) | with_reducible refine And.intro ?_ ?_
  all_goals try (clear hnext hexit hret hk hL hL2 h1 h2 hstep hq hsz; subst hA2; simp only [stdA, stdCmp, decide_eq_true_eq, ofNat_cast] at *; omega)
  · have hi0 : 0 ≤ i := by subst hA2; simpa [stdA, stdCmp] using hb
    clear hnext hexit hret hk hL hL2
    have eq : V.divq c (A2.dig d i) n = (((c.toNat * 2 ^ 32 + d.dig i.toNat) / n.toNat : Nat) : Int) := by subst hV hA2; exact (hq hi0).1
    show A2.cmp .leq 0 (V.divq c (A2.dig d i) n) = true
    rw [eq]; subst hA2; exact @decide_eq_true (0 ≤ (((c.toNat * 2 ^ 32 + d.dig i.toNat) / n.toNat : Nat) : Int)) _ (Int.natCast_nonneg _)
  · have hi0 : 0 ≤ i := by subst hA2; simpa [stdA, stdCmp] using hb
    clear hnext hexit hret hk hL hL2
    have eq : V.divq c (A2.dig d i) n = (((c.toNat * 2 ^ 32 + d.dig i.toNat) / n.toNat : Nat) : Int) := by subst hV hA2; exact (hq hi0).1
    have := (hstep hi0).2.2
    show A2.cmp .lss (V.divq c (A2.dig d i) n) 4294967296 = true
    rw [eq]; subst hA2; simp only [stdA, stdCmp, decide_eq_true_eq]; omega
  · have hi0 : 0 ≤ i := by subst hA2; simpa [stdA, stdCmp] using hb
    obtain ⟨g1, g2, g3⟩ := hstep hi0
    obtain ⟨q1, q2⟩ := hq hi0
    have eq : V.divq c (A2.dig d i) n = (((c.toNat * 2 ^ 32 + d.dig i.toNat) / n.toNat : Nat) : Int) := by subst hV hA2; exact q1
    have er : V.divr c (A2.dig d i) n = (((c.toNat * 2 ^ 32 + d.dig i.toNat) % n.toNat : Nat) : Int) := by subst hV hA2; exact q2
    have hs1 : (i - 1 + 1).toNat = i.toNat := by omega
    refine hnext _ (i - 1, A2.setD out i (V.divq c (A2.dig d i) n), V.divr c (A2.dig d i) n) ⟨by show -1 ≤ i - 1; omega, by show i - 1 < 32; omega, ?_, ?_⟩ ?_ ⟨⟨⟨rfl, rfl, leI ?_⟩, ⟨rfl, rfl, fun _ => rfl⟩, ⟨rfl, rfl, fun _ => rfl⟩, ⟨rfl, rfl, fun _ => rfl⟩, ⟨rfl, rfl, fun _ => rfl⟩, trivial⟩, ⟨⟨rfl, rfl, fun _ => rfl⟩, ⟨rfl, rfl, fun _ => rfl⟩, trivial⟩, rfl, rfl⟩
    · show (A2.setD out i (V.divq c (A2.dig d i) n)).n = d.n / 2 ^ (32 * (i - 1 + 1).toNat) / n.toNat * 2 ^ (32 * (i - 1 + 1).toNat)
      rw [eq, hs1, ← g1]
      subst hA2
      show (out.set i.toNat ((((c.toNat * 2 ^ 32 + d.dig i.toNat) / n.toNat : Nat) : Int)).toNat).n = _
      rw [Int.toNat_natCast]
    · show V.divr c (A2.dig d i) n = ((d.n / 2 ^ (32 * (i - 1 + 1).toNat) % n.toNat : Nat) : Int)
      rw [er, hs1, g2]
    · show (i - 1 + 1).toNat < (i + 1).toNat
      omega
    · subst hA2
      show stdBin .sub .i64 i 1 = i - 1
      simp only [stdBin, IntKind.wrap_i64]; omega
  · apply hexit
    have hb : ¬ 0 ≤ i := by subst hA2; simpa [stdA, stdCmp] using hb
    have hi : i = -1 := by omega
    subst hi
    clear hexit hnext hret hstep
    cbv
    repeat' first | (with_reducible intro hb; cbv) | with_reducible refine And.intro ?_ ?_
    have h1 : out.n = d.n / 2 ^ (32 * 0) / n.toNat * 2 ^ (32 * 0) := h1
    have h2 : c = ((d.n / 2 ^ (32 * 0) % n.toNat : Nat) : Int) := h2
    simp only [Nat.mul_zero, Nat.pow_zero, Nat.div_one, Nat.mul_one] at h1 h2
    refine hk _ _ (Good.one (t := 1) rfl (by simp) (fun ρ => ?_) rfl (leD ?_))
    · refine tupPI ?_ rfl
      subst hV
      exact h2
    · subst hV
      exact Dg.ext' h1

def tN7 (A : Alg) (S : SW) (V : SV) : List (Nat × Sem') := (61, heapSem [.pd, .v] A (gByWord A V)) :: ((tN6 A S V))
theorem tN7OK : COK Try.prog (look (tN7 stdA stdW stdV)) := COK_cons ok_byWord (tN6OK)
end Go.Eng
