/- The law WideGcds. -/
import Derived.Test.YtmajpppjakdodaaCN17
namespace Go.Eng
open Go.Proofs
set_option maxRecDepth 100000
set_option linter.all false
set_option exponentiation.threshold 3000
set_option maxHeartbeats 4000000

def gLaw2 : List CV → List Blk → Option LR
  | [.g [.W _], .g [.W _]], [] => some ⟨[], .c (.s (.bool true)), []⟩
  | _, _ => none

theorem tld_zero (b : Bool) (d : Dg) (h : d.n = 0) : tld b d = stdW.from64 0 := by
  have e1 : d = Dg.zero := Dg.ext' h
  subst e1
  show (⟨b && decide (Dg.zero.n ≠ 0), Dg.zero⟩ : Wd) = tld (decide ((0 : Int) < 0)) (mk1024 0)
  have : (mk1024 0) = Dg.zero := Dg.ext' (by show 0 % 2 ^ 1024 = 0; exact Nat.zero_mod _)
  rw [this]; cases b <;> rfl

theorem isW_zero (x : Wd) (hx : stdW.isW x = true) : x = stdW.from64 0 ↔ x.d.n = 0 := by
  have h0 : (stdW.from64 0).d.n = 0 := by show 0 % 2 ^ 1024 = 0; exact Nat.zero_mod _
  constructor
  · intro h; rw [h]; exact h0
  · intro h
    have hn : x.neg = false := by
      have : (!x.neg || decide (x.d.n ≠ 0)) = true := hx
      rw [h] at this; simpa using this
    have := tld_zero false x.d h
    rw [← this]
    obtain ⟨b, d⟩ := x
    simp only at hn h
    subst hn
    rfl

structure GcdsOK (A : Alg) (V : SV) (S : SW) (x y : Wd) : Prop where
  zz : A.ite (A.eqW x (S.from64 0)) (A.eqW y (S.from64 0)) false = true → A.eqW (V.gcd x y) (S.from64 0) = true
  fin : A.ite (A.eqW x (S.from64 0)) (A.eqW y (S.from64 0)) false = false →
    A.ite (A.ite (A.ite (A.ite (A.ite (A.ite (A.ite (V.dmOK (V.gcd x y)) (V.dmOK (V.gcd x y)) false) (A.eqW (V.dmR x (V.gcd x y)) (S.from64 0)) false) (A.eqW (V.dmR y (V.gcd x y)) (S.from64 0)) false) (A.not (V.gcd x y).neg) false) (A.eqW (V.gcd x y) (V.gcd y x)) false) (A.eqW (V.gcd x y) (V.gcd (S.neg x) y)) false) (A.eqW (V.gcd (V.dmQ x (V.gcd x y)) (V.dmQ y (V.gcd x y))) (S.from64 1)) false = true
  i1 : ∀ b, A.imp b (A.cmp .leq (-9223372036854775808) 1) = true
  i2 : ∀ b, A.imp b (A.cmp .lss 1 9223372036854775808) = true
  j1 : A.cmp .leq (-9223372036854775808) 0 = true
  j2 : A.cmp .lss 0 9223372036854775808 = true

theorem gcds_ok (x y : Wd) (A : Alg) (hA : A = stdA) (V : SV) (hV : V = stdV) (S : SW) (hS : S = stdW) (hv : A.ite (A.not (S.isW x)) true (A.not (S.isW y)) = false) : GcdsOK A V S x y := by
  subst hA hV hS
  have hv : (if (!stdW.isW x) = true then true else (!stdW.isW y)) = false := hv
  have hx : stdW.isW x = true := by cases h : stdW.isW x <;> simp [h] at hv ⊢
  have hy : stdW.isW y = true := by cases h : stdW.isW y <;> simp [h, hx] at hv ⊢
  have zx := isW_zero x hx
  have zy := isW_zero y hy
  have hzc : ∀ b, stdA.ite (stdA.eqW x (stdW.from64 0)) (stdA.eqW y (stdW.from64 0)) false = b → decide (x.d.n = 0 ∧ y.d.n = 0) = b := fun b h => by
    rw [← h]
    show _ = (if decide (x = stdW.from64 0) = true then decide (y = stdW.from64 0) else false)
    by_cases h1 : x.d.n = 0
    · rw [if_pos (decide_eq_true (zx.2 h1))]
      rw [decide_eq_decide]
      exact ⟨fun h => zy.2 h.2, fun h => ⟨h1, zy.1 h⟩⟩
    · rw [if_neg (by simpa using fun hh => h1 (zx.1 hh))]
      simp [h1]
  have eqW : ∀ a b : Wd, a = b → stdA.eqW a b = true := fun a b h => decide_eq_true h
  have hg := gcd_plain x y
  have imp : ∀ a b : Bool, b = true → stdA.imp a b = true := fun a b h => by show (!a || b) = true; rw [h]; simp
  refine { zz := fun h => ?_, fin := fun h => ?_, i1 := fun b => imp _ _ rfl, i2 := fun b => imp _ _ rfl, j1 := rfl, j2 := rfl }
  · have h := of_decide_eq_true (hzc _ h)
    apply eqW
    rw [hg]
    have := tld_zero false ⟨Nat.gcd x.d.n y.d.n, gcd_lt x.d.lt y.d.lt⟩ (by show Nat.gcd x.d.n y.d.n = 0; rw [h.1, h.2]; rfl)
    rw [← this]; rfl
  · have h := of_decide_eq_false (hzc _ h)
    have hG : 0 < Nat.gcd x.d.n y.d.n := by
      rcases Nat.eq_zero_or_pos (Nat.gcd x.d.n y.d.n) with h0 | h0
      · exact absurd (Nat.gcd_eq_zero_iff.1 h0) h
      · exact h0
    have hgn : (stdV.gcd x y).d.n = Nat.gcd x.d.n y.d.n := by rw [hg]
    have hgneg : (stdV.gcd x y).neg = false := by rw [hg]
    obtain ⟨qx, rx, okx⟩ := dm_eq x (stdV.gcd x y) (by rw [hgn]; omega)
    obtain ⟨qy, ry, oky⟩ := dm_eq y (stdV.gcd x y) (by rw [hgn]; omega)
    have f2 : stdA.eqW (stdV.dmR x (stdV.gcd x y)) (stdW.from64 0) = true := eqW _ _ (by
      rw [rx]; apply tld_zero
      show x.d.n % (stdV.gcd x y).d.n = 0
      rw [hgn]; exact Nat.mod_eq_zero_of_dvd (Nat.gcd_dvd_left _ _))
    have f3 : stdA.eqW (stdV.dmR y (stdV.gcd x y)) (stdW.from64 0) = true := eqW _ _ (by
      rw [ry]; apply tld_zero
      show y.d.n % (stdV.gcd x y).d.n = 0
      rw [hgn]; exact Nat.mod_eq_zero_of_dvd (Nat.gcd_dvd_right _ _))
    have f4 : stdA.not (stdV.gcd x y).neg = true := by rw [hgneg]; rfl
    have f5 : stdA.eqW (stdV.gcd x y) (stdV.gcd y x) = true := eqW _ _ (by
      rw [hg, gcd_plain y x]; congr 1; exact Dg.ext' (Nat.gcd_comm _ _))
    have f6 : stdA.eqW (stdV.gcd x y) (stdV.gcd (stdW.neg x) y) = true := eqW _ _ (by rw [hg, gcd_plain (stdW.neg x) y]; rfl)
    have f7 : stdA.eqW (stdV.gcd (stdV.dmQ x (stdV.gcd x y)) (stdV.dmQ y (stdV.gcd x y))) (stdW.from64 1) = true := eqW _ _ (by
      rw [gcd_plain, qx, qy]
      have e1 : Nat.gcd (x.d.n / (stdV.gcd x y).d.n) (y.d.n / (stdV.gcd x y).d.n) = 1 := by rw [hgn]; exact Nat.coprime_div_gcd_div_gcd hG
      have e2 : (mk1024 1) = ⟨Nat.gcd (tld (!(wbelow x == wbelow (stdV.gcd x y))) (stdV.divQ x.d (stdV.gcd x y).d)).d.n (tld (!(wbelow y == wbelow (stdV.gcd x y))) (stdV.divQ y.d (stdV.gcd x y).d)).d.n, gcd_lt (tld (!(wbelow x == wbelow (stdV.gcd x y))) (stdV.divQ x.d (stdV.gcd x y).d)).d.lt (tld (!(wbelow y == wbelow (stdV.gcd x y))) (stdV.divQ y.d (stdV.gcd x y).d)).d.lt⟩ := Dg.ext' (by
        show 1 % 2 ^ 1024 = Nat.gcd (x.d.n / (stdV.gcd x y).d.n) (y.d.n / (stdV.gcd x y).d.n)
        rw [e1])
      rw [← e2]; rfl)
    rw [okx, f2, f3, f4, f5, f6, f7]
    rfl

theorem ok_wideGcds : CallOK Try.prog 4 (heapSem [.v, .v] stdA (gLaw2)) := by
  refine callOK_heap (un := ⟨false, some [2,3,4,5,6,7,8,9,10,11,12,14,22,34]⟩) tok tN21OK mixed (fn := Try.f4) (by kernel_rfl) (by kernel_rfl) (by kernel_rfl) (by decide +kernel) ?_
  intro w Wr args bs r hg ho hWr A L k hA hL hk
  obtain ⟨S, hS⟩ : ∃ S, S = stdW := ⟨_, rfl⟩
  obtain ⟨T, hT⟩ : ∃ T, T = stdT := ⟨_, rfl⟩
  obtain ⟨V, hV⟩ : ∃ V, V = stdV := ⟨_, rfl⟩
  (try rw [← hS])
  (try rw [← hT])
  (try rw [← hV])
  (try rw [← hA])
  unfold gLaw2 at hg
  split at hg
  rotate_left
  · cases hg
  simp only [Option.some.injEq] at hg
  subst hg
  rename_i x y
  have go := gcds_ok x y A hA V hV S hS
  cbv
  repeat' first | (with_reducible intro hb; cbv) | with_reducible refine And.intro ?_ ?_
  rotate_right
  · (intro hb)
    rename_i hb0
    have go := go hb0
    cbv
    repeat' first | (with_reducible intro hb; cbv) | with_reducible refine And.intro ?_ ?_
    all_goals first | exact go.i1 _ | exact go.i2 _ | skip
    refine hk _ _ (Good.pure rfl fun ρ => ?_)
    exact retB (go.fin hb)
  · subst hA
    cases hb
  · refine hk _ _ (Good.pure rfl fun ρ => rfl)
  · exact (go hb).j1
  · exact (go hb).j2
  · rename_i hb0
    refine hk _ _ (Good.pure rfl fun ρ => ?_)
    exact retB ((go hb0).zz hb)

def tW1 (A : Alg) (S : SW) (V : SV) (T : ST) : List (Nat × Sem') := (4, heapSem [.v, .v] A (gLaw2)) :: ((tN21 A S V T))
theorem tW1OK : COK Try.prog (look (tW1 stdA stdW stdV stdT)) := COK_cons ok_wideGcds (tN21OK)
end Go.Eng
