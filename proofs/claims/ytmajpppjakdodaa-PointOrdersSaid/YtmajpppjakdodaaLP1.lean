/- The law PointOrders. -/
import Derived.Test.YtmajpppjakdodaaCRB
set_option linter.all false
set_option exponentiation.threshold 3000
namespace Go.Eng
open Go.Proofs
set_option maxRecDepth 100000
set_option linter.all false
set_option exponentiation.threshold 3000
set_option maxHeartbeats 2000000

def gP3 : List CV → List Blk → Option LR
  | [.g [.P _], .g [.P _], .g [.P _]], [] => some ⟨[], .c (.s (.bool true)), []⟩
  | _, _ => none

def orBad (A : Alg) (H : SH) (a b c : Pt) : Bool := A.ite (A.ite (A.ite (A.not (H.all [a, b])) true (A.not (H.all [b, a]))) true (A.not (H.all [b, c]))) true (A.not (H.all [a, c]))

structure OrF (A : Alg) (H : SH) (a b c : Pt) : Prop where
  e1 : orBad A H a b c = true → A.ite (A.ite (A.not (H.all [a])) true (A.not (H.all [b]))) true (A.not (H.all [c])) = true
  e0 : orBad A H a b c = false → A.ite (A.ite (A.cmp .eql (H.cmp a b) (A.bin .sub .i64 0 (H.cmp b a))) (A.beq (A.cmp .eql (H.cmp a b) 0) (A.eqP a b)) false) (A.ite (A.ite (A.cmp .geq (H.cmp a b) 0) true (A.cmp .geq (H.cmp b c) 0)) true (A.cmp .lss (H.cmp a c) 0)) false = true

theorem or_f (a b c : Pt) (A : Alg) (hA : A = stdA) (H : SH) (hH : H = stdH) : OrF A H a b c := by
  subst hA hH
  have e2 : ∀ p q : Pt, stdH.all [p, q] = (ptOK p && ptOK q) := fun p q => by
    show (ptOK p && (ptOK q && true)) = _
    rw [Bool.and_true]
  have e1 : ∀ p : Pt, stdH.all [p] = ptOK p := fun p => by
    show (ptOK p && true) = _
    rw [Bool.and_true]
  have hbad : orBad stdA stdH a b c = !(ptOK a && (ptOK b && ptOK c)) := by
    unfold orBad
    rw [e2, e2, e2, e2]
    cases ptOK a <;> cases ptOK b <;> cases ptOK c <;> rfl
  refine ⟨fun h => ?_, fun h => ?_⟩
  · rw [hbad] at h
    rw [e1, e1, e1]
    revert h
    cases ptOK a <;> cases ptOK b <;> cases ptOK c <;> intro h <;> first | rfl | cases h
  · rw [hbad, Bool.not_eq_false'] at h
    simp only [Bool.and_eq_true] at h
    obtain ⟨ha, hb, hc⟩ := h
    rw [cmp_ok (all2 ha hb), cmp_ok (all2 hb ha), cmp_ok (all2 hb hc), cmp_ok (all2 ha hc)]
    have k1 : stdA.cmp .eql (pcmp a b) (stdA.bin .sub .i64 0 (pcmp b a)) = true := by
      show (pcmp a b == IntKind.i64.wrap (0 - pcmp b a)) = true
      rw [beq_iff_eq, IntKind.wrap_i64]
      rcases pcmp_cases a b with ⟨_, x1, x2⟩ | ⟨_, _, x1, x2⟩ | ⟨_, x1, x2⟩ <;> omega
    have k2 : stdA.beq (stdA.cmp .eql (pcmp a b) 0) (stdA.eqP a b) = true := by
      show ((pcmp a b == 0) == decide (a = b)) = true
      rw [beq_iff_eq]
      rcases pcmp_cases a b with ⟨y, x1, x2⟩ | ⟨y1, y2, x1, x2⟩ | ⟨y, x1, x2⟩
      · rw [x1, decide_eq_false (fun e => by subst e; omega)]; rfl
      · rw [x1, decide_eq_true ((isPt_of ha).inj (isPt_of hb) y1 y2)]; rfl
      · rw [x1, decide_eq_false (fun e => by subst e; omega)]; rfl
    have k3 : stdA.ite (stdA.ite (stdA.cmp .geq (pcmp a b) 0) true (stdA.cmp .geq (pcmp b c) 0)) true (stdA.cmp .lss (pcmp a c) 0) = true := by
      show (if (if decide (pcmp a b ≥ 0) = true then true else decide (pcmp b c ≥ 0)) = true then true else decide (pcmp a c < 0)) = true
      by_cases h1 : pcmp a b ≥ 0
      · rw [decide_eq_true h1]; rfl
      · rw [decide_eq_false h1]
        by_cases h2 : pcmp b c ≥ 0
        · rw [decide_eq_true h2]; rfl
        · rw [decide_eq_false h2, decide_eq_true (pcmp_trans (b := b) (by omega) (by omega) : pcmp a c < 0)]; rfl
    rw [k1, k2, k3]; rfl

theorem ok_pointOrders : CallOK Try.prog 11 (heapSem [.v, .v, .v] stdA (gP3)) := by
  refine callOK_heap (un := ⟨false, some [3,4,5,6,7,8,9,10,11,12,13,14,16,54]⟩) tok tL0OK mixed (fn := Try.f11) (by kernel_rfl) (by kernel_rfl) (by kernel_rfl) (by decide +kernel) ?_
  intro w Wr args bs r hg ho hWr A L k hA hL hk
  obtain ⟨F, hF⟩ : ∃ F, F = stdF := ⟨_, rfl⟩
  obtain ⟨H, hH⟩ : ∃ H, H = stdH := ⟨_, rfl⟩
  obtain ⟨M, hM⟩ : ∃ M, M = stdM := ⟨_, rfl⟩
  obtain ⟨S, hS⟩ : ∃ S, S = stdW := ⟨_, rfl⟩
  obtain ⟨V, hV⟩ : ∃ V, V = stdV := ⟨_, rfl⟩
  obtain ⟨X, hX⟩ : ∃ X, X = stdX := ⟨_, rfl⟩
  (try rw [← hF])
  (try rw [← hH])
  (try rw [← hM])
  (try rw [← hS])
  (try rw [← hV])
  (try rw [← hX])
  (try rw [← hA])
  unfold gP3 at hg
  split at hg
  rotate_left
  · cases hg
  simp only [Option.some.injEq] at hg
  subst hg
  rename_i a b c
  have orf := or_f a b c A hA H hH
  cbv
  repeat' first | (with_reducible intro hb; cbv) | with_reducible refine And.intro ?_ ?_
  · subst hA; cases hb
  · refine hk _ _ (Good.pure rfl fun ρ => ?_)
    exact retB (orf.e1 hb)
  · refine hk _ _ (Good.pure rfl fun ρ => ?_)
    exact retB (orf.e0 hb)

def tL1 (A : Alg) (S : SW) (V : SV) (X : SX) (M : SM) (F : SF) (H : SH) : List (Nat × Sem') := (11, heapSem [.v, .v, .v] A (gP3)) :: ((tL0 A S V X M F H))
theorem tL1OK : COK Try.prog (look (tL1 stdA stdW stdV stdX stdM stdF stdH)) := COK_cons ok_pointOrders (tL0OK)
end Go.Eng
