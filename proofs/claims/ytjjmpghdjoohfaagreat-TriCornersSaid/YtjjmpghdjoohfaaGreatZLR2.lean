
import Derived.Test.YtjjmpghdjoohfaaGreatZLR0
import Derived.Test.YtjjmpghdjoohfaaGreatSpecFA
import Derived.Test.YtjjmpghdjoohfaaGreatSpecTr
set_option linter.all false
set_option exponentiation.threshold 3000
namespace Go.Eng
open Go.Proofs
set_option maxRecDepth 100000
set_option linter.all false
set_option exponentiation.threshold 3000
set_option maxHeartbeats 2000000
def gT3 : List CV → List Blk → Option LR
  | [.g [.P a], .g [.P b], .g [.P c]], [] => some ⟨[], .c (.s (.bool true)), []⟩
  | _, _ => none
theorem not_t {A : Alg} (hA : A = stdA) {x : Bool} (h : A.not x = true) : x = false := by subst hA; have h : (!x) = true := h; simpa using h
theorem stN (x : Bool) : stdA.not x = !x := rfl
theorem stI (c a b : Bool) : stdA.ite c a b = bif c then a else b := by cases c <;> rfl
theorem stB (a b : Bool) : stdA.beq a b = (a == b) := rfl
def tS5 (A : Alg) (F : SF) (H : SH) (E : SE) : List (Nat × Sem') := (21, heapSem [] A (gKnown)) :: (32, heapSem [.v, .v, .v] A (gTurnP H)) :: (26, heapSem [.v, .v, .v] A (gSharp H E)) :: (33, heapSem [.v] A (gWholeH A H)) :: (20, heapSem [.v, .v] A (gCmpF F)) :: (30, heapSem [.v, .v, .v] A (gGood H E)) :: ([])
theorem tS5OK : COK Tryz.prog (look (tS5 stdA stdF stdH stdE)) := COK_cons ok_known5 (COK_cons ok_qturn (COK_cons ok_tsharp (COK_cons ok_rwhole (COK_cons ok_rcmpR (COK_cons ok_tgood (COK_nil))))))
theorem ok_triCorners : CallOK Tryz.prog 6 (heapSem [.v, .v, .v] stdA (gT3)) := by
  refine callOK_heap (un := ⟨true, some [3,4,5,6,7,8,9,10,11,12,13,14,15,16,17,18,19,20,21,22,23,25,38,44,66,68]⟩) tok tS5OK mixed (fn := Tryz.f6) (by kernel_rfl) (by kernel_rfl) (by kernel_rfl) (by decide +kernel) ?_
  intro w Wr args bs r hg ho hWr A L k hA hL hk
  obtain ⟨E, hE⟩ : ∃ E, E = stdE := ⟨_, rfl⟩
  obtain ⟨F, hF⟩ : ∃ F, F = stdF := ⟨_, rfl⟩
  obtain ⟨H, hH⟩ : ∃ H, H = stdH := ⟨_, rfl⟩
  (try rw [← hE])
  (try rw [← hF])
  (try rw [← hH])
  (try rw [← hA])
  unfold gT3 at hg
  split at hg
  rotate_left
  · cases hg
  simp only [Option.some.injEq] at hg
  subst hg
  rename_i a b c
  have tc := tc_f (a := a) (b := b) (c := c) A hA F hF H hH E hE
  cbv
  repeat' first | ((with_reducible intro hb); cbv) | with_reducible refine And.intro ?_ ?_
  all_goals first
    | exact leq_of A hA _ _ (by decide)
    | exact lss_of A hA _ _ (by decide)
    | skip
  all_goals
    refine hk _ _ (Good.pure rfl fun ρ => ?_)
    first | refine retT ?_ | refine retB ?_
    (try clear hk); (try clear hL); (try clear hexit hnext hret); (try clear hexit2 hnext2 hret2); (try clear hL2); (try clear hL3); (try clear hexit3 hnext3 hret3)
  all_goals first
    | rfl
    | (have hx := not_t hA ‹A.not true = true›; cases hx)
    | skip
  all_goals
    have tc := tc (by assumption)
    obtain ⟨p1, p2, p3, p4, w1, w2, w3, v1, v2, v3, g, h, o, n12, n23, n31⟩ := tc
    clear ho hWr
    subst hA
    simp only [stN, stI, stB] at *
    clear hF hH hE
    cases h1 : E.wide a b c <;> cases h2 : E.wide b c a <;> cases h3 : E.wide c a b <;> simp_all
end Go.Eng

