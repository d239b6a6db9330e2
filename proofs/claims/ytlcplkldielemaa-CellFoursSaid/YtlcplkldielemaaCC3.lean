/- Contracts: squares, third part. -/
import Derived.Test.YtlcplkldielemaaCC2
import Derived.Test.YtlcplkldielemaaEngT
namespace Go.Eng
open Go.Proofs
set_option maxRecDepth 100000
set_option linter.all false
set_option exponentiation.threshold 3000

theorem look_app {α : Type} : ∀ (l m : List (Nat × α)) (i : Nat), look (l ++ m) i = match look l i with
    | some v => some v
    | none => look m i
  | [], m, i => rfl
  | (j, v) :: r, m, i => by
    simp only [List.cons_append, look]
    split
    · rfl
    · exact look_app r m i

theorem COK_app {P : Program} {l m : List (Nat × Sem')} (h : COK P (look l)) (h' : COK P (look m)) : COK P (look (l ++ m)) := fun f s e => by
  rw [look_app] at e
  split at e
  · rename_i v hv; cases e; exact h f _ hv
  · exact h' f s e

def tK4 (A : Alg) (C : SC) : List (Nat × Sem') := (11, heapSem [.v, .v] A (gCmpC C)) :: (14, heapSem [.v, .v, .v] A (gHas A C)) :: (13, heapSem [.v, .v] A (gBes C)) :: (15, heapSem [] A (gRoot)) :: ((tK3 A C))
theorem tK4OK : COK Try.prog (look (tK4 stdA stdC)) := COK_cons ok_cmpC (COK_cons ok_has (COK_cons ok_bes (COK_cons ok_root (tK3OK))))
def tL1 (A : Alg) (S : SW) (R : SR) (X : SX) (C : SC) : List (Nat × Sem') := (23, heapSem [.v, .v] A (gAt A R)) :: (17, heapSem [.v] A (gCorners A R)) :: ((tK4 A C) ++ (tC13 A S R X))
theorem tL1OK : COK Try.prog (look (tL1 stdA stdW stdR stdX stdC)) := COK_cons ok_at (COK_cons ok_rcorners (COK_app tK4OK tC13OK))

theorem ok_corners : CallOK Try.prog 16 (heapSem [.v] stdA (gCorners stdA stdR)) := by
  refine callOK_heap (un := ⟨false, none⟩) tok tL1OK mixed (fn := Try.f16) (by kernel_rfl) (by kernel_rfl) (by kernel_rfl) (by decide +kernel) ?_
  intro w Wr args bs r hg ho hWr A L k hA hL hk
  obtain ⟨C, hC⟩ : ∃ C, C = stdC := ⟨_, rfl⟩
  obtain ⟨R, hR⟩ : ∃ R, R = stdR := ⟨_, rfl⟩
  obtain ⟨S, hS⟩ : ∃ S, S = stdW := ⟨_, rfl⟩
  obtain ⟨X, hX⟩ : ∃ X, X = stdX := ⟨_, rfl⟩
  (try rw [← hC])
  (try rw [← hR])
  (try rw [← hS])
  (try rw [← hX])
  (try rw [← hA])
  unfold gCorners at hg
  split at hg
  rotate_left
  · cases hg
  simp only [Option.some.injEq] at hg
  subst hg
  rename_i x y s
  simp only [List.forall_mem_cons] at ho
  obtain ⟨o1, o2, o3, o4, o5, o6, -⟩ := ho
  cbv
  repeat' first | (with_reducible intro hb; cbv) | with_reducible refine And.intro ?_ ?_
  all_goals try ((try clear hk); (try clear hL); (try clear hexit hnext hret); (try clear hexit2 hnext2 hret2); (try clear hL2); (try clear hL3); (try clear hexit3 hnext3 hret3); (try subst hA3); (try subst hA2); (try subst hA); (try simp only [toZn] at *); (try simp only [zn] at *); (try simp only [stdA, stdCmp, stdBin, Bool.if_false_right, Bool.if_true_left, Bool.decide_eq_true, Bool.and_eq_false_iff, Bool.or_eq_false_iff, IntKind.wrap_i64, IntKind.wrap_u32, IntKind.wrap_u8, w_u64, Int.zero_add, Int.sub_zero, ofNat_cast, beq_true, Bool.or_eq_true, Bool.and_eq_true, Bool.not_eq_true', decide_eq_true_eq, decide_eq_false_iff_not, beq_iff_eq, bne_iff_ne, beq_eq_false_iff_ne, ne_eq, if_true, if_false] at *); omega)
  exact hk _ _ (Good.pure rfl fun ρ => by subst hR hA; rfl)

def tL2 (A : Alg) (S : SW) (R : SR) (X : SX) (C : SC) : List (Nat × Sem') := (16, heapSem [.v] A (gCorners A R)) :: ((tL1 A S R X C))
theorem tL2OK : COK Try.prog (look (tL2 stdA stdW stdR stdX stdC)) := COK_cons ok_corners (tL1OK)

def gTrue : List CV → List Blk → Option LR
  | [], [] => some ⟨[], .c (.s (.tt true)), []⟩
  | _, _ => none

end Go.Eng
