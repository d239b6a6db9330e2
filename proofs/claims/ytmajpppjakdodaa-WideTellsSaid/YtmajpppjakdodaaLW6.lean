/- The law WideTells. -/
import Derived.Test.YtmajpppjakdodaaCM13
import Derived.Test.YtmajpppjakdodaaCNC
set_option linter.all false
set_option exponentiation.threshold 3000
namespace Go.Eng
open Go.Proofs
set_option maxRecDepth 100000
set_option linter.all false
set_option exponentiation.threshold 3000
set_option maxHeartbeats 4000000

def gLawTells (A : Alg) : List CV → List Blk → Option LR
  | [.g [.W _], .g [.W _], .s (.int .i64 n), .s (.int .i64 k)], [] => some ⟨[A.cmp .leq (-9223372036854775808) n, A.cmp .lss n 9223372036854775808, A.cmp .leq (-9223372036854775808) k, A.cmp .lss k 9223372036854775808], .c (.s (.bool true)), []⟩
  | _, _ => none

theorem int_same (x : Wd) (A : Alg) (hA : A = stdA) (V : SV) (hV : V = stdV) (M : SM) (hM : M = stdM) : A.ite (A.not (V.isInt x)) true (A.cmp .eql (V.toInt x) (M.toI x)) = true := by
  subst hA hV hM
  cases h : stdV.isInt x
  · rfl
  · have h : (decide (-9223372036854775808 ≤ wval x) && decide (wval x < 9223372036854775808)) = true := h
    rw [Bool.and_eq_true, decide_eq_true_eq, decide_eq_true_eq] at h
    have ha := wval_abs x
    have hw := wval_if x
    have hlt : x.d.n < 2 ^ 64 := by omega
    have e1 : stdV.toInt x = wval x := if_pos h
    have e2 : stdM.toI x = wval x := by
      show (if x.d.n < 2 ^ 64 then (if wbelow x then stdBin .sub .i64 (stdBin .sub .i64 0 (IntKind.i64.wrap (stdBin .sub .u64 (x.d.n : Int) 1))) 1 else IntKind.i64.wrap (x.d.n : Int)) else 0) = _
      rw [if_pos hlt]
      cases hb : wbelow x
      · rw [hb] at hw
        simp only [Bool.false_eq_true, if_false] at hw ⊢
        rw [IntKind.wrap_i64]; omega
      · rw [hb] at hw
        simp only [if_true] at hw ⊢
        have h0 : x.d.n ≠ 0 := by
          intro h0
          have : (x.neg && decide (x.d.n ≠ 0)) = true := hb
          rw [h0] at this
          simp at this
        simp only [stdBin, IntKind.wrap_i64, w_u64]
        omega
    rw [e1, e2]
    show (if (!true) = true then true else (wval x == wval x)) = true
    simp

def tM20 (A : Alg) (S : SW) (V : SV) (T : ST) (X : SX) (M : SM) : List (Nat × Sem') := (13, heapSem [] A (gTrue1)) :: ((tM19 A S V T X M) ++ (tN20 A S V T))
theorem tM20OK : COK Try.prog (look (tM20 stdA stdW stdV stdT stdX stdM)) := COK_cons ok_known1 (COK_app tM19OK tN20OK)
theorem ok_wideTells : CallOK Try.prog 6 (heapSem [.v, .v, .v, .v] stdA (gLawTells stdA)) := by
  refine callOK_heap (un := ⟨false, some [2,3,4,5,8,9,10,11,12,13,14,15,16,17,18,19,20,21,22,23,24,25,26,27,28,29,30,31,32,33,34,36,100]⟩) tok tM20OK mixed (fn := Try.f6) (by kernel_rfl) (by kernel_rfl) (by kernel_rfl) (by decide +kernel) ?_
  intro w Wr args bs r hg ho hWr A L k hA hL hk
  obtain ⟨M, hM⟩ : ∃ M, M = stdM := ⟨_, rfl⟩
  obtain ⟨S, hS⟩ : ∃ S, S = stdW := ⟨_, rfl⟩
  obtain ⟨T, hT⟩ : ∃ T, T = stdT := ⟨_, rfl⟩
  obtain ⟨V, hV⟩ : ∃ V, V = stdV := ⟨_, rfl⟩
  obtain ⟨X, hX⟩ : ∃ X, X = stdX := ⟨_, rfl⟩
  (try rw [← hM])
  (try rw [← hS])
  (try rw [← hT])
  (try rw [← hV])
  (try rw [← hX])
  (try rw [← hA])
  unfold gLawTells at hg
  split at hg
  rotate_left
  · cases hg
  simp only [Option.some.injEq] at hg
  subst hg
  rename_i x y n j
  have n0 := (ho_cons ho).1
  have n1 := (ho_cons (ho_cons ho).2).1
  clear ho
  cbv
  repeat' first | (with_reducible intro hb; cbv) | with_reducible refine And.intro ?_ ?_
  · subst hA
    cases hb
  · exfalso
    have f1 : ∀ a : Wd, A.eqW a a = true := fun a => by subst hA; exact eqW_of rfl
    have f2 : ∀ b : Bool, A.beq b b = true := fun b => by subst hA; show (b == b) = true; simp
    have f4 : A.ite false true false = false := by subst hA; rfl
    have g2 : A.not true = false := by subst hA; rfl
    simp only [f1, f2, f4, g2] at hb
    cases hb
  · intro hb
    clear hb
    with_reducible refine run_skipM ?_
    show run _ _ (Code.seq _ _) _ _
    with_reducible refine run_seq_cut fun kk hn hx => ?_
    cbv
    repeat' first | (with_reducible intro hb; cbv) | with_reducible refine And.intro ?_ ?_
    all_goals first | (with_reducible refine hn _ ?_; clear hn hx kk) | ((try subst hA); (try subst hS); (try subst hR); (try subst hX); (try subst hC); (try subst hV); (try subst hT); (try subst hM); (try subst hF); (try subst hH); decide +kernel)
    with_reducible refine run_seq_cut fun kk hn hx => ?_
    cbv
    repeat' first | (with_reducible intro hb; cbv) | with_reducible refine And.intro ?_ ?_
    all_goals first | (with_reducible refine hn _ ?_; clear hn hx kk) | ((try subst hA); (try subst hS); (try subst hR); (try subst hX); (try subst hC); (try subst hV); (try subst hT); (try subst hM); (try subst hF); (try subst hH); decide +kernel)
    with_reducible refine run_seq_cut fun kk hn hx => ?_
    cbv
    repeat' first | (with_reducible intro hb; cbv) | with_reducible refine And.intro ?_ ?_
    all_goals first | (with_reducible refine hn _ ?_; clear hn hx kk) | ((try subst hA); (try subst hS); (try subst hR); (try subst hX); (try subst hC); (try subst hV); (try subst hT); (try subst hM); (try subst hF); (try subst hH); decide +kernel)
    with_reducible refine run_seq_cut fun kk hn hx => ?_
    cbv
    repeat' first | (with_reducible intro hb; cbv) | with_reducible refine And.intro ?_ ?_
    all_goals first | (with_reducible refine hn _ ?_; clear hn hx kk) | ((try subst hA); (try subst hS); (try subst hR); (try subst hX); (try subst hC); (try subst hV); (try subst hT); (try subst hM); (try subst hF); (try subst hH); decide +kernel)
    with_reducible refine run_seq_cut fun kk hn hx => ?_
    cbv
    repeat' first | (with_reducible intro hb; cbv) | with_reducible refine And.intro ?_ ?_
    all_goals first | (with_reducible refine hn _ ?_; clear hn hx kk) | ((try subst hA); (try subst hS); (try subst hR); (try subst hX); (try subst hC); (try subst hV); (try subst hT); (try subst hM); (try subst hF); (try subst hH); decide +kernel)
    with_reducible refine run_seq_cut fun kk hn hx => ?_
    cbv
    repeat' first | (with_reducible intro hb; cbv) | with_reducible refine And.intro ?_ ?_
    all_goals first | (with_reducible refine hn _ ?_; clear hn hx kk) | ((try subst hA); (try subst hS); (try subst hR); (try subst hX); (try subst hC); (try subst hV); (try subst hT); (try subst hM); (try subst hF); (try subst hH); decide +kernel)
    have f1 : ∀ a : Wd, A.eqW a a = true := fun a => by subst hA; exact eqW_of rfl
    have f2 : ∀ b : Bool, A.beq b b = true := fun b => by subst hA; show (b == b) = true; simp
    have f3 : ∀ a : Int, A.cmp .eql a a = true := fun a => by subst hA; show (a == a) = true; simp
    have f4 : ∀ b : Bool, A.ite true b false = b := fun b => by subst hA; rfl
    have f5 : ∀ b : Bool, A.imp b true = true := fun b => by subst hA; show (!b || true) = true; simp
    have f6 : ∀ b : ByteArray, A.seq b b = true := fun b => by subst hA; cases b; exact beq_self_eq_true (α := Array UInt8) _
    have f7 : A.and true true = true := by subst hA; rfl
    have f8 : A.ite (A.not (V.isInt x)) true (A.cmp .eql (V.toInt x) (M.toI x)) = true := int_same x A hA V hV M hM
    have f9 : A.cmp .leq (-9223372036854775808) n = true := by subst hA; exact n0
    have g1 : A.cmp .lss n 9223372036854775808 = true := by subst hA; exact n1
    have g2 : A.not true = false := by subst hA; rfl
    with_reducible refine run_seq_cut fun kk hn hx => ?_
    with_reducible refine Dr_run (by decide +kernel) ?_
    with_reducible refine Dr_cut 15 fun P hP => ?_
    cbv
    with_reducible refine hP _ ?_
    clear hP P
    with_reducible refine Dr_cut 15 fun P hP => ?_
    cbv
    with_reducible refine hP _ ?_
    clear hP P
    with_reducible refine Dr_cut 15 fun P hP => ?_
    cbv
    with_reducible refine hP _ ?_
    clear hP P
    with_reducible refine Dr_cut 15 fun P hP => ?_
    cbv
    with_reducible refine hP _ ?_
    clear hP P
    with_reducible refine Dr_cut 15 fun P hP => ?_
    cbv
    with_reducible refine hP _ ?_
    clear hP P
    with_reducible refine Dr_cut 15 fun P hP => ?_
    cbv
    with_reducible refine hP _ ?_
    clear hP P
    with_reducible refine Dr_end (by kernel_rfl) (by kernel_rfl) ?_
    cbv
    repeat' with_reducible refine And.intro ?_ ?_
    all_goals first | (with_reducible refine hn _ ?_; clear hn hx kk) | (simp only [f5, f9, g1]; done)
    cbv
    refine hk _ _ (Good.pure rfl fun ρ => ?_)
    refine retB ?_
    simp only [f1, f2, f3, f4, f6, f8]

def tW6 (A : Alg) (S : SW) (V : SV) (T : ST) (X : SX) (M : SM) : List (Nat × Sem') := (6, heapSem [.v, .v, .v, .v] A (gLawTells A)) :: ((tM20 A S V T X M))
theorem tW6OK : COK Try.prog (look (tW6 stdA stdW stdV stdT stdX stdM)) := COK_cons ok_wideTells (tM20OK)
end Go.Eng
