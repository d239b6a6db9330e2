/- The law WideTextBack. -/
import Derived.Test.YtmajpppjakdodaaCN17
import Derived.Test.YtmajpppjakdodaaSpecNA
namespace Go.Eng
open Go.Proofs
set_option maxRecDepth 100000
set_option linter.all false
set_option exponentiation.threshold 3000
set_option maxHeartbeats 4000000

def gLawTB (A : Alg) : List CV → List Blk → Option LR
  | [.g [.W _], .s (.int .u8 n)], [] => some ⟨[A.cmp .leq 0 n, A.cmp .lss n 256], .c (.s (.bool true)), []⟩
  | _, _ => none

theorem bytesI_app (a b : ByteArray) : bytesI (a ++ b) = bytesI a ++ bytesI b := by
  unfold bytesI
  rw [ByteArray.data_append, Array.toList_append, List.map_append]

theorem bytesI_size (a : ByteArray) : (bytesI a).length = a.size := by
  unfold bytesI; rw [List.length_map]; rfl

theorem textL_len (w : Wd) : (textL w).length ≤ 400 := by
  have h10 : (2 : Nat) ^ 1024 ≤ 10 ^ 309 := by decide
  by_cases h0 : w.d.n = 0
  · unfold textL; rw [if_pos h0]; decide
  · rw [textL_form w h0, List.length_append, List.length_reverse]
    have := digD_len 400 309 w.d.n (Nat.lt_of_lt_of_le w.d.lt h10)
    cases w.neg <;> simp <;> omega

theorem readL_bad45 (l : List Int) (a : Nat) : readL a (l ++ [45]) = none := by
  rw [readL_append]
  cases readL a l with
  | none => rfl
  | some m => show readL m [45] = none; rw [readL]; simp

theorem parse_minus2 (w : Wd) : parseL (45 :: (textL w ++ [45])) = none := by
  have hb : bodyL (45 :: (textL w ++ [45])) = textL w ++ [45] := by unfold bodyL; rw [if_pos (by simp)]; rfl
  unfold parseL
  rw [hb, readL_bad45]
  split <;> rfl

theorem bytes_text (w : Wd) : bytesI (stdT.text w) = textL w := bytesI_ofB _ fun n hn => textL_byte w n hn

structure TBOK (A : Alg) (T : ST) (x : Wd) (n : Int) : Prop where
  o1 : A.cmp .leq (A.iadd (A.slen ⟨#[48]⟩) (A.slen (T.text x))) 1000000 = true
  o2 : A.cmp .leq (A.iadd (A.slen ⟨#[43]⟩) (A.slen (T.text x))) 1000000 = true
  o3 : A.cmp .leq (A.iadd (A.slen (T.text x)) (A.slen ⟨#[120]⟩)) 1000000 = true
  o4 : A.cmp .leq (A.iadd (A.slen ⟨#[45]⟩) (A.slen (T.text x))) 1000000 = true
  o5 : A.cmp .leq (A.iadd (A.slen (A.scat ⟨#[45]⟩ (T.text x))) (A.slen ⟨#[45]⟩)) 1000000 = true
  o6 : A.cmp .leq 0 (A.bin .rem .u8 n 5) = true
  o7 : A.cmp .lss (A.bin .rem .u8 n 5) (Int.ofNat 5) = true
  fin : A.ite (A.ite (T.parseOK (T.text x)) (A.eqW (T.parse (T.text x)) x) false) (A.not (T.parseOK (A.get [A.scat ⟨#[48]⟩ (T.text x), A.scat ⟨#[43]⟩ (T.text x), A.scat (T.text x) ⟨#[120]⟩, A.scat (A.scat ⟨#[45]⟩ (T.text x)) ⟨#[45]⟩, ⟨#[]⟩] (A.bin .rem .u8 n 5) ⟨#[]⟩))) false = true

theorem tb_ok (x : Wd) (n : Int) (A : Alg) (hA : A = stdA) (S : SW) (hS : S = stdW) (T : ST) (hT : T = stdT) (n0 : 0 ≤ n) (n1 : n < 256) (hv : A.not (S.isW x) = false) : TBOK A T x n := by
  subst hA hS hT
  have ix : isWd x = true := by
    have h : (!(stdW.isW x)) = false := hv
    have h : stdW.isW x = true := by simpa using h
    exact h
  have hl := textL_len x
  have hs : (stdT.text x).size = (textL x).length := by rw [← bytes_text, bytesI_size]
  have hrem : stdA.bin .rem .u8 n 5 = n % 5 := by
    show n.tmod 5 = n % 5
    exact Int.tmod_eq_emod_of_nonneg n0
  have hp : stdT.parseOK (stdT.text x) = true ∧ stdT.parse (stdT.text x) = x := by
    have e : parseL (bytesI (stdT.text x)) = some (wval x) := by rw [bytes_text]; exact parse_text x ix
    constructor
    · show (parseL (bytesI (stdT.text x))).isSome = true
      rw [e]; rfl
    · show (match parseL (bytesI (stdT.text x)) with | some z => ofZ z | none => ⟨false, Dg.zero⟩) = x
      rw [e]; exact ofZ_wval ix
  have hbad : ∀ s : ByteArray, parseL (bytesI s) = none → stdA.not (stdT.parseOK s) = true := fun s h => by
    show (!(parseL (bytesI s)).isSome) = true
    rw [h]; rfl
  refine { o1 := ?_, o2 := ?_, o3 := ?_, o4 := ?_, o5 := ?_, o6 := ?_, o7 := ?_, fin := ?_ }
  · refine leq_of _ rfl _ _ ?_; show ((1 : Nat) : Int) + ((stdT.text x).size : Int) ≤ 1000000; omega
  · refine leq_of _ rfl _ _ ?_; show ((1 : Nat) : Int) + ((stdT.text x).size : Int) ≤ 1000000; omega
  · refine leq_of _ rfl _ _ ?_; show ((stdT.text x).size : Int) + ((1 : Nat) : Int) ≤ 1000000; omega
  · refine leq_of _ rfl _ _ ?_; show ((1 : Nat) : Int) + ((stdT.text x).size : Int) ≤ 1000000; omega
  · refine leq_of _ rfl _ _ ?_
    show (((⟨#[45]⟩ ++ stdT.text x : ByteArray)).size : Int) + ((1 : Nat) : Int) ≤ 1000000
    rw [← bytesI_size, bytesI_app, List.length_append, bytesI_size, bytesI_size]
    show (((1 : Nat) + (stdT.text x).size : Nat) : Int) + ((1 : Nat) : Int) ≤ 1000000
    omega
  · refine leq_of _ rfl _ _ ?_; rw [hrem]; omega
  · refine lss_of _ rfl _ _ ?_; rw [hrem]; show n % 5 < 5; omega
  · have e2 : stdA.eqW (stdT.parse (stdT.text x)) x = true := eqW_of hp.2
    rw [hp.1, e2, hrem]
    have : n % 5 = 0 ∨ n % 5 = 1 ∨ n % 5 = 2 ∨ n % 5 = 3 ∨ n % 5 = 4 := by omega
    rcases this with h | h | h | h | h <;> rw [h]
    · exact hbad (⟨#[48]⟩ ++ stdT.text x) (by rw [bytesI_app, bytes_text]; exact parse_zero x)
    · exact hbad (⟨#[43]⟩ ++ stdT.text x) (by rw [bytesI_app, bytes_text]; exact parse_plus x)
    · exact hbad (stdT.text x ++ ⟨#[120]⟩) (by rw [bytesI_app, bytes_text]; exact parse_x x)
    · exact hbad (⟨#[45]⟩ ++ stdT.text x ++ ⟨#[45]⟩) (by rw [bytesI_app, bytesI_app, bytes_text]; exact parse_minus2 x)
    · exact hbad ⟨#[]⟩ rfl

theorem ok_wideTextBack : CallOK Try.prog 5 (heapSem [.v, .v] stdA (gLawTB stdA)) := by
  refine callOK_heap (un := ⟨false, some [1,2,4,5,6,7,8,9,10,12,15]⟩) tok tN21OK mixed (fn := Try.f5) (by kernel_rfl) (by kernel_rfl) (by kernel_rfl) (by decide +kernel) ?_
  intro w Wr args bs r hg ho hWr A L k hA hL hk
  obtain ⟨S, hS⟩ : ∃ S, S = stdW := ⟨_, rfl⟩
  obtain ⟨T, hT⟩ : ∃ T, T = stdT := ⟨_, rfl⟩
  obtain ⟨V, hV⟩ : ∃ V, V = stdV := ⟨_, rfl⟩
  (try rw [← hS])
  (try rw [← hT])
  (try rw [← hV])
  (try rw [← hA])
  unfold gLawTB at hg
  split at hg
  rotate_left
  · cases hg
  simp only [Option.some.injEq] at hg
  subst hg
  rename_i x n
  have n0 := (ho_cons ho).1
  have n1 := (ho_cons (ho_cons ho).2).1
  clear ho
  simp only [stdA, stdCmp, decide_eq_true_eq] at n0 n1
  have go := tb_ok x n A hA S hS T hT n0 n1
  cbv
  repeat' first | (with_reducible intro hb; cbv) | with_reducible refine And.intro ?_ ?_
  · subst hA
    cases hb
  · exact hk _ _ (Good.pure rfl fun ρ => rfl)
  · exact (go hb).o1
  · exact (go hb).o2
  · exact (go hb).o3
  · exact (go hb).o4
  · exact (go hb).o5
  · exact (go hb).o6
  · exact (go hb).o7
  · refine hk _ _ (Good.pure rfl fun ρ => ?_)
    exact retB (go hb).fin

def tW5 (A : Alg) (S : SW) (V : SV) (T : ST) : List (Nat × Sem') := (5, heapSem [.v, .v] A (gLawTB A)) :: ((tN21 A S V T))
theorem tW5OK : COK Try.prog (look (tW5 stdA stdW stdV stdT)) := COK_cons ok_wideTextBack (tN21OK)
end Go.Eng
