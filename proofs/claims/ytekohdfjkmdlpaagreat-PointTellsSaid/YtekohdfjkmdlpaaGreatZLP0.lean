
import Derived.Test.YtekohdfjkmdlpaaGreatZCTA
import Derived.Test.YtekohdfjkmdlpaaGreatSpecFA
import Derived.Test.YtekohdfjkmdlpaaGreatEngZA
set_option linter.all false
set_option exponentiation.threshold 3000
namespace Go.Eng
open Go.Proofs
set_option maxRecDepth 100000
set_option linter.all false
set_option exponentiation.threshold 3000
set_option maxHeartbeats 2000000
def gHalf (A : Alg) (H : SH) : List CV → List Blk → Option LR
  | [.s (.int .i64 n)], [] => some ⟨[A.cmp .leq (-9223372036854775808) n, A.cmp .lss n 9223372036854775808], .c (.g [.R (H.half n)]), []⟩
  | _, _ => none
theorem new_half {x : Int} (hx : Sm 64 x) : stdF.new (stdW.from64 x) (stdW.from64 2) = ofQ ((x : Rat) / 2) := by
  have e1 : wval (stdW.from64 x) = x := wval_ofZ (hx.fit (by decide))
  have e2 : wval (stdW.from64 2) = 2 := wval_from (by decide)
  have hn : newB (stdW.from64 x) (stdW.from64 2) = true := newB_mk (by rw [e1]; exact hx.mono (by decide)) (by rw [e2]; show (2 : Int).natAbs < 2 ^ 1023; decide) (by rw [e2]; decide) (isWd_ofZ _) (isWd_ofZ _)
  rw [new_q hn, e1, e2, Rat.divInt_eq_div]; rfl
theorem ok_rhalf : CallOK Tryz.prog 54 (heapSem [.v] stdA (gHalf stdA stdH)) := by
  refine callOK_heap (un := ⟨false, some [0,2,3,4]⟩) tok tT3OK mixed (fn := Tryz.f54) (by kernel_rfl) (by kernel_rfl) (by kernel_rfl) (by decide +kernel) ?_
  intro w Wr args bs r hg ho hWr A L k hA hL hk
  obtain ⟨F, hF⟩ : ∃ F, F = stdF := ⟨_, rfl⟩
  obtain ⟨H, hH⟩ : ∃ H, H = stdH := ⟨_, rfl⟩
  obtain ⟨M, hM⟩ : ∃ M, M = stdM := ⟨_, rfl⟩
  obtain ⟨S, hS⟩ : ∃ S, S = stdW := ⟨_, rfl⟩
  obtain ⟨V, hV⟩ : ∃ V, V = stdV := ⟨_, rfl⟩
  obtain ⟨X, hX⟩ : ∃ X, X = stdX := ⟨_, rfl⟩
  (try rw [← hF])
  (try rw [← hH])
  (try rw [← hM])
  (try rw [← hS])
  (try rw [← hV])
  (try rw [← hX])
  (try rw [← hA])
  unfold gHalf at hg
  split at hg
  rotate_left
  · cases hg
  simp only [Option.some.injEq] at hg
  subst hg
  rename_i n
  have o1 := (ho_cons ho).1
  have o2 := (ho_cons (ho_cons ho).2).1
  clear ho
  have e : F.new (S.from64 n) (S.from64 2) = H.half n := by
    simp only [stdA, stdCmp, decide_eq_true_eq] at o1 o2
    subst hS hH hF
    exact new_half (by show n.natAbs < 2 ^ 64; omega)
  have j1 : A.cmp .leq (-9223372036854775808) 2 = true := leq_of A hA _ _ (by omega)
  have j2 : A.cmp .lss 2 9223372036854775808 = true := lss_of A hA _ _ (by omega)
  rw [← hA] at o1 o2
  cbv
  repeat' first | (with_reducible intro hb; cbv) | with_reducible refine And.intro ?_ ?_
  all_goals first | exact o1 | exact o2 | exact j1 | exact j2 | skip
  refine hk _ _ (Good.pure rfl fun ρ => ?_)
  subst hS hH hF
  exact retR e
def tT4 (A : Alg) (S : SW) (V : SV) (X : SX) (M : SM) (F : SF) (H : SH) : List (Nat × Sem') := (54, heapSem [.v] A (gHalf A H)) :: ((tT3 A S V X M F H))
theorem tT4OK : COK Tryz.prog (look (tT4 stdA stdW stdV stdX stdM stdF stdH)) := COK_cons ok_rhalf (tT3OK)
structure KnF (A : Alg) (H : SH) : Prop where
  p1 : H.all [H.at_ 0 0, H.at_ 3 0, H.at_ 0 4] = true
  t : H.turn (H.at_ 0 0) (H.at_ 3 0) (H.at_ 0 4) = 1
  c : A.eqR (H.cross (H.at_ 0 0) (H.at_ 3 0) (H.at_ 0 4)) (H.whole 12) = true
  d : A.eqR (H.dot (H.at_ 0 0) (H.at_ 3 0) (H.at_ 0 4)) (H.whole 0) = true
  p2 : H.all [H.at_ 3 0, H.at_ 0 4, H.at_ 0 4] = true
  f : A.eqR (H.dot (H.at_ 3 0) (H.at_ 0 4) (H.at_ 0 4)) (H.whole 25) = true
  mo : H.midOK [H.at_ 3 0, H.at_ 0 4] = true
  m : A.eqP (H.mid [H.at_ 3 0, H.at_ 0 4]) ⟨H.half 3, H.whole 2⟩ = true
  mi : H.all [H.mid [H.at_ 3 0, H.at_ 0 4]] = true
  no : H.midOK [] = false
  p3 : H.all [H.at_ 0 0, H.at_ 3 0] = true
  r : H.cmp (H.at_ 0 0) (H.at_ 3 0) = -1
  z : H.all [⟨⟨⟨false, Dg.zero⟩, ⟨false, Dg.zero⟩⟩, ⟨⟨false, Dg.zero⟩, ⟨false, Dg.zero⟩⟩⟩] = false
  e : ∀ n : Int, A.cmp .eql n n = true
  n0 : A.not false = true
  n1 : A.not true = false
  i : ∀ b, A.ite true b false = b
theorem kn_f (A : Alg) (hA : A = stdA) (H : SH) (hH : H = stdH) : KnF A H := by
  subst hA hH
  have a0 : AtP (stdH.at_ 0 0) 0 0 := atP (by show (0 : Int).natAbs < 2 ^ 60; decide) (by show (0 : Int).natAbs < 2 ^ 60; decide)
  have a1 : AtP (stdH.at_ 3 0) 3 0 := atP (by show (3 : Int).natAbs < 2 ^ 60; decide) (by show (0 : Int).natAbs < 2 ^ 60; decide)
  have a2 : AtP (stdH.at_ 0 4) 0 4 := atP (by show (0 : Int).natAbs < 2 ^ 60; decide) (by show (4 : Int).natAbs < 2 ^ 60; decide)
  have p1 := all3 a0.is a1.is a2.is
  have p2 := all3 a1.is a2.is a2.is
  have p3 := all2 a0.is a1.is
  have mo : midB [stdH.at_ 3 0, stdH.at_ 0 4] = true := midB_of (by show 2 ≠ 0; decide) (by show 2 ≤ 4; decide) (all2 a1.is a2.is)
  have hm : stdH.mid [stdH.at_ 3 0, stdH.at_ 0 4] = ⟨ofQ ((3 : Int) / 2), ofQ ((2 : Int) : Rat)⟩ := by
    rw [mid_ok mo]
    unfold midP
    have ex : sumQ ([stdH.at_ 3 0, stdH.at_ 0 4].map px) / (([stdH.at_ 3 0, stdH.at_ 0 4].length : Int) : Rat) = ((3 : Int) : Rat) / 2 := by
      show (px (stdH.at_ 3 0) + (px (stdH.at_ 0 4) + 0)) / ((2 : Int) : Rat) = _
      rw [a1.x, a2.x]; decide +kernel
    have ey : sumQ ([stdH.at_ 3 0, stdH.at_ 0 4].map py) / (([stdH.at_ 3 0, stdH.at_ 0 4].length : Int) : Rat) = ((2 : Int) : Rat) := by
      show (py (stdH.at_ 3 0) + (py (stdH.at_ 0 4) + 0)) / ((2 : Int) : Rat) = _
      rw [a1.y, a2.y]; decide +kernel
    rw [ex, ey]
  have s1 : SmQ 60 (((3 : Int) : Rat) / 2) := ⟨by show (((3 : Int) : Rat) / 2).num.natAbs < 2 ^ 60; decide +kernel, by show ((((3 : Int) : Rat) / 2).den : Int).natAbs < 2 ^ 60; decide +kernel⟩
  have s2 : SmQ 60 ((2 : Int) : Rat) := smQ_int (by show (2 : Int).natAbs < 2 ^ 60; decide) (by decide)
  exact {
    p1 := p1
    t := by rw [turn_ok p1, cross_int a0 a1 a2, sgnQ_int0]; decide
    c := eqR_of (by rw [cross_ok p1, cross_int a0 a1 a2]; rfl)
    d := eqR_of (by rw [dot_ok p1, dot_int a0 a1 a2]; rfl)
    p2 := p2
    f := eqR_of (by rw [dot_ok p2, dot_int a1 a2 a2]; rfl)
    mo := mo
    m := eqP_of hm
    mi := by
      rw [hm]
      show (ptOK _ && true) = true
      rw [isPt_iff.2 ⟨SafeR.ofQ s1 (by decide), SafeR.ofQ s2 (by decide)⟩]; rfl
    no := rfl
    p3 := p3
    r := by
      rw [cmp_ok p3]
      unfold pcmp
      rw [a0.x, a1.x, sgnQ_int]; decide
    z := by decide +kernel
    e := fun n => by show (n == n) = true; simp
    n0 := rfl
    n1 := rfl
    i := fun b => rfl }
theorem ok_known3 : CallOK Tryz.prog 13 (heapSem [] stdA (gKnown)) := by
  refine callOK_heap (un := ⟨false, some [0,1,2,3,4,5,6,7,8,9,10,11,12,13,14,15,16,17]⟩) tok tT4OK mixed (fn := Tryz.f13) (by kernel_rfl) (by kernel_rfl) (by kernel_rfl) (by decide +kernel) ?_
  intro w Wr args bs r hg ho hWr A L k hA hL hk
  obtain ⟨F, hF⟩ : ∃ F, F = stdF := ⟨_, rfl⟩
  obtain ⟨H, hH⟩ : ∃ H, H = stdH := ⟨_, rfl⟩
  obtain ⟨M, hM⟩ : ∃ M, M = stdM := ⟨_, rfl⟩
  obtain ⟨S, hS⟩ : ∃ S, S = stdW := ⟨_, rfl⟩
  obtain ⟨V, hV⟩ : ∃ V, V = stdV := ⟨_, rfl⟩
  obtain ⟨X, hX⟩ : ∃ X, X = stdX := ⟨_, rfl⟩
  (try rw [← hF])
  (try rw [← hH])
  (try rw [← hM])
  (try rw [← hS])
  (try rw [← hV])
  (try rw [← hX])
  (try rw [← hA])
  unfold gKnown at hg
  split at hg
  rotate_left
  · cases hg
  simp only [Option.some.injEq] at hg
  subst hg
  refine runF_body rfl ?_
  with_reducible refine run_seq_cut fun kk hn hx => ?_
  cbv
  repeat' first | (with_reducible intro hb; cbv) | with_reducible refine And.intro ?_ ?_
  all_goals first | (with_reducible refine hn _ ?_; clear hn hx kk) | ((try subst hA); (try subst hS); (try subst hR); (try subst hX); (try subst hC); (try subst hV); (try subst hT); (try subst hM); (try subst hF); (try subst hH); (try subst hK); (try subst hJ); (try subst hE); (try subst hD); decide +kernel)
  with_reducible refine run_seq_cut fun kk hn hx => ?_
  cbv
  repeat' first | (with_reducible intro hb; cbv) | with_reducible refine And.intro ?_ ?_
  all_goals first | (with_reducible refine hn _ ?_; clear hn hx kk) | ((try subst hA); (try subst hS); (try subst hR); (try subst hX); (try subst hC); (try subst hV); (try subst hT); (try subst hM); (try subst hF); (try subst hH); (try subst hK); (try subst hJ); (try subst hE); (try subst hD); decide +kernel)
  with_reducible refine run_seq_cut fun kk hn hx => ?_
  cbv
  repeat' first | (with_reducible intro hb; cbv) | with_reducible refine And.intro ?_ ?_
  all_goals first | (with_reducible refine hn _ ?_; clear hn hx kk) | ((try subst hA); (try subst hS); (try subst hR); (try subst hX); (try subst hC); (try subst hV); (try subst hT); (try subst hM); (try subst hF); (try subst hH); (try subst hK); (try subst hJ); (try subst hE); (try subst hD); decide +kernel)
  with_reducible refine run_seq_cut fun kk hn hx => ?_
  cbv
  repeat' first | (with_reducible intro hb; cbv) | with_reducible refine And.intro ?_ ?_
  all_goals first | (with_reducible refine hn _ ?_; clear hn hx kk) | ((try subst hA); (try subst hS); (try subst hR); (try subst hX); (try subst hC); (try subst hV); (try subst hT); (try subst hM); (try subst hF); (try subst hH); (try subst hK); (try subst hJ); (try subst hE); (try subst hD); decide +kernel)
  with_reducible refine run_seq_cut fun kk hn hx => ?_
  cbv
  repeat' first | (with_reducible intro hb; cbv) | with_reducible refine And.intro ?_ ?_
  all_goals first | (with_reducible refine hn _ ?_; clear hn hx kk) | ((try subst hA); (try subst hS); (try subst hR); (try subst hX); (try subst hC); (try subst hV); (try subst hT); (try subst hM); (try subst hF); (try subst hH); (try subst hK); (try subst hJ); (try subst hE); (try subst hD); decide +kernel)
  with_reducible refine run_seq_cut fun kk hn hx => ?_
  cbv
  repeat' first | (with_reducible intro hb; cbv) | with_reducible refine And.intro ?_ ?_
  all_goals first | (with_reducible refine hn _ ?_; clear hn hx kk) | ((try subst hA); (try subst hS); (try subst hR); (try subst hX); (try subst hC); (try subst hV); (try subst hT); (try subst hM); (try subst hF); (try subst hH); (try subst hK); (try subst hJ); (try subst hE); (try subst hD); decide +kernel)
  with_reducible refine run_seq_cut fun kk hn hx => ?_
  cbv
  repeat' first | (with_reducible intro hb; cbv) | with_reducible refine And.intro ?_ ?_
  all_goals first | (with_reducible refine hn _ ?_; clear hn hx kk) | ((try subst hA); (try subst hS); (try subst hR); (try subst hX); (try subst hC); (try subst hV); (try subst hT); (try subst hM); (try subst hF); (try subst hH); (try subst hK); (try subst hJ); (try subst hE); (try subst hD); decide +kernel)
  with_reducible refine run_seq_cut fun kk hn hx => ?_
  cbv
  repeat' first | (with_reducible intro hb; cbv) | with_reducible refine And.intro ?_ ?_
  all_goals first | (with_reducible refine hn _ ?_; clear hn hx kk) | ((try subst hA); (try subst hS); (try subst hR); (try subst hX); (try subst hC); (try subst hV); (try subst hT); (try subst hM); (try subst hF); (try subst hH); (try subst hK); (try subst hJ); (try subst hE); (try subst hD); decide +kernel)
  with_reducible refine run_seq_cut fun kk hn hx => ?_
  cbv
  repeat' first | (with_reducible intro hb; cbv) | with_reducible refine And.intro ?_ ?_
  all_goals first | (with_reducible refine hn _ ?_; clear hn hx kk) | ((try subst hA); (try subst hS); (try subst hR); (try subst hX); (try subst hC); (try subst hV); (try subst hT); (try subst hM); (try subst hF); (try subst hH); (try subst hK); (try subst hJ); (try subst hE); (try subst hD); decide +kernel)
  with_reducible refine run_seq_cut fun kk hn hx => ?_
  with_reducible refine Dr_run (hsp := by kernel_rfl) (by decide +kernel) ?_
  with_reducible refine Dr_cut 15 fun P hP => ?_
  cbv
  with_reducible refine hP _ ?_
  clear hP P
  with_reducible refine Dr_cut 15 fun P hP => ?_
  cbv
  with_reducible refine hP _ ?_
  clear hP P
  with_reducible refine Dr_cut 15 fun P hP => ?_
  cbv
  with_reducible refine hP _ ?_
  clear hP P
  with_reducible refine Dr_cut 10 fun P hP => ?_
  cbv
  with_reducible refine hP _ ?_
  clear hP P
  with_reducible refine Dr_cut 5 fun P hP => ?_
  cbv
  with_reducible refine hP _ ?_
  clear hP P
  with_reducible refine Dr_end (by kernel_rfl) (by kernel_rfl) ?_
  have kn := kn_f A hA H hH
  cbv
  repeat' with_reducible refine And.intro ?_ ?_
  all_goals first | (with_reducible refine hn _ ?_; clear hn hx kk) | (with_reducible refine impA hA ?_; (try subst hA); (try subst hS); (try subst hR); (try subst hX); (try subst hC); (try subst hV); (try subst hT); (try subst hM); (try subst hF); (try subst hH); (try subst hK); (try subst hJ); (try subst hE); (try subst hD); decide +kernel)
  cbv
  refine hk _ _ (Good.pure rfl fun ρ => ?_)
  refine retB ?_
  simp only [kn.p1, kn.t, kn.c, kn.d, kn.p2, kn.f, kn.mo, kn.m, kn.mi, kn.no, kn.p3, kn.r, kn.z, kn.e, kn.n0, kn.n1, kn.i]
  exact (congrArg A.not kn.z).trans kn.n0
end Go.Eng

