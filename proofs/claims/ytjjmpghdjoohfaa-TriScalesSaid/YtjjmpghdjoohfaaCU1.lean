
import Derived.Test.YtjjmpghdjoohfaaCTA
set_option linter.all false
set_option exponentiation.threshold 3000
namespace Go.Eng
open Go.Proofs
set_option maxRecDepth 100000
set_option linter.all false
set_option exponentiation.threshold 3000
set_option maxHeartbeats 2000000
def tJ1 (A : Alg) (H : SH) : List (Nat × Sem') := (17, heapSem [.v] A (gWholeH A H)) :: ([])
theorem tJ1OK : COK Try.prog (look (tJ1 stdA stdH)) := COK_cons ok_rwhole (COK_nil)
theorem ok_qat : CallOK Try.prog 11 (heapSem [.v, .v] stdA (gAtP stdA stdH)) := by
  refine callOK_heap (un := ⟨false, some [0,1,4]⟩) tok tJ1OK mixed (fn := Try.f11) (by kernel_rfl) (by kernel_rfl) (by kernel_rfl) (by decide +kernel) ?_
  intro w Wr args bs r hg ho hWr A L k hA hL hk
  obtain ⟨H, hH⟩ : ∃ H, H = stdH := ⟨_, rfl⟩
  (try rw [← hH])
  (try rw [← hA])
  unfold gAtP at hg
  split at hg
  rotate_left
  · cases hg
  simp only [Option.some.injEq] at hg
  subst hg
  rename_i x y
  have o1 := (ho_cons ho).1
  have o2 := (ho_cons (ho_cons ho).2).1
  have o3 := (ho_cons (ho_cons (ho_cons ho).2).2).1
  have o4 := (ho_cons (ho_cons (ho_cons (ho_cons ho).2).2).2).1
  clear ho
  rw [← hA] at o1 o2 o3 o4
  cbv
  repeat' first | (with_reducible intro hb; cbv) | with_reducible refine And.intro ?_ ?_
  all_goals first | exact o1 | exact o2 | exact o3 | exact o4 | skip
  refine hk _ _ (Good.pure rfl fun ρ => ?_)
  subst hH
  exact retP rfl
def tJ2 (A : Alg) (F : SF) : List (Nat × Sem') := (20, heapSem [.v, .v] A (gSafeR F)) :: ([])
theorem tJ2OK : COK Try.prog (look (tJ2 stdA stdF)) := COK_cons ok_rsafe (COK_nil)
theorem ok_qis : CallOK Try.prog 8 (heapSem [.v] stdA (gIsP stdH)) := by
  refine callOK_heap (un := ⟨false, some [1,2]⟩) tok tJ2OK mixed (fn := Try.f8) (by kernel_rfl) (by kernel_rfl) (by kernel_rfl) (by decide +kernel) ?_
  intro w Wr args bs r hg ho hWr A L k hA hL hk
  obtain ⟨F, hF⟩ : ∃ F, F = stdF := ⟨_, rfl⟩
  obtain ⟨H, hH⟩ : ∃ H, H = stdH := ⟨_, rfl⟩
  (try rw [← hF])
  (try rw [← hH])
  (try rw [← hA])
  unfold gIsP at hg
  split at hg
  rotate_left
  · cases hg
  simp only [Option.some.injEq] at hg
  subst hg
  rename_i p
  have f : A.ite (F.safe p.X 60) (F.safe p.Y 60) false = H.all [p] := by
    subst hA hF hH
    show (if safeR p.X 60 = true then safeR p.Y 60 else false) = (ptOK p && true)
    rw [Bool.and_true]
    unfold ptOK
    cases safeR p.X 60 <;> rfl
  cbv
  refine hk _ _ (Good.pure rfl fun ρ => ?_)
  subst hH
  exact retB f
structure AqStep (A : Alg) (H : SH) (l : List Pt) (k : Int) (w : Pt) : Prop where
  o1 : A.cmp .leq 0 k = true
  no : A.not (H.all [w]) = true → false = H.all l
  nx : A.not (H.all [w]) = false → ApI l (k + 1)
  ad : A.bin .add .i64 k 1 = k + 1
  ms : ((l.length : Int) - (k + 1)).toNat < ((l.length : Int) - k).toNat
theorem aq_step {l : List Pt} (hn : l.length < 1000000) {k : Int} (hI : ApI l k) (A : Alg) (hA : A = stdA) (H : SH) (hH : H = stdH) (hb : A.cmp .lss k (A.len l) = true) (w : Pt) (hw : w = A.get l k ⟨⟨⟨false, A.zD⟩, ⟨false, A.zD⟩⟩, ⟨⟨false, A.zD⟩, ⟨false, A.zD⟩⟩⟩) : AqStep A H l k w := by
  have st := ap_step hn hI A hA stdF rfl H hH hb w hw
  have e : A.ite (A.not (stdF.safe w.X 60)) true (A.not (stdF.safe w.Y 60)) = A.not (H.all [w]) := by
    subst hA hH
    show (if (!safeR w.X 60) = true then true else !safeR w.Y 60) = !(ptOK w && true)
    rw [Bool.and_true]
    unfold ptOK
    cases safeR w.X 60 <;> cases safeR w.Y 60 <;> rfl
  exact ⟨st.o1, fun h => st.no (by rw [e]; exact h), fun h => st.nx (by rw [e]; exact h), st.ad, st.ms⟩
def gCrossP (H : SH) : List CV → List Blk → Option LR
  | [.g [.P x], .g [.P y], .g [.P z]], [] => some ⟨[], .t [.g [.R (H.cross x y z)], .s (.bool (H.all [x, y, z]))], []⟩
  | _, _ => none
theorem sign_dot (a b c : Pt) : stdF.sign (stdH.dot a b c) = if allP [a, b, c] = true then sgnQ (dotQ a b c) 0 else 0 := by
  show stdF.sign (if allP [a, b, c] = true then ofQ (dotQ a b c) else zeroR) = _
  cases h : allP [a, b, c]
  · rfl
  · obtain ⟨ha, hb, hc⟩ := allP_three h
    have x1 := (Cal.of hb.x).sub (Cal.of ha.x) (by decide)
    have y1 := (Cal.of hc.y).sub (Cal.of ha.y) (by decide)
    have x2 := (Cal.of hb.y).sub (Cal.of ha.y) (by decide)
    have y2 := (Cal.of hc.x).sub (Cal.of ha.x) (by decide)
    have m3 := x1.2.mul y2.2 (by decide)
    have m4 := x2.2.mul y1.2 (by decide)
    have m := m3.2.add m4.2 (by decide)
    show stdF.sign (ofQ (dotQ a b c)) = sgnQ (dotQ a b c) 0
    have e : ofQ (dotQ a b c) = stdF.add (stdF.mul (stdF.sub b.X a.X) (stdF.sub c.X a.X)) (stdF.mul (stdF.sub b.Y a.Y) (stdF.sub c.Y a.Y)) := m.2.eq.symm
    rw [e]
    exact m.2.sign
end Go.Eng

