
import Derived.Test.YtekohdfjkmdlpaaGreatZCTA
set_option linter.all false
set_option exponentiation.threshold 3000
namespace Go.Eng
open Go.Proofs
set_option maxRecDepth 100000
set_option linter.all false
set_option exponentiation.threshold 3000
set_option maxHeartbeats 2000000
def tJ1 (A : Alg) (H : SH) : List (Nat × Sem') := (53, heapSem [.v] A (gWholeH A H)) :: ([])
theorem tJ1OK : COK Tryz.prog (look (tJ1 stdA stdH)) := COK_cons ok_rwhole (COK_nil)
theorem ok_qat : CallOK Tryz.prog 29 (heapSem [.v, .v] stdA (gAtP stdA stdH)) := by
  refine callOK_heap (un := ⟨false, some [0,1,4]⟩) tok tJ1OK mixed (fn := Tryz.f29) (by kernel_rfl) (by kernel_rfl) (by kernel_rfl) (by decide +kernel) ?_
  intro w Wr args bs r hg ho hWr A L k hA hL hk
  obtain ⟨H, hH⟩ : ∃ H, H = stdH := ⟨_, rfl⟩
  (try rw [← hH])
  (try rw [← hA])
  unfold gAtP at hg
  split at hg
  rotate_left
  · cases hg
  simp only [Option.some.injEq] at hg
  subst hg
  rename_i x y
  have o1 := (ho_cons ho).1
  have o2 := (ho_cons (ho_cons ho).2).1
  have o3 := (ho_cons (ho_cons (ho_cons ho).2).2).1
  have o4 := (ho_cons (ho_cons (ho_cons (ho_cons ho).2).2).2).1
  clear ho
  rw [← hA] at o1 o2 o3 o4
  cbv
  repeat' first | (with_reducible intro hb; cbv) | with_reducible refine And.intro ?_ ?_
  all_goals first | exact o1 | exact o2 | exact o3 | exact o4 | skip
  refine hk _ _ (Good.pure rfl fun ρ => ?_)
  subst hH
  exact retP rfl
def tJ2 (A : Alg) (F : SF) : List (Nat × Sem') := (74, heapSem [.v, .v] A (gSafeR F)) :: ([])
theorem tJ2OK : COK Tryz.prog (look (tJ2 stdA stdF)) := COK_cons ok_rsafe (COK_nil)
theorem ok_qis : CallOK Tryz.prog 27 (heapSem [.v] stdA (gIsP stdH)) := by
  refine callOK_heap (un := ⟨false, some [1,2]⟩) tok tJ2OK mixed (fn := Tryz.f27) (by kernel_rfl) (by kernel_rfl) (by kernel_rfl) (by decide +kernel) ?_
  intro w Wr args bs r hg ho hWr A L k hA hL hk
  obtain ⟨F, hF⟩ : ∃ F, F = stdF := ⟨_, rfl⟩
  obtain ⟨H, hH⟩ : ∃ H, H = stdH := ⟨_, rfl⟩
  (try rw [← hF])
  (try rw [← hH])
  (try rw [← hA])
  unfold gIsP at hg
  split at hg
  rotate_left
  · cases hg
  simp only [Option.some.injEq] at hg
  subst hg
  rename_i p
  have f : A.ite (F.safe p.X 60) (F.safe p.Y 60) false = H.all [p] := by
    subst hA hF hH
    show (if safeR p.X 60 = true then safeR p.Y 60 else false) = (ptOK p && true)
    rw [Bool.and_true]
    unfold ptOK
    cases safeR p.X 60 <;> rfl
  cbv
  refine hk _ _ (Good.pure rfl fun ρ => ?_)
  subst hH
  exact retB f
structure AqStep (A : Alg) (H : SH) (l : List Pt) (k : Int) (w : Pt) : Prop where
  o1 : A.cmp .leq 0 k = true
  no : A.not (H.all [w]) = true → false = H.all l
  nx : A.not (H.all [w]) = false → ApI l (k + 1)
  ad : A.bin .add .i64 k 1 = k + 1
  ms : ((l.length : Int) - (k + 1)).toNat < ((l.length : Int) - k).toNat
theorem aq_step {l : List Pt} (hn : l.length < 1000000) {k : Int} (hI : ApI l k) (A : Alg) (hA : A = stdA) (H : SH) (hH : H = stdH) (hb : A.cmp .lss k (A.len l) = true) (w : Pt) (hw : w = A.get l k ⟨⟨⟨false, A.zD⟩, ⟨false, A.zD⟩⟩, ⟨⟨false, A.zD⟩, ⟨false, A.zD⟩⟩⟩) : AqStep A H l k w := by
  have st := ap_step hn hI A hA stdF rfl H hH hb w hw
  have e : A.ite (A.not (stdF.safe w.X 60)) true (A.not (stdF.safe w.Y 60)) = A.not (H.all [w]) := by
    subst hA hH
    show (if (!safeR w.X 60) = true then true else !safeR w.Y 60) = !(ptOK w && true)
    rw [Bool.and_true]
    unfold ptOK
    cases safeR w.X 60 <;> cases safeR w.Y 60 <;> rfl
  exact ⟨st.o1, fun h => st.no (by rw [e]; exact h), fun h => st.nx (by rw [e]; exact h), st.ad, st.ms⟩
def tJ3 (A : Alg) (H : SH) : List (Nat × Sem') := (27, heapSem [.v] A (gIsP H)) :: ([])
theorem tJ3OK : COK Tryz.prog (look (tJ3 stdA stdH)) := COK_cons ok_qis (COK_nil)
theorem ok_qall : CallOK Tryz.prog 72 (heapSem [.s .pt] stdA (gAllP stdA stdH)) := by
  refine callOK_heap (un := ⟨false, some [0,2,3,7,15]⟩) tok tJ3OK mixed (fn := Tryz.f72) (by kernel_rfl) (by kernel_rfl) (by kernel_rfl) (by decide +kernel) ?_
  intro w Wr args bs r hg ho hWr A L k hA hL hk
  obtain ⟨H, hH⟩ : ∃ H, H = stdH := ⟨_, rfl⟩
  (try rw [← hH])
  (try rw [← hA])
  unfold gAllP at hg
  split at hg
  rotate_left
  · cases hg
  simp only [Option.some.injEq] at hg
  subst hg
  rename_i l
  have hlen := (ho_cons ho).1
  simp only [stdA, stdCmp, decide_eq_true_eq] at hlen
  have hlen : l.length < 1000000 := by omega
  clear ho
  have i0 : ApI l 0 := ⟨Int.le_refl 0, Int.natCast_nonneg _, rfl⟩
  cbv
  refine hL _ _ _ (loop_rule (un := ⟨false, some [0, 2, 3, 7, 15]⟩) tok tJ3OK mixed (fun k : Int => ⟨[(3, ⟨[], .c (.s (.int .i64 k))⟩), (2, ⟨[], .c (.s (.tt false))⟩), (0, ⟨[], .c (.s (.hs 0))⟩)], [(0, .vec false .pt l)], 1⟩)
    (fun k => ApI l k) (fun k => ((l.length : Int) - k).toNat) 0 i0 ?_ (fun _ i hi => by have := hWr i hi; simp at this; show i < 1; omega) ?_)
  · exact ⟨⟨⟨rfl, rfl, fun _ => rfl⟩, ⟨rfl, rfl, fun _ => rfl⟩, ⟨rfl, rfl, fun _ => rfl⟩, trivial⟩, ⟨leRefl rfl, trivial⟩, rfl, rfl⟩
  clear i0
  rintro k hI A2 L2 k2 hA2 hL2 hnext hexit hret
  have st := fun hb : A2.cmp .lss k (A2.len l) = true => aq_step hlen hI A2 hA2 H hH hb _ rfl
  have en := fun hb : A2.cmp .lss k (A2.len l) = false => ap_end hI A2 hA2 H hH hb
  clear hI
  rw [← hA2, ← hH]
  cbv
  repeat' first | (with_reducible intro hb; cbv) | with_reducible refine And.intro ?_ ?_
  all_goals first | exact (st hb).o1 | exact hb | skip
  · rename_i hb0
    have e := (st hb0).no hb
    apply hret
    clear hexit hnext hret st en
    cbv
    refine hk _ _ (Good.pure rfl fun ρ => ?_)
    subst hH
    exact retT e
  · rename_i hb0
    refine hnext _ (k + 1) ((st hb0).nx hb) (st hb0).ms ?_
    have ead := (st hb0).ad
    subst hA2
    exact ⟨⟨⟨rfl, rfl, leI ead⟩, ⟨rfl, rfl, fun _ => rfl⟩, ⟨rfl, rfl, fun _ => rfl⟩, trivial⟩, ⟨leRefl rfl, trivial⟩, rfl, rfl⟩
  · have e := en hb
    apply hexit
    clear hexit hnext hret st en
    cbv
    refine hk _ _ (Good.pure rfl fun ρ => ?_)
    subst hH
    exact retT e
def gLessR (F : SF) : List CV → List Blk → Option LR
  | [.g [.R a], .g [.R b]], [] => some ⟨[], .c (.g [.R (F.sub a b)]), []⟩
  | _, _ => none
def gTimesR (F : SF) : List CV → List Blk → Option LR
  | [.g [.R a], .g [.R b]], [] => some ⟨[], .c (.g [.R (F.mul a b)]), []⟩
  | _, _ => none
def gPlusR (F : SF) : List CV → List Blk → Option LR
  | [.g [.R a], .g [.R b]], [] => some ⟨[], .c (.g [.R (F.add a b)]), []⟩
  | _, _ => none
def tJ4 (A : Alg) (F : SF) : List (Nat × Sem') := (119, heapSem [.v, .v] A (gAddF F)) :: (116, heapSem [.v, .v] A (gSubF F)) :: (117, heapSem [.v, .v] A (gMulF F)) :: (73, heapSem [.v, .v] A (gDivF F)) :: ([])
theorem tJ4OK : COK Tryz.prog (look (tJ4 stdA stdF)) := COK_cons ok_radd (COK_cons ok_rsub (COK_cons ok_rmul (COK_cons ok_rdiv (COK_nil))))
theorem ok_qless : CallOK Tryz.prog 62 (heapSem [.v, .v] stdA (gLessR stdF)) := by
  refine callOK_heap (un := ⟨false, none⟩) tok tJ4OK mixed (fn := Tryz.f62) (by kernel_rfl) (by kernel_rfl) (by kernel_rfl) (by decide +kernel) ?_
  intro w Wr args bs r hg ho hWr A L k hA hL hk
  obtain ⟨F, hF⟩ : ∃ F, F = stdF := ⟨_, rfl⟩
  (try rw [← hF])
  (try rw [← hA])
  unfold gLessR at hg
  split at hg
  rotate_left
  · cases hg
  simp only [Option.some.injEq] at hg
  subst hg
  cbv
  refine hk _ _ (Good.pure rfl fun ρ => ?_)
  subst hF
  exact retR rfl
theorem ok_qtimes : CallOK Tryz.prog 63 (heapSem [.v, .v] stdA (gTimesR stdF)) := by
  refine callOK_heap (un := ⟨false, none⟩) tok tJ4OK mixed (fn := Tryz.f63) (by kernel_rfl) (by kernel_rfl) (by kernel_rfl) (by decide +kernel) ?_
  intro w Wr args bs r hg ho hWr A L k hA hL hk
  obtain ⟨F, hF⟩ : ∃ F, F = stdF := ⟨_, rfl⟩
  (try rw [← hF])
  (try rw [← hA])
  unfold gTimesR at hg
  split at hg
  rotate_left
  · cases hg
  simp only [Option.some.injEq] at hg
  subst hg
  cbv
  refine hk _ _ (Good.pure rfl fun ρ => ?_)
  subst hF
  exact retR rfl
theorem ok_qplus : CallOK Tryz.prog 65 (heapSem [.v, .v] stdA (gPlusR stdF)) := by
  refine callOK_heap (un := ⟨false, none⟩) tok tJ4OK mixed (fn := Tryz.f65) (by kernel_rfl) (by kernel_rfl) (by kernel_rfl) (by decide +kernel) ?_
  intro w Wr args bs r hg ho hWr A L k hA hL hk
  obtain ⟨F, hF⟩ : ∃ F, F = stdF := ⟨_, rfl⟩
  (try rw [← hF])
  (try rw [← hA])
  unfold gPlusR at hg
  split at hg
  rotate_left
  · cases hg
  simp only [Option.some.injEq] at hg
  subst hg
  cbv
  refine hk _ _ (Good.pure rfl fun ρ => ?_)
  subst hF
  exact retR rfl
structure QcF (A : Alg) (F : SF) (H : SH) (a b c : Pt) : Prop where
  no : A.ite (A.ite (A.not (H.all [a])) true (A.not (H.all [b]))) true (A.not (H.all [c])) = true → false = H.all [a, b, c] ∧ zeroR = H.cross a b c ∧ zeroR = H.dot a b c
  ok : A.ite (A.ite (A.not (H.all [a])) true (A.not (H.all [b]))) true (A.not (H.all [c])) = false → true = H.all [a, b, c] ∧
    F.sub (F.mul (F.sub b.X a.X) (F.sub c.Y a.Y)) (F.mul (F.sub b.Y a.Y) (F.sub c.X a.X)) = H.cross a b c ∧
    F.add (F.mul (F.sub b.X a.X) (F.sub c.X a.X)) (F.mul (F.sub b.Y a.Y) (F.sub c.Y a.Y)) = H.dot a b c
theorem qc_f (a b c : Pt) (A : Alg) (hA : A = stdA) (F : SF) (hF : F = stdF) (H : SH) (hH : H = stdH) : QcF A F H a b c := by
  subst hA hF hH
  have hc : stdA.ite (stdA.ite (stdA.not (stdH.all [a])) true (stdA.not (stdH.all [b]))) true (stdA.not (stdH.all [c])) = !allP [a, b, c] := by
    show (if (if (!(ptOK a && true)) = true then true else !(ptOK b && true)) = true then true else !(ptOK c && true)) = !(ptOK a && (ptOK b && (ptOK c && true)))
    cases ptOK a <;> cases ptOK b <;> cases ptOK c <;> rfl
  refine ⟨fun h => ?_, fun h => ?_⟩
  · rw [hc, Bool.not_eq_true'] at h
    refine ⟨h.symm, ?_, ?_⟩
    · show zeroR = if allP [a, b, c] = true then _ else zeroR
      rw [h]; rfl
    · show zeroR = if allP [a, b, c] = true then _ else zeroR
      rw [h]; rfl
  · rw [hc, Bool.not_eq_false'] at h
    obtain ⟨ha, hb, hc⟩ := allP_three h
    have x1 := (Cal.of hb.x).sub (Cal.of ha.x) (by decide)
    have y1 := (Cal.of hc.y).sub (Cal.of ha.y) (by decide)
    have x2 := (Cal.of hb.y).sub (Cal.of ha.y) (by decide)
    have y2 := (Cal.of hc.x).sub (Cal.of ha.x) (by decide)
    have m1 := x1.2.mul y1.2 (by decide)
    have m2 := x2.2.mul y2.2 (by decide)
    have m3 := x1.2.mul y2.2 (by decide)
    have m4 := x2.2.mul y1.2 (by decide)
    refine ⟨h.symm, ?_, ?_⟩
    · rw [cross_ok h]
      exact (m1.2.sub m2.2 (by decide)).2.eq
    · rw [dot_ok h]
      exact (m3.2.add m4.2 (by decide)).2.eq
def gCrossP (H : SH) : List CV → List Blk → Option LR
  | [.g [.P x], .g [.P y], .g [.P z]], [] => some ⟨[], .t [.g [.R (H.cross x y z)], .s (.bool (H.all [x, y, z]))], []⟩
  | _, _ => none
def gDotR (H : SH) : List CV → List Blk → Option LR
  | [.g [.P x], .g [.P y], .g [.P z]], [] => some ⟨[], .t [.g [.R (H.dot x y z)], .s (.bool (H.all [x, y, z]))], []⟩
  | _, _ => none
def gTurnP (H : SH) : List CV → List Blk → Option LR
  | [.g [.P x], .g [.P y], .g [.P z]], [] => some ⟨[], .t [.s (.int .i64 (H.turn x y z)), .s (.bool (H.all [x, y, z]))], []⟩
  | _, _ => none
def tJ5 (A : Alg) (F : SF) (H : SH) : List (Nat × Sem') := (27, heapSem [.v] A (gIsP H)) :: (62, heapSem [.v, .v] A (gLessR F)) :: (63, heapSem [.v, .v] A (gTimesR F)) :: (65, heapSem [.v, .v] A (gPlusR F)) :: ([])
theorem tJ5OK : COK Tryz.prog (look (tJ5 stdA stdF stdH)) := COK_cons ok_qis (COK_cons ok_qless (COK_cons ok_qtimes (COK_cons ok_qplus (COK_nil))))
theorem ok_qcross : CallOK Tryz.prog 17 (heapSem [.v, .v, .v] stdA (gCrossP stdH)) := by
  refine callOK_heap (un := ⟨false, some [3,4,5,6,7,20]⟩) tok tJ5OK mixed (fn := Tryz.f17) (by kernel_rfl) (by kernel_rfl) (by kernel_rfl) (by decide +kernel) ?_
  intro w Wr args bs r hg ho hWr A L k hA hL hk
  obtain ⟨F, hF⟩ : ∃ F, F = stdF := ⟨_, rfl⟩
  obtain ⟨H, hH⟩ : ∃ H, H = stdH := ⟨_, rfl⟩
  (try rw [← hF])
  (try rw [← hH])
  (try rw [← hA])
  unfold gCrossP at hg
  split at hg
  rotate_left
  · cases hg
  simp only [Option.some.injEq] at hg
  subst hg
  rename_i a b c
  have cf := qc_f a b c A hA F hF H hH
  cbv
  repeat' first | (with_reducible intro hb; cbv) | with_reducible refine And.intro ?_ ?_
  · have e := cf.no hb
    refine hk _ _ (Good.pure rfl fun ρ => ?_)
    subst hH
    exact tupRt e.2.1 e.1
  · have e := cf.ok hb
    refine hk _ _ (Good.pure rfl fun ρ => ?_)
    subst hH hF
    exact tupRt e.2.1 e.1
theorem ok_qdot : CallOK Tryz.prog 19 (heapSem [.v, .v, .v] stdA (gDotR stdH)) := by
  refine callOK_heap (un := ⟨false, some [3,4,5,6,7,20]⟩) tok tJ5OK mixed (fn := Tryz.f19) (by kernel_rfl) (by kernel_rfl) (by kernel_rfl) (by decide +kernel) ?_
  intro w Wr args bs r hg ho hWr A L k hA hL hk
  obtain ⟨F, hF⟩ : ∃ F, F = stdF := ⟨_, rfl⟩
  obtain ⟨H, hH⟩ : ∃ H, H = stdH := ⟨_, rfl⟩
  (try rw [← hF])
  (try rw [← hH])
  (try rw [← hA])
  unfold gDotR at hg
  split at hg
  rotate_left
  · cases hg
  simp only [Option.some.injEq] at hg
  subst hg
  rename_i a b c
  have cf := qc_f a b c A hA F hF H hH
  cbv
  repeat' first | (with_reducible intro hb; cbv) | with_reducible refine And.intro ?_ ?_
  · have e := cf.no hb
    refine hk _ _ (Good.pure rfl fun ρ => ?_)
    subst hH
    exact tupRt e.2.2 e.1
  · have e := cf.ok hb
    refine hk _ _ (Good.pure rfl fun ρ => ?_)
    subst hH hF
    exact tupRt e.2.2 e.1
theorem sign_cross (a b c : Pt) : stdF.sign (stdH.cross a b c) = stdH.turn a b c := by
  show stdF.sign (if allP [a, b, c] = true then ofQ (crossQ a b c) else zeroR) = if allP [a, b, c] = true then sgnQ (crossQ a b c) 0 else 0
  cases h : allP [a, b, c]
  · rfl
  · obtain ⟨ha, hb, hc⟩ := allP_three h
    have x1 := (Cal.of hb.x).sub (Cal.of ha.x) (by decide)
    have y1 := (Cal.of hc.y).sub (Cal.of ha.y) (by decide)
    have x2 := (Cal.of hb.y).sub (Cal.of ha.y) (by decide)
    have y2 := (Cal.of hc.x).sub (Cal.of ha.x) (by decide)
    have m1 := x1.2.mul y1.2 (by decide)
    have m2 := x2.2.mul y2.2 (by decide)
    have m := m1.2.sub m2.2 (by decide)
    show stdF.sign (ofQ (crossQ a b c)) = sgnQ (crossQ a b c) 0
    have e : ofQ (crossQ a b c) = stdF.sub (stdF.mul (stdF.sub b.X a.X) (stdF.sub c.Y a.Y)) (stdF.mul (stdF.sub b.Y a.Y) (stdF.sub c.X a.X)) := m.2.eq.symm
    rw [e]
    exact m.2.sign
def tJ6 (A : Alg) (F : SF) (H : SH) : List (Nat × Sem') := (17, heapSem [.v, .v, .v] A (gCrossP H)) :: (19, heapSem [.v, .v, .v] A (gDotR H)) :: (67, heapSem [.v] A (gSignR F)) :: ([])
theorem tJ6OK : COK Tryz.prog (look (tJ6 stdA stdF stdH)) := COK_cons ok_qcross (COK_cons ok_qdot (COK_cons ok_rsign (COK_nil)))
theorem ok_qturn : CallOK Tryz.prog 21 (heapSem [.v, .v, .v] stdA (gTurnP stdH)) := by
  refine callOK_heap (un := ⟨false, some [3,4,5,6,7,8,9]⟩) tok tJ6OK mixed (fn := Tryz.f21) (by kernel_rfl) (by kernel_rfl) (by kernel_rfl) (by decide +kernel) ?_
  intro w Wr args bs r hg ho hWr A L k hA hL hk
  obtain ⟨F, hF⟩ : ∃ F, F = stdF := ⟨_, rfl⟩
  obtain ⟨H, hH⟩ : ∃ H, H = stdH := ⟨_, rfl⟩
  (try rw [← hF])
  (try rw [← hH])
  (try rw [← hA])
  unfold gTurnP at hg
  split at hg
  rotate_left
  · cases hg
  simp only [Option.some.injEq] at hg
  subst hg
  rename_i a b c
  have e : F.sign (H.cross a b c) = H.turn a b c := by subst hF hH; exact sign_cross a b c
  cbv
  refine hk _ _ (Good.pure rfl fun ρ => ?_)
  subst hH hF
  exact tupIb e rfl
theorem ok_qfar : CallOK Tryz.prog 23 (heapSem [.v, .v] stdA (gFar stdH)) := by
  refine callOK_heap (un := ⟨false, some [2,3,4,5]⟩) tok tJ6OK mixed (fn := Tryz.f23) (by kernel_rfl) (by kernel_rfl) (by kernel_rfl) (by decide +kernel) ?_
  intro w Wr args bs r hg ho hWr A L k hA hL hk
  obtain ⟨F, hF⟩ : ∃ F, F = stdF := ⟨_, rfl⟩
  obtain ⟨H, hH⟩ : ∃ H, H = stdH := ⟨_, rfl⟩
  (try rw [← hF])
  (try rw [← hH])
  (try rw [← hA])
  unfold gFar at hg
  split at hg
  rotate_left
  · cases hg
  simp only [Option.some.injEq] at hg
  subst hg
  rename_i x y
  cbv
  refine hk _ _ (Good.pure rfl fun ρ => ?_)
  subst hH
  exact tupR rfl rfl
end Go.Eng
namespace Go.Eng
open Go.Proofs
set_option maxRecDepth 100000
set_option linter.all false
set_option exponentiation.threshold 3000
set_option maxHeartbeats 2000000
theorem sumQ_snoc : ∀ (l : List Rat) (q : Rat), sumQ (l ++ [q]) = sumQ l + q
  | [], q => by show q + 0 = 0 + q; grind
  | a :: r, q => by
    show a + sumQ (r ++ [q]) = (a + sumQ r) + q
    rw [sumQ_snoc r q]; grind
structure QmI (l : List Pt) (k : Int) (x y : Rt) : Prop where
  k0 : 0 ≤ k
  k1 : k ≤ l.length
  x : Cal x (sumQ ((l.take k.toNat).map px)) (1 + 61 * k.toNat)
  y : Cal y (sumQ ((l.take k.toNat).map py)) (1 + 61 * k.toNat)
structure QmStep (A : Alg) (F : SF) (l : List Pt) (k : Int) (x y : Rt) (w : Pt) : Prop where
  o1 : A.cmp .leq 0 k = true
  nx : QmI l (k + 1) (F.add x w.X) (F.add y w.Y)
  ad : A.bin .add .i64 k 1 = k + 1
  ms : ((l.length : Int) - (k + 1)).toNat < ((l.length : Int) - k).toNat
theorem qm_step {l : List Pt} (hn : l.length ≤ 4) (hl : allP l = true) {k : Int} {x y : Rt} (hI : QmI l k x y) (A : Alg) (hA : A = stdA) (F : SF) (hF : F = stdF) (hb : A.cmp .lss k (A.len l) = true) (w : Pt) (hw : w = A.get l k ⟨⟨⟨false, A.zD⟩, ⟨false, A.zD⟩⟩, ⟨⟨false, A.zD⟩, ⟨false, A.zD⟩⟩⟩) : QmStep A F l k x y w := by
  subst hA hF
  have hb : k < (l.length : Int) := of_decide_eq_true hb
  obtain ⟨k0, k1, hx, hy⟩ := hI
  have hlt : k.toNat < l.length := by omega
  have er : w = l[k.toNat] := by
    rw [hw]
    show (l[k.toNat]?).getD _ = _
    rw [List.getElem?_eq_getElem hlt]; rfl
  have hp : IsPt w := by rw [er]; exact allP_mem hl (List.getElem_mem hlt)
  have ht : l.take (k + 1).toNat = l.take k.toNat ++ [w] := by
    rw [show (k + 1).toNat = k.toNat + 1 by omega, List.take_succ_eq_append_getElem hlt, er]
  have ax := hx.add2 (Cal.of hp.x) (by omega) (by decide)
  have ay := hy.add2 (Cal.of hp.y) (by omega) (by decide)
  exact {
    o1 := leq_of _ rfl _ _ k0
    nx := by
      refine ⟨by omega, by omega, ?_, ?_⟩
      · rw [ht, List.map_append]
        show Cal _ (sumQ (_ ++ [px w])) _
        rw [sumQ_snoc]
        exact ax.2.mono (by omega)
      · rw [ht, List.map_append]
        show Cal _ (sumQ (_ ++ [py w])) _
        rw [sumQ_snoc]
        exact ay.2.mono (by omega)
    ad := by show stdBin .add .i64 k 1 = k + 1; simp only [stdBin, IntKind.wrap_i64]; omega
    ms := by omega }
structure QmEnd (A : Alg) (F : SF) (H : SH) (l : List Pt) (x y : Rt) : Prop where
  o1 : A.cmp .leq (-9223372036854775808) (A.len l) = true
  o2 : A.cmp .lss (A.len l) 9223372036854775808 = true
  r : (⟨F.div x (H.whole (A.len l)), F.div y (H.whole (A.len l))⟩ : Pt) = H.mid l ∧ true = H.midOK l
theorem qm_end {l : List Pt} {k : Int} {x y : Rt} (hI : QmI l k x y) (A : Alg) (hA : A = stdA) (F : SF) (hF : F = stdF) (H : SH) (hH : H = stdH) (hc : midB l = true) (hb : A.cmp .lss k (A.len l) = false) : QmEnd A F H l x y := by
  subst hA hF hH
  have hb : ¬ k < (l.length : Int) := of_decide_eq_false hb
  obtain ⟨k0, k1, hx, hy⟩ := hI
  rw [List.take_of_length_le (by omega)] at hx hy
  have hc' := hc
  unfold midB at hc'
  simp only [Bool.and_eq_true, decide_eq_true_eq] at hc'
  obtain ⟨c1, c2, c3⟩ := hc'
  have e0 : stdA.len l = (l.length : Int) := rfl
  have hz : Sm 3 (l.length : Int) := by show (l.length : Int).natAbs < 2 ^ 3; omega
  have cn : Cal (ofQ (((l.length : Int)) : Rat)) (((l.length : Int)) : Rat) 245 := (Cal.int hz (by decide) (by decide)).mono (by decide)
  have n0 : (((l.length : Int)) : Rat) ≠ 0 := fun h => by
    have := Rat.intCast_eq_zero_iff.1 h
    omega
  obtain ⟨dx1, dx2⟩ := (hx.mono (k := 245) (by omega)).div cn (by decide) n0
  obtain ⟨dy1, dy2⟩ := (hy.mono (k := 245) (by omega)).div cn (by decide) n0
  refine ⟨leq_of _ rfl _ _ (by rw [e0]; omega), lss_of _ rfl _ _ (by rw [e0]; omega), ?_, hc.symm⟩
  show _ = (if midB l = true then midP l else zeroP)
  rw [if_pos hc]
  show (⟨stdF.div x (ofQ (((l.length : Int)) : Rat)), stdF.div y (ofQ (((l.length : Int)) : Rat))⟩ : Pt) = ⟨ofQ _, ofQ _⟩
  rw [dx2.eq, dy2.eq]
theorem qm_init (H : SH) (hH : H = stdH) (l : List Pt) : QmI l 0 (H.whole 0) (H.whole 0) := by
  subst hH
  have c : Cal (ofQ ((0 : Int) : Rat)) ((0 : Int) : Rat) 1 := Cal.int (by show (0 : Int).natAbs < 2 ^ 1; decide) (by decide) (by decide)
  exact ⟨Int.le_refl 0, Int.natCast_nonneg _, c, c⟩
def tJ8 (A : Alg) (F : SF) (H : SH) : List (Nat × Sem') := (72, heapSem [.s .pt] A (gAllP A H)) :: (53, heapSem [.v] A (gWholeH A H)) :: (65, heapSem [.v, .v] A (gPlusR F)) :: (73, heapSem [.v, .v] A (gDivF F)) :: ([])
theorem tJ8OK : COK Tryz.prog (look (tJ8 stdA stdF stdH)) := COK_cons ok_qall (COK_cons ok_rwhole (COK_cons ok_qplus (COK_cons ok_rdiv (COK_nil))))
theorem ok_qmid : CallOK Tryz.prog 25 (heapSem [.s .pt] stdA (gMid stdA stdH)) := by
  refine callOK_heap (un := ⟨false, some [0,2,3,4,5,6,7,8,9,10,11,24,31]⟩) tok tJ8OK mixed (fn := Tryz.f25) (by kernel_rfl) (by kernel_rfl) (by kernel_rfl) (by decide +kernel) ?_
  intro w Wr args bs r hg ho hWr A L k hA hL hk
  obtain ⟨F, hF⟩ : ∃ F, F = stdF := ⟨_, rfl⟩
  obtain ⟨H, hH⟩ : ∃ H, H = stdH := ⟨_, rfl⟩
  (try rw [← hF])
  (try rw [← hH])
  (try rw [← hA])
  unfold gMid at hg
  split at hg
  rotate_left
  · cases hg
  simp only [Option.some.injEq] at hg
  subst hg
  rename_i l
  have hlen := (ho_cons ho).1
  simp only [stdA, stdCmp, decide_eq_true_eq] at hlen
  have hlen : l.length < 1000000 := by omega
  have hl0 : A.cmp .lss (A.len l) 1000000 = true := lss_of A hA _ _ (by subst hA; show (l.length : Int) < 1000000; omega)
  have hno : midC A H l = true → (zeroP = H.mid l ∧ false = H.midOK l) := fun h => by
    subst hA hH
    rw [mid_c, Bool.not_eq_true'] at h
    refine ⟨?_, h.symm⟩
    show _ = (if midB l = true then midP l else zeroP)
    rw [h]; rfl
  have hyes : midC A H l = false → midB l = true := fun h => by
    subst hA hH
    rw [mid_c, Bool.not_eq_false'] at h
    exact h
  have i0 := qm_init H hH l
  clear ho
  have him : ∀ b, A.imp b (A.cmp .lss (A.len l) 1000000) = true := fun b => by rw [hl0]; subst hA; cases b <;> rfl
  cbv
  repeat' first | (with_reducible intro hb; cbv) | with_reducible refine And.intro ?_ ?_
  · exact him _
  · refine hk _ _ (Good.pure rfl fun ρ => ?_)
    have e := hno hb
    subst hA hH
    exact tupPt e.1 e.2
  · exact leq_of A hA _ _ (by decide)
  · exact lss_of A hA _ _ (by decide)
  · exact leq_of A hA _ _ (by decide)
  · exact lss_of A hA _ _ (by decide)
  clear hno him hl0
  have hc := hyes hb
  clear hyes
  have hall : allP l = true := by
    have h := hc
    unfold midB at h
    simp only [Bool.and_eq_true] at h
    exact h.2.2
  have hn4 : l.length ≤ 4 := by
    have h := hc
    unfold midB at h
    simp only [Bool.and_eq_true, decide_eq_true_eq] at h
    omega
  refine hL _ _ _ (loop_rule (un := ⟨false, some [0,2,3,4,5,6,7,8,9,10,11,24,31]⟩) tok tJ8OK mixed (fun p : Int × Rt × Rt => ⟨[(6, ⟨[], .c (.s (.int .i64 p.1))⟩), (5, ⟨[], .c (.s (.hp 3 0))⟩), (4, ⟨[], .c (.s (.hp 2 0))⟩), (3, ⟨[], .c (.s (.tt false))⟩), (2, ⟨[], .c (.s (.hp 1 0))⟩), (0, ⟨[], .c (.s (.hs 0))⟩)], [(3, .fix true [.R p.2.2]), (2, .fix true [.R p.2.1]), (1, .fix true [.P ⟨⟨⟨false, Dg.zero⟩, ⟨false, Dg.zero⟩⟩, ⟨⟨false, Dg.zero⟩, ⟨false, Dg.zero⟩⟩⟩]), (0, .vec false .pt l)], 4⟩)
    (fun p => QmI l p.1 p.2.1 p.2.2) (fun p => ((l.length : Int) - p.1).toNat) (0, H.whole 0, H.whole 0) i0 ?_ (fun _ i hi => by have := hWr i hi; simp at this; show i < 4; omega) ?_)
  · subst hA hH
    exact ⟨⟨⟨rfl, rfl, fun _ => rfl⟩, ⟨rfl, rfl, fun _ => rfl⟩, ⟨rfl, rfl, fun _ => rfl⟩, ⟨rfl, rfl, fun _ => rfl⟩, ⟨rfl, rfl, fun _ => rfl⟩, ⟨rfl, rfl, fun _ => rfl⟩, trivial⟩, ⟨⟨rfl, rfl, fun _ => rfl⟩, ⟨rfl, rfl, fun _ => rfl⟩, ⟨rfl, rfl, fun _ => rfl⟩, ⟨rfl, rfl, rfl, rfl, fun h => h⟩, trivial⟩, rfl, rfl⟩
  clear i0
  rintro ⟨k, x, y⟩ hI A2 L2 k2 hA2 hL2 hnext hexit hret
  have st := fun hb : A2.cmp .lss k (A2.len l) = true => qm_step hn4 hall hI A2 hA2 F hF hb _ rfl
  have en := fun hb : A2.cmp .lss k (A2.len l) = false => qm_end hI A2 hA2 F hF H hH hc hb
  clear hI
  rw [← hA2, ← hF, ← hH]
  cbv
  repeat' first | (with_reducible intro hb; cbv) | with_reducible refine And.intro ?_ ?_
  all_goals first | exact (st hb).o1 | exact hb | skip
  · refine hnext _ (k + 1, _, _) (st hb).nx (st hb).ms ?_
    have ead := (st hb).ad
    subst hA2
    exact ⟨⟨⟨rfl, rfl, leI ead⟩, ⟨rfl, rfl, fun _ => rfl⟩, ⟨rfl, rfl, fun _ => rfl⟩, ⟨rfl, rfl, fun _ => rfl⟩, ⟨rfl, rfl, fun _ => rfl⟩, ⟨rfl, rfl, fun _ => rfl⟩, trivial⟩, ⟨⟨rfl, rfl, fun _ => rfl⟩, ⟨rfl, rfl, fun _ => rfl⟩, ⟨rfl, rfl, fun _ => rfl⟩, ⟨rfl, rfl, rfl, rfl, fun h => h⟩, trivial⟩, rfl, rfl⟩
  · apply hexit
    have em := en hb
    clear hexit hnext hret st en hb
    rw [hA2, ← hA] at em
    cbv
    repeat' first | (with_reducible intro hb; cbv) | with_reducible refine And.intro ?_ ?_
    all_goals first | exact em.o1 | exact em.o2 | skip
    refine hk _ _ (Good.pure rfl fun ρ => ?_)
    have e := em.r
    subst hH hF hA
    exact tupPt e.1 e.2
end Go.Eng
namespace Go.Eng
open Go.Proofs
set_option maxRecDepth 100000
set_option linter.all false
set_option exponentiation.threshold 3000
set_option maxHeartbeats 2000000
def gComp3 (H : SH) : List CV → List Blk → Option LR
  | [.g [.P x], .g [.P y]], [] => some ⟨[H.all [x, y]], .c (.s (.int .i64 (H.cmp x y))), []⟩
  | _, _ => none
structure CqF (A : Alg) (F : SF) (H : SH) (x y : Pt) : Prop where
  c1 : A.cmp .neq (F.cmp x.X y.X) 0 = true → F.cmp x.X y.X = H.cmp x y
  c0 : A.cmp .neq (F.cmp x.X y.X) 0 = false → F.cmp x.Y y.Y = H.cmp x y
theorem cq_f (x y : Pt) (A : Alg) (hA : A = stdA) (F : SF) (hF : F = stdF) (H : SH) (hH : H = stdH) (ho : H.all [x, y] = true) : CqF A F H x y := by
  subst hA hF hH
  have ho : allP [x, y] = true := ho
  obtain ⟨hx, hy⟩ := allP_two ho
  have c1 := ((Cal.of hx.x).cmp (Cal.of hy.x) (by decide)).2
  have c2 := ((Cal.of hx.y).cmp (Cal.of hy.y) (by decide)).2
  have e : stdH.cmp x y = pcmp x y := by
    show (if allP [x, y] = true then _ else _) = _
    rw [ho]; rfl
  constructor
  · intro h
    rw [c1] at h ⊢
    rw [e]
    have h : (sgnQ (px x) (px y) != 0) = true := h
    have h : sgnQ (px x) (px y) ≠ 0 := by simpa using h
    unfold pcmp
    rw [if_pos h]; rfl
  · intro h
    rw [c1] at h
    rw [c2, e]
    have h : (sgnQ (px x) (px y) != 0) = false := h
    have h : sgnQ (px x) (px y) = 0 := by simpa using h
    unfold pcmp
    rw [if_neg (by rw [h]; decide)]; rfl
def tJ9 (A : Alg) (F : SF) (H : SH) : List (Nat × Sem') := (113, heapSem [.v, .v] A (gCmpF F)) :: ([])
theorem tJ9OK : COK Tryz.prog (look (tJ9 stdA stdF stdH)) := COK_cons ok_rcmpR (COK_nil)
theorem ok_qcomp : CallOK Tryz.prog 57 (heapSem [.v, .v] stdA (gComp3 stdH)) := by
  refine callOK_heap (un := ⟨false, some [0,1,2,3,4,5,7,18]⟩) tok tJ9OK mixed (fn := Tryz.f57) (by kernel_rfl) (by kernel_rfl) (by kernel_rfl) (by decide +kernel) ?_
  intro w Wr args bs r hg ho hWr A L k hA hL hk
  obtain ⟨F, hF⟩ : ∃ F, F = stdF := ⟨_, rfl⟩
  obtain ⟨H, hH⟩ : ∃ H, H = stdH := ⟨_, rfl⟩
  (try rw [← hF])
  (try rw [← hH])
  (try rw [← hA])
  unfold gComp3 at hg
  split at hg
  rotate_left
  · cases hg
  simp only [Option.some.injEq] at hg
  subst hg
  rename_i x y
  have ho := (ho_cons ho).1
  rw [← hH] at ho
  have cq := cq_f x y A hA F hF H hH ho
  cbv
  repeat' first | (with_reducible intro hb; cbv) | with_reducible refine And.intro ?_ ?_
  · refine hk _ _ (Good.pure rfl fun ρ => ?_)
    have e := cq.c1 hb
    subst hH hF
    exact ret1 e
  · refine hk _ _ (Good.pure rfl fun ρ => ?_)
    have e := cq.c0 hb
    subst hH hF
    exact ret1 e
structure CqG (A : Alg) (H : SH) (x y : Pt) : Prop where
  no : A.ite (A.not (H.all [x])) true (A.not (H.all [y])) = true → 0 = H.cmp x y ∧ false = H.all [x, y]
  ok : A.ite (A.not (H.all [x])) true (A.not (H.all [y])) = false → H.all [x, y] = true
theorem cq_g (x y : Pt) (A : Alg) (hA : A = stdA) (H : SH) (hH : H = stdH) : CqG A H x y := by
  subst hA hH
  have e : stdA.ite (stdA.not (stdH.all [x])) true (stdA.not (stdH.all [y])) = !stdH.all [x, y] := by
    show (if (!(ptOK x && true)) = true then true else !(ptOK y && true)) = !(ptOK x && (ptOK y && true))
    cases ptOK x <;> cases ptOK y <;> rfl
  refine ⟨fun h => ?_, fun h => by rw [e] at h; simpa using h⟩
  have h : stdH.all [x, y] = false := by rw [e] at h; simpa using h
  refine ⟨?_, h.symm⟩
  show 0 = (if stdH.all [x, y] = true then _ else _)
  rw [h]; rfl
def tJa (A : Alg) (H : SH) : List (Nat × Sem') := (57, heapSem [.v, .v] A (gComp3 H)) :: (27, heapSem [.v] A (gIsP H)) :: ([])
theorem tJaOK : COK Tryz.prog (look (tJa stdA stdH)) := COK_cons ok_qcomp (COK_cons ok_qis (COK_nil))
theorem ok_qcmp : CallOK Tryz.prog 15 (heapSem [.v, .v] stdA (gCmpP stdH)) := by
  refine callOK_heap (un := ⟨false, some [0,1,2,3,4,5,13]⟩) tok tJaOK mixed (fn := Tryz.f15) (by kernel_rfl) (by kernel_rfl) (by kernel_rfl) (by decide +kernel) ?_
  intro w Wr args bs r hg ho hWr A L k hA hL hk
  obtain ⟨H, hH⟩ : ∃ H, H = stdH := ⟨_, rfl⟩
  (try rw [← hH])
  (try rw [← hA])
  unfold gCmpP at hg
  split at hg
  rotate_left
  · cases hg
  simp only [Option.some.injEq] at hg
  subst hg
  rename_i x y
  have cq := cq_g x y A hA H hH
  cbv
  repeat' first | (with_reducible intro hb; cbv) | with_reducible refine And.intro ?_ ?_
  · have e := cq.no hb
    refine hk _ _ (Good.pure rfl fun ρ => ?_)
    subst hH
    exact tupLbt e.1 e.2
  all_goals first | exact cq.ok hb | skip
  have e := cq.ok hb
  refine hk _ _ (Good.pure rfl fun ρ => ?_)
  subst hH
  exact tupIbt rfl e.symm
end Go.Eng

