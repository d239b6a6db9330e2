
import Derived.Test.YtjjmpghdjoohfaaGreatZCTA
set_option linter.all false
set_option exponentiation.threshold 3000
namespace Go.Eng
open Go.Proofs
set_option maxRecDepth 100000
set_option linter.all false
set_option exponentiation.threshold 3000
set_option maxHeartbeats 2000000
def tJ1 (A : Alg) (H : SH) : List (Nat × Sem') := (33, heapSem [.v] A (gWholeH A H)) :: ([])
theorem tJ1OK : COK Tryz.prog (look (tJ1 stdA stdH)) := COK_cons ok_rwhole (COK_nil)
theorem ok_qat : CallOK Tryz.prog 18 (heapSem [.v, .v] stdA (gAtP stdA stdH)) := by
  refine callOK_heap (un := ⟨false, some [0,1,4]⟩) tok tJ1OK mixed (fn := Tryz.f18) (by kernel_rfl) (by kernel_rfl) (by kernel_rfl) (by decide +kernel) ?_
  intro w Wr args bs r hg ho hWr A L k hA hL hk
  obtain ⟨H, hH⟩ : ∃ H, H = stdH := ⟨_, rfl⟩
  (try rw [← hH])
  (try rw [← hA])
  unfold gAtP at hg
  split at hg
  rotate_left
  · cases hg
  simp only [Option.some.injEq] at hg
  subst hg
  rename_i x y
  have o1 := (ho_cons ho).1
  have o2 := (ho_cons (ho_cons ho).2).1
  have o3 := (ho_cons (ho_cons (ho_cons ho).2).2).1
  have o4 := (ho_cons (ho_cons (ho_cons (ho_cons ho).2).2).2).1
  clear ho
  rw [← hA] at o1 o2 o3 o4
  cbv
  repeat' first | (with_reducible intro hb; cbv) | with_reducible refine And.intro ?_ ?_
  all_goals first | exact o1 | exact o2 | exact o3 | exact o4 | skip
  refine hk _ _ (Good.pure rfl fun ρ => ?_)
  subst hH
  exact retP rfl
def tJ2 (A : Alg) (F : SF) : List (Nat × Sem') := (49, heapSem [.v, .v] A (gSafeR F)) :: ([])
theorem tJ2OK : COK Tryz.prog (look (tJ2 stdA stdF)) := COK_cons ok_rsafe (COK_nil)
theorem ok_qis : CallOK Tryz.prog 35 (heapSem [.v] stdA (gIsP stdH)) := by
  refine callOK_heap (un := ⟨false, some [1,2]⟩) tok tJ2OK mixed (fn := Tryz.f35) (by kernel_rfl) (by kernel_rfl) (by kernel_rfl) (by decide +kernel) ?_
  intro w Wr args bs r hg ho hWr A L k hA hL hk
  obtain ⟨F, hF⟩ : ∃ F, F = stdF := ⟨_, rfl⟩
  obtain ⟨H, hH⟩ : ∃ H, H = stdH := ⟨_, rfl⟩
  (try rw [← hF])
  (try rw [← hH])
  (try rw [← hA])
  unfold gIsP at hg
  split at hg
  rotate_left
  · cases hg
  simp only [Option.some.injEq] at hg
  subst hg
  rename_i p
  have f : A.ite (F.safe p.X 60) (F.safe p.Y 60) false = H.all [p] := by
    subst hA hF hH
    show (if safeR p.X 60 = true then safeR p.Y 60 else false) = (ptOK p && true)
    rw [Bool.and_true]
    unfold ptOK
    cases safeR p.X 60 <;> rfl
  cbv
  refine hk _ _ (Good.pure rfl fun ρ => ?_)
  subst hH
  exact retB f
structure AqStep (A : Alg) (H : SH) (l : List Pt) (k : Int) (w : Pt) : Prop where
  o1 : A.cmp .leq 0 k = true
  no : A.not (H.all [w]) = true → false = H.all l
  nx : A.not (H.all [w]) = false → ApI l (k + 1)
  ad : A.bin .add .i64 k 1 = k + 1
  ms : ((l.length : Int) - (k + 1)).toNat < ((l.length : Int) - k).toNat
theorem aq_step {l : List Pt} (hn : l.length < 1000000) {k : Int} (hI : ApI l k) (A : Alg) (hA : A = stdA) (H : SH) (hH : H = stdH) (hb : A.cmp .lss k (A.len l) = true) (w : Pt) (hw : w = A.get l k ⟨⟨⟨false, A.zD⟩, ⟨false, A.zD⟩⟩, ⟨⟨false, A.zD⟩, ⟨false, A.zD⟩⟩⟩) : AqStep A H l k w := by
  have st := ap_step hn hI A hA stdF rfl H hH hb w hw
  have e : A.ite (A.not (stdF.safe w.X 60)) true (A.not (stdF.safe w.Y 60)) = A.not (H.all [w]) := by
    subst hA hH
    show (if (!safeR w.X 60) = true then true else !safeR w.Y 60) = !(ptOK w && true)
    rw [Bool.and_true]
    unfold ptOK
    cases safeR w.X 60 <;> cases safeR w.Y 60 <;> rfl
  exact ⟨st.o1, fun h => st.no (by rw [e]; exact h), fun h => st.nx (by rw [e]; exact h), st.ad, st.ms⟩
def tJ3 (A : Alg) (H : SH) : List (Nat × Sem') := (35, heapSem [.v] A (gIsP H)) :: ([])
theorem tJ3OK : COK Tryz.prog (look (tJ3 stdA stdH)) := COK_cons ok_qis (COK_nil)
theorem ok_qall : CallOK Tryz.prog 75 (heapSem [.s .pt] stdA (gAllP stdA stdH)) := by
  refine callOK_heap (un := ⟨false, some [0,2,3,7,15]⟩) tok tJ3OK mixed (fn := Tryz.f75) (by kernel_rfl) (by kernel_rfl) (by kernel_rfl) (by decide +kernel) ?_
  intro w Wr args bs r hg ho hWr A L k hA hL hk
  obtain ⟨H, hH⟩ : ∃ H, H = stdH := ⟨_, rfl⟩
  (try rw [← hH])
  (try rw [← hA])
  unfold gAllP at hg
  split at hg
  rotate_left
  · cases hg
  simp only [Option.some.injEq] at hg
  subst hg
  rename_i l
  have hlen := (ho_cons ho).1
  simp only [stdA, stdCmp, decide_eq_true_eq] at hlen
  have hlen : l.length < 1000000 := by omega
  clear ho
  have i0 : ApI l 0 := ⟨Int.le_refl 0, Int.natCast_nonneg _, rfl⟩
  cbv
  refine hL _ _ _ (loop_rule (un := ⟨false, some [0, 2, 3, 7, 15]⟩) tok tJ3OK mixed (fun k : Int => ⟨[(3, ⟨[], .c (.s (.int .i64 k))⟩), (2, ⟨[], .c (.s (.tt false))⟩), (0, ⟨[], .c (.s (.hs 0))⟩)], [(0, .vec false .pt l)], 1⟩)
    (fun k => ApI l k) (fun k => ((l.length : Int) - k).toNat) 0 i0 ?_ (fun _ i hi => by have := hWr i hi; simp at this; show i < 1; omega) ?_)
  · exact ⟨⟨⟨rfl, rfl, fun _ => rfl⟩, ⟨rfl, rfl, fun _ => rfl⟩, ⟨rfl, rfl, fun _ => rfl⟩, trivial⟩, ⟨leRefl rfl, trivial⟩, rfl, rfl⟩
  clear i0
  rintro k hI A2 L2 k2 hA2 hL2 hnext hexit hret
  have st := fun hb : A2.cmp .lss k (A2.len l) = true => aq_step hlen hI A2 hA2 H hH hb _ rfl
  have en := fun hb : A2.cmp .lss k (A2.len l) = false => ap_end hI A2 hA2 H hH hb
  clear hI
  rw [← hA2, ← hH]
  cbv
  repeat' first | (with_reducible intro hb; cbv) | with_reducible refine And.intro ?_ ?_
  all_goals first | exact (st hb).o1 | exact hb | skip
  · rename_i hb0
    have e := (st hb0).no hb
    apply hret
    clear hexit hnext hret st en
    cbv
    refine hk _ _ (Good.pure rfl fun ρ => ?_)
    subst hH
    exact retT e
  · rename_i hb0
    refine hnext _ (k + 1) ((st hb0).nx hb) (st hb0).ms ?_
    have ead := (st hb0).ad
    subst hA2
    exact ⟨⟨⟨rfl, rfl, leI ead⟩, ⟨rfl, rfl, fun _ => rfl⟩, ⟨rfl, rfl, fun _ => rfl⟩, trivial⟩, ⟨leRefl rfl, trivial⟩, rfl, rfl⟩
  · have e := en hb
    apply hexit
    clear hexit hnext hret st en
    cbv
    refine hk _ _ (Good.pure rfl fun ρ => ?_)
    subst hH
    exact retT e
def gLessR (F : SF) : List CV → List Blk → Option LR
  | [.g [.R a], .g [.R b]], [] => some ⟨[], .c (.g [.R (F.sub a b)]), []⟩
  | _, _ => none
def gTimesR (F : SF) : List CV → List Blk → Option LR
  | [.g [.R a], .g [.R b]], [] => some ⟨[], .c (.g [.R (F.mul a b)]), []⟩
  | _, _ => none
def gPlusR (F : SF) : List CV → List Blk → Option LR
  | [.g [.R a], .g [.R b]], [] => some ⟨[], .c (.g [.R (F.add a b)]), []⟩
  | _, _ => none
def tJ4 (A : Alg) (F : SF) : List (Nat × Sem') := (36, heapSem [.v, .v] A (gAddF F)) :: (94, heapSem [.v, .v] A (gSubF F)) :: (93, heapSem [.v, .v] A (gMulF F)) :: (50, heapSem [.v, .v] A (gDivF F)) :: ([])
theorem tJ4OK : COK Tryz.prog (look (tJ4 stdA stdF)) := COK_cons ok_radd (COK_cons ok_rsub (COK_cons ok_rmul (COK_cons ok_rdiv (COK_nil))))
theorem ok_qless : CallOK Tryz.prog 52 (heapSem [.v, .v] stdA (gLessR stdF)) := by
  refine callOK_heap (un := ⟨false, none⟩) tok tJ4OK mixed (fn := Tryz.f52) (by kernel_rfl) (by kernel_rfl) (by kernel_rfl) (by decide +kernel) ?_
  intro w Wr args bs r hg ho hWr A L k hA hL hk
  obtain ⟨F, hF⟩ : ∃ F, F = stdF := ⟨_, rfl⟩
  (try rw [← hF])
  (try rw [← hA])
  unfold gLessR at hg
  split at hg
  rotate_left
  · cases hg
  simp only [Option.some.injEq] at hg
  subst hg
  cbv
  refine hk _ _ (Good.pure rfl fun ρ => ?_)
  subst hF
  exact retR rfl
theorem ok_qtimes : CallOK Tryz.prog 51 (heapSem [.v, .v] stdA (gTimesR stdF)) := by
  refine callOK_heap (un := ⟨false, none⟩) tok tJ4OK mixed (fn := Tryz.f51) (by kernel_rfl) (by kernel_rfl) (by kernel_rfl) (by decide +kernel) ?_
  intro w Wr args bs r hg ho hWr A L k hA hL hk
  obtain ⟨F, hF⟩ : ∃ F, F = stdF := ⟨_, rfl⟩
  (try rw [← hF])
  (try rw [← hA])
  unfold gTimesR at hg
  split at hg
  rotate_left
  · cases hg
  simp only [Option.some.injEq] at hg
  subst hg
  cbv
  refine hk _ _ (Good.pure rfl fun ρ => ?_)
  subst hF
  exact retR rfl
theorem ok_qplus : CallOK Tryz.prog 53 (heapSem [.v, .v] stdA (gPlusR stdF)) := by
  refine callOK_heap (un := ⟨false, none⟩) tok tJ4OK mixed (fn := Tryz.f53) (by kernel_rfl) (by kernel_rfl) (by kernel_rfl) (by decide +kernel) ?_
  intro w Wr args bs r hg ho hWr A L k hA hL hk
  obtain ⟨F, hF⟩ : ∃ F, F = stdF := ⟨_, rfl⟩
  (try rw [← hF])
  (try rw [← hA])
  unfold gPlusR at hg
  split at hg
  rotate_left
  · cases hg
  simp only [Option.some.injEq] at hg
  subst hg
  cbv
  refine hk _ _ (Good.pure rfl fun ρ => ?_)
  subst hF
  exact retR rfl
structure QcF (A : Alg) (F : SF) (H : SH) (a b c : Pt) : Prop where
  no : A.ite (A.ite (A.not (H.all [a])) true (A.not (H.all [b]))) true (A.not (H.all [c])) = true → false = H.all [a, b, c] ∧ zeroR = H.cross a b c ∧ zeroR = H.dot a b c
  ok : A.ite (A.ite (A.not (H.all [a])) true (A.not (H.all [b]))) true (A.not (H.all [c])) = false → true = H.all [a, b, c] ∧
    F.sub (F.mul (F.sub b.X a.X) (F.sub c.Y a.Y)) (F.mul (F.sub b.Y a.Y) (F.sub c.X a.X)) = H.cross a b c ∧
    F.add (F.mul (F.sub b.X a.X) (F.sub c.X a.X)) (F.mul (F.sub b.Y a.Y) (F.sub c.Y a.Y)) = H.dot a b c
theorem qc_f (a b c : Pt) (A : Alg) (hA : A = stdA) (F : SF) (hF : F = stdF) (H : SH) (hH : H = stdH) : QcF A F H a b c := by
  subst hA hF hH
  have hc : stdA.ite (stdA.ite (stdA.not (stdH.all [a])) true (stdA.not (stdH.all [b]))) true (stdA.not (stdH.all [c])) = !allP [a, b, c] := by
    show (if (if (!(ptOK a && true)) = true then true else !(ptOK b && true)) = true then true else !(ptOK c && true)) = !(ptOK a && (ptOK b && (ptOK c && true)))
    cases ptOK a <;> cases ptOK b <;> cases ptOK c <;> rfl
  refine ⟨fun h => ?_, fun h => ?_⟩
  · rw [hc, Bool.not_eq_true'] at h
    refine ⟨h.symm, ?_, ?_⟩
    · show zeroR = if allP [a, b, c] = true then _ else zeroR
      rw [h]; rfl
    · show zeroR = if allP [a, b, c] = true then _ else zeroR
      rw [h]; rfl
  · rw [hc, Bool.not_eq_false'] at h
    obtain ⟨ha, hb, hc⟩ := allP_three h
    have x1 := (Cal.of hb.x).sub (Cal.of ha.x) (by decide)
    have y1 := (Cal.of hc.y).sub (Cal.of ha.y) (by decide)
    have x2 := (Cal.of hb.y).sub (Cal.of ha.y) (by decide)
    have y2 := (Cal.of hc.x).sub (Cal.of ha.x) (by decide)
    have m1 := x1.2.mul y1.2 (by decide)
    have m2 := x2.2.mul y2.2 (by decide)
    have m3 := x1.2.mul y2.2 (by decide)
    have m4 := x2.2.mul y1.2 (by decide)
    refine ⟨h.symm, ?_, ?_⟩
    · rw [cross_ok h]
      exact (m1.2.sub m2.2 (by decide)).2.eq
    · rw [dot_ok h]
      exact (m3.2.add m4.2 (by decide)).2.eq
def gCrossP (H : SH) : List CV → List Blk → Option LR
  | [.g [.P x], .g [.P y], .g [.P z]], [] => some ⟨[], .t [.g [.R (H.cross x y z)], .s (.bool (H.all [x, y, z]))], []⟩
  | _, _ => none
def gDotR (H : SH) : List CV → List Blk → Option LR
  | [.g [.P x], .g [.P y], .g [.P z]], [] => some ⟨[], .t [.g [.R (H.dot x y z)], .s (.bool (H.all [x, y, z]))], []⟩
  | _, _ => none
def gTurnP (H : SH) : List CV → List Blk → Option LR
  | [.g [.P x], .g [.P y], .g [.P z]], [] => some ⟨[], .t [.s (.int .i64 (H.turn x y z)), .s (.bool (H.all [x, y, z]))], []⟩
  | _, _ => none
def tJ5 (A : Alg) (F : SF) (H : SH) : List (Nat × Sem') := (35, heapSem [.v] A (gIsP H)) :: (52, heapSem [.v, .v] A (gLessR F)) :: (51, heapSem [.v, .v] A (gTimesR F)) :: (53, heapSem [.v, .v] A (gPlusR F)) :: ([])
theorem tJ5OK : COK Tryz.prog (look (tJ5 stdA stdF stdH)) := COK_cons ok_qis (COK_cons ok_qless (COK_cons ok_qtimes (COK_cons ok_qplus (COK_nil))))
theorem ok_qcross : CallOK Tryz.prog 23 (heapSem [.v, .v, .v] stdA (gCrossP stdH)) := by
  refine callOK_heap (un := ⟨false, some [3,4,5,6,7,20]⟩) tok tJ5OK mixed (fn := Tryz.f23) (by kernel_rfl) (by kernel_rfl) (by kernel_rfl) (by decide +kernel) ?_
  intro w Wr args bs r hg ho hWr A L k hA hL hk
  obtain ⟨F, hF⟩ : ∃ F, F = stdF := ⟨_, rfl⟩
  obtain ⟨H, hH⟩ : ∃ H, H = stdH := ⟨_, rfl⟩
  (try rw [← hF])
  (try rw [← hH])
  (try rw [← hA])
  unfold gCrossP at hg
  split at hg
  rotate_left
  · cases hg
  simp only [Option.some.injEq] at hg
  subst hg
  rename_i a b c
  have cf := qc_f a b c A hA F hF H hH
  cbv
  repeat' first | (with_reducible intro hb; cbv) | with_reducible refine And.intro ?_ ?_
  · have e := cf.no hb
    refine hk _ _ (Good.pure rfl fun ρ => ?_)
    subst hH
    exact tupRt e.2.1 e.1
  · have e := cf.ok hb
    refine hk _ _ (Good.pure rfl fun ρ => ?_)
    subst hH hF
    exact tupRt e.2.1 e.1
theorem ok_qdot : CallOK Tryz.prog 45 (heapSem [.v, .v, .v] stdA (gDotR stdH)) := by
  refine callOK_heap (un := ⟨false, some [3,4,5,6,7,20]⟩) tok tJ5OK mixed (fn := Tryz.f45) (by kernel_rfl) (by kernel_rfl) (by kernel_rfl) (by decide +kernel) ?_
  intro w Wr args bs r hg ho hWr A L k hA hL hk
  obtain ⟨F, hF⟩ : ∃ F, F = stdF := ⟨_, rfl⟩
  obtain ⟨H, hH⟩ : ∃ H, H = stdH := ⟨_, rfl⟩
  (try rw [← hF])
  (try rw [← hH])
  (try rw [← hA])
  unfold gDotR at hg
  split at hg
  rotate_left
  · cases hg
  simp only [Option.some.injEq] at hg
  subst hg
  rename_i a b c
  have cf := qc_f a b c A hA F hF H hH
  cbv
  repeat' first | (with_reducible intro hb; cbv) | with_reducible refine And.intro ?_ ?_
  · have e := cf.no hb
    refine hk _ _ (Good.pure rfl fun ρ => ?_)
    subst hH
    exact tupRt e.2.2 e.1
  · have e := cf.ok hb
    refine hk _ _ (Good.pure rfl fun ρ => ?_)
    subst hH hF
    exact tupRt e.2.2 e.1
theorem sign_cross (a b c : Pt) : stdF.sign (stdH.cross a b c) = stdH.turn a b c := by
  show stdF.sign (if allP [a, b, c] = true then ofQ (crossQ a b c) else zeroR) = if allP [a, b, c] = true then sgnQ (crossQ a b c) 0 else 0
  cases h : allP [a, b, c]
  · rfl
  · obtain ⟨ha, hb, hc⟩ := allP_three h
    have x1 := (Cal.of hb.x).sub (Cal.of ha.x) (by decide)
    have y1 := (Cal.of hc.y).sub (Cal.of ha.y) (by decide)
    have x2 := (Cal.of hb.y).sub (Cal.of ha.y) (by decide)
    have y2 := (Cal.of hc.x).sub (Cal.of ha.x) (by decide)
    have m1 := x1.2.mul y1.2 (by decide)
    have m2 := x2.2.mul y2.2 (by decide)
    have m := m1.2.sub m2.2 (by decide)
    show stdF.sign (ofQ (crossQ a b c)) = sgnQ (crossQ a b c) 0
    have e : ofQ (crossQ a b c) = stdF.sub (stdF.mul (stdF.sub b.X a.X) (stdF.sub c.Y a.Y)) (stdF.mul (stdF.sub b.Y a.Y) (stdF.sub c.X a.X)) := m.2.eq.symm
    rw [e]
    exact m.2.sign
theorem sign_dot (a b c : Pt) : stdF.sign (stdH.dot a b c) = if allP [a, b, c] = true then sgnQ (dotQ a b c) 0 else 0 := by
  show stdF.sign (if allP [a, b, c] = true then ofQ (dotQ a b c) else zeroR) = _
  cases h : allP [a, b, c]
  · rfl
  · obtain ⟨ha, hb, hc⟩ := allP_three h
    have x1 := (Cal.of hb.x).sub (Cal.of ha.x) (by decide)
    have y1 := (Cal.of hc.y).sub (Cal.of ha.y) (by decide)
    have x2 := (Cal.of hb.y).sub (Cal.of ha.y) (by decide)
    have y2 := (Cal.of hc.x).sub (Cal.of ha.x) (by decide)
    have m3 := x1.2.mul y2.2 (by decide)
    have m4 := x2.2.mul y1.2 (by decide)
    have m := m3.2.add m4.2 (by decide)
    show stdF.sign (ofQ (dotQ a b c)) = sgnQ (dotQ a b c) 0
    have e : ofQ (dotQ a b c) = stdF.add (stdF.mul (stdF.sub b.X a.X) (stdF.sub c.X a.X)) (stdF.mul (stdF.sub b.Y a.Y) (stdF.sub c.Y a.Y)) := m.2.eq.symm
    rw [e]
    exact m.2.sign
def tJ6 (A : Alg) (F : SF) (H : SH) : List (Nat × Sem') := (23, heapSem [.v, .v, .v] A (gCrossP H)) :: (45, heapSem [.v, .v, .v] A (gDotR H)) :: (46, heapSem [.v] A (gSignR F)) :: ([])
theorem tJ6OK : COK Tryz.prog (look (tJ6 stdA stdF stdH)) := COK_cons ok_qcross (COK_cons ok_qdot (COK_cons ok_rsign (COK_nil)))
theorem ok_qturn : CallOK Tryz.prog 32 (heapSem [.v, .v, .v] stdA (gTurnP stdH)) := by
  refine callOK_heap (un := ⟨false, some [3,4,5,6,7,8,9]⟩) tok tJ6OK mixed (fn := Tryz.f32) (by kernel_rfl) (by kernel_rfl) (by kernel_rfl) (by decide +kernel) ?_
  intro w Wr args bs r hg ho hWr A L k hA hL hk
  obtain ⟨F, hF⟩ : ∃ F, F = stdF := ⟨_, rfl⟩
  obtain ⟨H, hH⟩ : ∃ H, H = stdH := ⟨_, rfl⟩
  (try rw [← hF])
  (try rw [← hH])
  (try rw [← hA])
  unfold gTurnP at hg
  split at hg
  rotate_left
  · cases hg
  simp only [Option.some.injEq] at hg
  subst hg
  rename_i a b c
  have e : F.sign (H.cross a b c) = H.turn a b c := by subst hF hH; exact sign_cross a b c
  cbv
  refine hk _ _ (Good.pure rfl fun ρ => ?_)
  subst hH hF
  exact tupIb e rfl
theorem ok_qfar : CallOK Tryz.prog 72 (heapSem [.v, .v] stdA (gFar stdH)) := by
  refine callOK_heap (un := ⟨false, some [2,3,4,5]⟩) tok tJ6OK mixed (fn := Tryz.f72) (by kernel_rfl) (by kernel_rfl) (by kernel_rfl) (by decide +kernel) ?_
  intro w Wr args bs r hg ho hWr A L k hA hL hk
  obtain ⟨F, hF⟩ : ∃ F, F = stdF := ⟨_, rfl⟩
  obtain ⟨H, hH⟩ : ∃ H, H = stdH := ⟨_, rfl⟩
  (try rw [← hF])
  (try rw [← hH])
  (try rw [← hA])
  unfold gFar at hg
  split at hg
  rotate_left
  · cases hg
  simp only [Option.some.injEq] at hg
  subst hg
  rename_i x y
  cbv
  refine hk _ _ (Good.pure rfl fun ρ => ?_)
  subst hH
  exact tupR rfl rfl
def gTurnI (H : SH) : List CV → List Blk → Option LR
  | [.g [.P x], .g [.P y], .g [.P z]], [] => some ⟨[], .c (.s (.int .i64 (H.turn x y z))), []⟩
  | _, _ => none
def tJ7 (A : Alg) (H : SH) : List (Nat × Sem') := (32, heapSem [.v, .v, .v] A (gTurnP H)) :: ([])
theorem tJ7OK : COK Tryz.prog (look (tJ7 stdA stdH)) := COK_cons ok_qturn (COK_nil)
theorem ok_qtrn : CallOK Tryz.prog 44 (heapSem [.v, .v, .v] stdA (gTurnI stdH)) := by
  refine callOK_heap (un := ⟨false, some [3,4,5,6,7,8]⟩) tok tJ7OK mixed (fn := Tryz.f44) (by kernel_rfl) (by kernel_rfl) (by kernel_rfl) (by decide +kernel) ?_
  intro w Wr args bs r hg ho hWr A L k hA hL hk
  obtain ⟨H, hH⟩ : ∃ H, H = stdH := ⟨_, rfl⟩
  (try rw [← hH])
  (try rw [← hA])
  unfold gTurnI at hg
  split at hg
  rotate_left
  · cases hg
  simp only [Option.some.injEq] at hg
  subst hg
  cbv
  refine hk _ _ (Good.pure rfl fun ρ => ?_)
  subst hH
  exact ret1 rfl
end Go.Eng

