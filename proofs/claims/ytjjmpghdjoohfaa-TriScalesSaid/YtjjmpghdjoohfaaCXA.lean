
import Derived.Test.YtjjmpghdjoohfaaCVA
import Derived.Test.YtjjmpghdjoohfaaSpecFA
import Derived.Test.YtjjmpghdjoohfaaEngZA
set_option linter.all false
set_option exponentiation.threshold 3000
namespace Go.Eng
open Go.Proofs
set_option maxRecDepth 100000
set_option linter.all false
set_option exponentiation.threshold 3000
set_option maxHeartbeats 2000000
def gCorIs (H : SH) : List CV → List Blk → Option LR
  | [.g [.P a, .P b, .P c]], [] => some ⟨[], .c (.s (.bool (H.all [a, b, c]))), []⟩
  | _, _ => none
def gCorTurn (H : SH) : List CV → List Blk → Option LR
  | [.g [.P a, .P b, .P c]], [] => some ⟨[], .c (.s (.int .i64 (H.turn a b c))), []⟩
  | _, _ => none
def gCorCross (H : SH) : List CV → List Blk → Option LR
  | [.g [.P a, .P b, .P c]], [] => some ⟨[], .c (.g [.R (H.cross a b c)]), []⟩
  | _, _ => none
def gCorDot (H : SH) : List CV → List Blk → Option LR
  | [.g [.P a, .P b, .P c]], [] => some ⟨[], .c (.g [.R (H.dot a b c)]), []⟩
  | _, _ => none
def gTriAll : List CV → List Blk → Option LR
  | [.g [.P a, .P b, .P c]], [] => some ⟨[], .c (.g [.P a, .P b, .P c, .P b, .P c, .P a, .P c, .P a, .P b]), []⟩
  | _, _ => none
theorem is3_c {a b p : Pt} (A : Alg) (hA : A = stdA) (H : SH) (hH : H = stdH) : A.ite (A.ite (H.all [a]) (H.all [b]) false) (H.all [p]) false = H.all [a, b, p] := by
  subst hA hH
  show (if (if (ptOK a && true) = true then (ptOK b && true) else false) = true then (ptOK p && true) else false) = (ptOK a && (ptOK b && (ptOK p && true)))
  cases ptOK a <;> cases ptOK b <;> cases ptOK p <;> rfl
theorem sgnQ_leT {q : Rat} : decide (sgnQ q 0 ≤ 0) = decide (q ≤ 0) := by
  rw [decide_eq_decide]
  rcases sgnQ_cases q 0 with ⟨h, e, _⟩ | ⟨h, e, _⟩ | ⟨h, e, _⟩ <;> rw [e]
  · exact ⟨fun _ => by grind, fun _ => by decide⟩
  · exact ⟨fun _ => by grind, fun _ => by decide⟩
  · exact ⟨fun h' => absurd h' (by decide), fun h' => absurd h' (Rat.not_le.2 h)⟩
def tR1 (A : Alg) (H : SH) : List (Nat × Sem') := (44, heapSem [.v] A (gIsP H)) :: ([])
theorem tR1OK : COK Try.prog (look (tR1 stdA stdH)) := COK_cons ok_pis (COK_nil)
theorem ok_tcis : CallOK Try.prog 29 (heapSem [.v] stdA (gCorIs stdH)) := by
  refine callOK_heap (un := ⟨false, some [1,2]⟩) tok tR1OK mixed (fn := Try.f29) (by kernel_rfl) (by kernel_rfl) (by kernel_rfl) (by decide +kernel) ?_
  intro w Wr args bs r hg ho hWr A L k hA hL hk
  obtain ⟨H, hH⟩ : ∃ H, H = stdH := ⟨_, rfl⟩
  (try rw [← hH])
  (try rw [← hA])
  unfold gCorIs at hg
  split at hg
  rotate_left
  · cases hg
  simp only [Option.some.injEq] at hg
  subst hg
  rename_i a b c
  have e := is3_c (a := a) (b := b) (p := c) A hA H hH
  cbv
  refine hk _ _ (Good.pure rfl fun ρ => ?_)
  subst hH
  exact retB e
def tR2 (A : Alg) (H : SH) : List (Nat × Sem') := (46, heapSem [.v, .v, .v] A (gTurn H)) :: (49, heapSem [.v, .v, .v] A (gCross H)) :: (55, heapSem [.v, .v, .v] A (gDotP H)) :: ([])
theorem tR2OK : COK Try.prog (look (tR2 stdA stdH)) := COK_cons ok_pturn (COK_cons ok_pcross (COK_cons ok_pdot (COK_nil)))
theorem ok_tcturn : CallOK Try.prog 34 (heapSem [.v] stdA (gCorTurn stdH)) := by
  refine callOK_heap (un := ⟨false, some [1,2,3,4]⟩) tok tR2OK mixed (fn := Try.f34) (by kernel_rfl) (by kernel_rfl) (by kernel_rfl) (by decide +kernel) ?_
  intro w Wr args bs r hg ho hWr A L k hA hL hk
  obtain ⟨H, hH⟩ : ∃ H, H = stdH := ⟨_, rfl⟩
  (try rw [← hH])
  (try rw [← hA])
  unfold gCorTurn at hg
  split at hg
  rotate_left
  · cases hg
  simp only [Option.some.injEq] at hg
  subst hg
  cbv
  refine hk _ _ (Good.pure rfl fun ρ => ?_)
  subst hH
  exact ret1 rfl
theorem ok_tccross : CallOK Try.prog 33 (heapSem [.v] stdA (gCorCross stdH)) := by
  refine callOK_heap (un := ⟨false, some [1,2,3,4]⟩) tok tR2OK mixed (fn := Try.f33) (by kernel_rfl) (by kernel_rfl) (by kernel_rfl) (by decide +kernel) ?_
  intro w Wr args bs r hg ho hWr A L k hA hL hk
  obtain ⟨H, hH⟩ : ∃ H, H = stdH := ⟨_, rfl⟩
  (try rw [← hH])
  (try rw [← hA])
  unfold gCorCross at hg
  split at hg
  rotate_left
  · cases hg
  simp only [Option.some.injEq] at hg
  subst hg
  cbv
  refine hk _ _ (Good.pure rfl fun ρ => ?_)
  subst hH
  exact retR rfl
theorem ok_tcdot : CallOK Try.prog 32 (heapSem [.v] stdA (gCorDot stdH)) := by
  refine callOK_heap (un := ⟨false, some [1,2,3,4]⟩) tok tR2OK mixed (fn := Try.f32) (by kernel_rfl) (by kernel_rfl) (by kernel_rfl) (by decide +kernel) ?_
  intro w Wr args bs r hg ho hWr A L k hA hL hk
  obtain ⟨H, hH⟩ : ∃ H, H = stdH := ⟨_, rfl⟩
  (try rw [← hH])
  (try rw [← hA])
  unfold gCorDot at hg
  split at hg
  rotate_left
  · cases hg
  simp only [Option.some.injEq] at hg
  subst hg
  cbv
  refine hk _ _ (Good.pure rfl fun ρ => ?_)
  subst hH
  exact retR rfl
theorem ok_tall : CallOK Try.prog 30 (heapSem [.v] stdA (gTriAll)) := by
  refine callOK_heap (un := ⟨false, some [1,2]⟩) tok noCOK mixed (fn := Try.f30) (by kernel_rfl) (by kernel_rfl) (by kernel_rfl) (by decide +kernel) ?_
  intro w Wr args bs r hg ho hWr A L k hA hL hk
  (try rw [← hA])
  unfold gTriAll at hg
  split at hg
  rotate_left
  · cases hg
  simp only [Option.some.injEq] at hg
  subst hg
  cbv
  refine hk _ _ (Good.pure rfl fun ρ => ?_)
  rfl
def tR3 (A : Alg) (H : SH) : List (Nat × Sem') := (49, heapSem [.v, .v, .v] A (gCross H)) :: ([])
theorem tR3OK : COK Try.prog (look (tR3 stdA stdH)) := COK_cons ok_pcross (COK_nil)
theorem ok_tarea : CallOK Try.prog 28 (heapSem [.v, .v, .v] stdA (gCrossP stdH)) := by
  refine callOK_heap (un := ⟨false, some [3,4,5,6,7]⟩) tok tR3OK mixed (fn := Try.f28) (by kernel_rfl) (by kernel_rfl) (by kernel_rfl) (by decide +kernel) ?_
  intro w Wr args bs r hg ho hWr A L k hA hL hk
  obtain ⟨H, hH⟩ : ∃ H, H = stdH := ⟨_, rfl⟩
  (try rw [← hH])
  (try rw [← hA])
  unfold gCrossP at hg
  split at hg
  rotate_left
  · cases hg
  simp only [Option.some.injEq] at hg
  subst hg
  cbv
  refine hk _ _ (Good.pure rfl fun ρ => ?_)
  subst hH
  exact tupR rfl rfl
def gPlace (E : SE) : List CV → List Blk → Option LR
  | [.g [.P a], .g [.P b], .g [.P c], .g [.P p]], [] => some ⟨[], .t [.s (.int .i64 (E.place a b c p)), .s (.bool (E.plOK a b c p))], []⟩
  | _, _ => none
def plC (A : Alg) (H : SH) (a b c p : Pt) : Bool := A.ite (A.ite (A.not (H.all [a, b, c])) true (A.not (H.all [p]))) true (A.cmp .neq (H.turn a b c) 1)
def onA (A : Alg) (H : SH) (J : SJ) (a b p : Pt) : Bool := A.ite (H.all [a, b, p]) (J.on a b p) false
structure PlE (A : Alg) (H : SH) (J : SJ) (E : SE) (a b c p : Pt) : Prop where
  no : plC A H a b c p = true → 0 = E.place a b c p ∧ false = E.plOK a b c p
  ok : plC A H a b c p = false → true = E.plOK a b c p
  o1 : plC A H a b c p = false → onA A H J a b p = true → 0 = E.place a b c p
  o2 : plC A H a b c p = false → onA A H J b c p = true → 0 = E.place a b c p
  o3 : plC A H a b c p = false → onA A H J c a p = true → 0 = E.place a b c p
  e1 : plC A H a b c p = false → onA A H J a b p = false → onA A H J b c p = false → onA A H J c a p = false → A.cmp .lss (A.mn (A.mn (A.mn 1 (H.turn a b p)) (H.turn b c p)) (H.turn c a p)) 1 = true → -1 = E.place a b c p
  e0 : plC A H a b c p = false → onA A H J a b p = false → onA A H J b c p = false → onA A H J c a p = false → A.cmp .lss (A.mn (A.mn (A.mn 1 (H.turn a b p)) (H.turn b c p)) (H.turn c a p)) 1 = false → 1 = E.place a b c p
theorem plc_eq (a b c p : Pt) : plC stdA stdH a b c p = !plOKP a b c p := by
  unfold plC plOKP
  show (if (if (!allP [a, b, c]) = true then true else !(ptOK p && true)) = true then true else ((if allP [a, b, c] = true then sgnQ (crossQ a b c) 0 else 0) != 1)) = !(allP [a, b, c] && (ptOK p && decide (sgnQ (crossQ a b c) 0 = 1)))
  cases allP [a, b, c]
  · rfl
  · cases ptOK p
    · rfl
    · show (sgnQ (crossQ a b c) 0 != 1) = !(true && (true && decide (sgnQ (crossQ a b c) 0 = 1)))
      rw [Bool.true_and, Bool.true_and]
      by_cases h : sgnQ (crossQ a b c) 0 = 1
      · rw [h]; rfl
      · rw [decide_eq_false h, bne_iff_ne.2 h]; rfl
theorem pl_e (a b c p : Pt) (A : Alg) (hA : A = stdA) (H : SH) (hH : H = stdH) (J : SJ) (hJ : J = stdJ) (E : SE) (hE : E = stdE) : PlE A H J E a b c p := by
  subst hA hH hJ hE
  have hc := plc_eq a b c p
  have em : ∀ c', plOKP a b c p = c' → stdE.place a b c p = if c' then min3 (sgnQ (crossQ a b p) 0) (sgnQ (crossQ b c p) 0) (sgnQ (crossQ c a p) 0) else 0 := fun c' h => by
    show (if plOKP a b c p = true then _ else _) = _
    rw [h]
  have un : plOKP a b c p = true → allP [a, b, c] = true ∧ ptOK p = true ∧ sgnQ (crossQ a b c) 0 = 1 := fun h => by
    unfold plOKP at h
    rw [Bool.and_eq_true, Bool.and_eq_true, decide_eq_true_eq] at h
    exact h
  have key : plOKP a b c p = true → onA stdA stdH stdJ a b p = (decide (sgnQ (crossQ a b p) 0 = 0) && (decide (0 ≤ sgnQ (crossQ b c p) 0) && decide (0 ≤ sgnQ (crossQ c a p) 0))) ∧
      onA stdA stdH stdJ b c p = (decide (sgnQ (crossQ b c p) 0 = 0) && (decide (0 ≤ sgnQ (crossQ c a p) 0) && decide (0 ≤ sgnQ (crossQ a b p) 0))) ∧
      onA stdA stdH stdJ c a p = (decide (sgnQ (crossQ c a p) 0 = 0) && (decide (0 ≤ sgnQ (crossQ a b p) 0) && decide (0 ≤ sgnQ (crossQ b c p) 0))) ∧
      stdH.turn a b p = sgnQ (crossQ a b p) 0 ∧ stdH.turn b c p = sgnQ (crossQ b c p) 0 ∧ stdH.turn c a p = sgnQ (crossQ c a p) 0 := fun h => by
    obtain ⟨h1, h2, h3⟩ := un h
    obtain ⟨ha, hb, hc⟩ := allP_three h1
    have ga := isPt_iff.2 ha
    have gb := isPt_iff.2 hb
    have gc := isPt_iff.2 hc
    have on1 : ∀ x y : Pt, ptOK x = true → ptOK y = true → onA stdA stdH stdJ x y p = onP x y p := fun x y hx hy => by
      show (if allP [x, y, p] = true then onP x y p else false) = _
      rw [if_pos (all3 hx hy h2)]
    rw [on1 a b ga gb, on1 b c gb gc, on1 c a gc ga]
    refine ⟨on_turns h3, ?_, ?_, turn_ok (all3 ga gb h2), turn_ok (all3 gb gc h2), turn_ok (all3 gc ga h2)⟩
    · exact on_turns (by rw [cross_rot]; exact h3)
    · exact on_turns (by rw [cross_rot, cross_rot]; exact h3)
  refine ⟨fun h => ?_, fun h => ?_, fun h h1 => ?_, fun h h1 => ?_, fun h h1 => ?_, fun h h1 h2 h3 h4 => ?_, fun h h1 h2 h3 h4 => ?_⟩
  · rw [hc, Bool.not_eq_true'] at h
    exact ⟨(em _ h).symm, h.symm⟩
  · rw [hc, Bool.not_eq_false'] at h
    exact h.symm
  all_goals
    rw [hc, Bool.not_eq_false'] at h
    obtain ⟨k1, k2, k3, k4, k5, k6⟩ := key h
    rw [em _ h, if_pos rfl]
    (try rw [k1] at h1)
    (try rw [k2] at h1)
    (try rw [k3] at h1)
    (try rw [k2] at h2)
    (try rw [k3] at h3)
    (try rw [k4, k5, k6] at h4)
    clear k1 k2 k3 k4 k5 k6 key em un hc
    generalize hx : sgnQ (crossQ a b p) 0 = x at *
    generalize hy : sgnQ (crossQ b c p) 0 = y at *
    generalize hz : sgnQ (crossQ c a p) 0 = z at *
    have x3 : x = -1 ∨ x = 0 ∨ x = 1 := by rw [← hx]; exact sgn3 _
    have y3 : y = -1 ∨ y = 0 ∨ y = 1 := by rw [← hy]; exact sgn3 _
    have z3 : z = -1 ∨ z = 0 ∨ z = 1 := by rw [← hz]; exact sgn3 _
    clear hx hy hz h
    rcases x3 with rfl | rfl | rfl <;> rcases y3 with rfl | rfl | rfl <;> rcases z3 with rfl | rfl | rfl <;> first | rfl | (exfalso; revert h1; decide) | (exfalso; revert h2; decide) | (exfalso; revert h3; decide) | (exfalso; revert h4; decide)
def tR4 (A : Alg) (H : SH) (J : SJ) : List (Nat × Sem') := (29, heapSem [.v] A (gCorIs H)) :: (44, heapSem [.v] A (gIsP H)) :: (34, heapSem [.v] A (gCorTurn H)) :: (30, heapSem [.v] A (gTriAll)) :: (10, heapSem [.v, .v, .v] A (gOnP A H J)) :: ([])
theorem tR4OK : COK Try.prog (look (tR4 stdA stdH stdJ)) := COK_cons ok_tcis (COK_cons ok_pis (COK_cons ok_tcturn (COK_cons ok_tall (COK_cons ok_lon (COK_nil)))))
theorem ok_tplace : CallOK Try.prog 26 (heapSem [.v, .v, .v, .v] stdA (gPlace stdE)) := by
  refine callOK_heap (un := ⟨true, some [4,5,6,7,8,9,10,11,13,14,15,35,37,38,39,50,62]⟩) tok tR4OK mixed (fn := Try.f26) (by kernel_rfl) (by kernel_rfl) (by kernel_rfl) (by decide +kernel) ?_
  intro w Wr args bs r hg ho hWr A L k hA hL hk
  obtain ⟨E, hE⟩ : ∃ E, E = stdE := ⟨_, rfl⟩
  obtain ⟨H, hH⟩ : ∃ H, H = stdH := ⟨_, rfl⟩
  obtain ⟨J, hJ⟩ : ∃ J, J = stdJ := ⟨_, rfl⟩
  (try rw [← hE])
  (try rw [← hH])
  (try rw [← hJ])
  (try rw [← hA])
  unfold gPlace at hg
  split at hg
  rotate_left
  · cases hg
  simp only [Option.some.injEq] at hg
  subst hg
  rename_i a b c p
  have pl := pl_e a b c p A hA H hH J hJ E hE
  cbv
  repeat' first | (with_reducible intro hb; cbv) | with_reducible refine And.intro ?_ ?_
  · have e := pl.no hb
    refine hk _ _ (Good.pure rfl fun ρ => ?_)
    subst hE
    exact tupLtt e.1 e.2
  intro h0
  cbv
  repeat' first | (with_reducible intro hb; cbv) | with_reducible refine And.intro ?_ ?_
  · have e := pl.o1 h0 hb
    refine hk _ _ (Good.pure rfl fun ρ => ?_)
    subst hE
    exact tupLtt e (pl.ok h0)
  intro h1
  cbv
  repeat' first | (with_reducible intro hb; cbv) | with_reducible refine And.intro ?_ ?_
  · have e := pl.o2 h0 hb
    refine hk _ _ (Good.pure rfl fun ρ => ?_)
    subst hE
    exact tupLtt e (pl.ok h0)
  intro h2
  cbv
  repeat' first | (with_reducible intro hb; cbv) | with_reducible refine And.intro ?_ ?_
  · have e := pl.o3 h0 hb
    refine hk _ _ (Good.pure rfl fun ρ => ?_)
    subst hE
    exact tupLtt e (pl.ok h0)
  · rename_i h3
    have e := pl.e1 h0 h1 h2 h3 hb
    refine hk _ _ (Good.pure rfl fun ρ => ?_)
    subst hE
    exact tupLtt e (pl.ok h0)
  · rename_i h3
    have e := pl.e0 h0 h1 h2 h3 hb
    refine hk _ _ (Good.pure rfl fun ρ => ?_)
    subst hE
    exact tupLtt e (pl.ok h0)
end Go.Eng
namespace Go.Eng
open Go.Proofs
set_option maxRecDepth 100000
set_option linter.all false
set_option exponentiation.threshold 3000
set_option maxHeartbeats 2000000
structure CorC (a b c : Pt) : Prop where
  x : Cal (stdH.cross a b c) (crossQ a b c) 485
  d : Cal (stdH.dot a b c) (dotQ a b c) 485
theorem cor_c {a b c : Pt} (h : allP [a, b, c] = true) : CorC a b c := by
  obtain ⟨ha, hb, hc⟩ := allP_three h
  have x1 := (Cal.of hb.x).sub (Cal.of ha.x) (by decide)
  have y1 := (Cal.of hc.y).sub (Cal.of ha.y) (by decide)
  have x2 := (Cal.of hb.y).sub (Cal.of ha.y) (by decide)
  have y2 := (Cal.of hc.x).sub (Cal.of ha.x) (by decide)
  have m1 := x1.2.mul y1.2 (by decide)
  have m2 := x2.2.mul y2.2 (by decide)
  have m3 := x1.2.mul y2.2 (by decide)
  have m4 := x2.2.mul y1.2 (by decide)
  have mx := (m1.2.sub m2.2 (by decide)).2
  have md := (m3.2.add m4.2 (by decide)).2
  constructor
  · rw [cross_ok h]; exact (show ofQ (crossQ a b c) = _ from mx.eq.symm) ▸ mx
  · rw [dot_ok h]; exact (show ofQ (dotQ a b c) = _ from md.eq.symm) ▸ md
def gSharp (H : SH) (E : SE) : List CV → List Blk → Option LR
  | [.g [.P a], .g [.P b], .g [.P c]], [] => some ⟨[], .t [.g [.R (E.sharp a b c)], .s (.bool (E.acute a b c)), .s (.bool (H.all [a, b, c]))], []⟩
  | _, _ => none
structure ShE (A : Alg) (S : SW) (F : SF) (H : SH) (E : SE) (a b c : Pt) : Prop where
  no : A.not (H.all [a, b, c]) = true → zeroR = E.sharp a b c ∧ false = E.acute a b c ∧ false = H.all [a, b, c]
  o1 : A.cmp .leq (-9223372036854775808) 0 = true
  o2 : A.cmp .lss 0 9223372036854775808 = true
  o3 : A.cmp .leq (-9223372036854775808) 1 = true
  o4 : A.cmp .lss 1 9223372036854775808 = true
  z : A.not (H.all [a, b, c]) = false → A.cmp .leq (F.sign (H.dot a b c)) 0 = true → F.new (S.from64 0) (S.from64 1) = E.sharp a b c ∧ H.whole 0 = E.sharp a b c ∧ false = E.acute a b c ∧ true = H.all [a, b, c]
  p : A.not (H.all [a, b, c]) = false → A.cmp .leq (F.sign (H.dot a b c)) 0 = false → F.div (H.cross a b c) (H.dot a b c) = E.sharp a b c ∧ F.divOK (H.cross a b c) (H.dot a b c) = E.acute a b c ∧ F.divOK (H.cross a b c) (H.dot a b c) = H.all [a, b, c] ∧ true = E.acute a b c ∧ true = H.all [a, b, c]
theorem sh_e (a b c : Pt) (A : Alg) (hA : A = stdA) (S : SW) (hS : S = stdW) (F : SF) (hF : F = stdF) (H : SH) (hH : H = stdH) (E : SE) (hE : E = stdE) : ShE A S F H E a b c := by
  subst hA hS hF hH hE
  have hn : stdA.not (stdH.all [a, b, c]) = !allP [a, b, c] := rfl
  have es : ∀ c', allP [a, b, c] = c' → (stdE.sharp a b c = if c' then (if 0 < dotQ a b c then ofQ (crossQ a b c / dotQ a b c) else ofQ 0) else zeroR) ∧ stdE.acute a b c = (c' && decide (0 < dotQ a b c)) := fun c' h => by
    constructor
    · show (if allP [a, b, c] = true then _ else _) = _
      rw [h]
    · show (allP [a, b, c] && _) = _
      rw [h]
  refine ⟨fun h => ?_, leq_of _ rfl _ _ (by omega), lss_of _ rfl _ _ (by omega), leq_of _ rfl _ _ (by omega), lss_of _ rfl _ _ (by omega), fun h hd => ?_, fun h hd => ?_⟩
  · rw [hn, Bool.not_eq_true'] at h
    obtain ⟨e1, e2⟩ := es _ h
    exact ⟨e1.symm, e2.symm, h.symm⟩
  · rw [hn, Bool.not_eq_false'] at h
    obtain ⟨e1, e2⟩ := es _ h
    rw [sign_dot, if_pos h] at hd
    have hd : decide (sgnQ (dotQ a b c) 0 ≤ 0) = true := hd
    rw [sgnQ_leT, decide_eq_true_eq] at hd
    rw [e1, e2, if_pos rfl, if_neg (Rat.not_lt.2 hd), decide_eq_false (Rat.not_lt.2 hd)]
    exact ⟨(new_int (x := 0) (by show (0 : Int).natAbs < 2 ^ 64; decide)).1, rfl, rfl, h.symm⟩
  · rw [hn, Bool.not_eq_false'] at h
    obtain ⟨e1, e2⟩ := es _ h
    rw [sign_dot, if_pos h] at hd
    have hd : decide (sgnQ (dotQ a b c) 0 ≤ 0) = false := hd
    rw [sgnQ_leT, decide_eq_false_iff_not] at hd
    have hd := Rat.not_le.1 hd
    rw [e1, e2, if_pos rfl, if_pos hd, decide_eq_true hd]
    have cc := cor_c h
    have dv := cc.x.div cc.d (by decide) (by intro e; rw [e] at hd; exact absurd hd (by decide))
    exact ⟨dv.2.eq, dv.1, dv.1.trans h.symm, rfl, h.symm⟩
section
variable {ρ : Rho} {f : Nat → Nat}
theorem tup2tt {b d x y : Bool} (h1 : b = d) (h2 : x = y) : (XV.t [.s (.tt b), .s (.tt x)]).den ρ = ((XV.t [.s (.bool d), .s (.bool y)]).ren f).den ρ := by subst h1 h2; rfl
theorem tup2bt {b d x y : Bool} (h1 : b = d) (h2 : x = y) : (XV.t [.s (.bool b), .s (.tt x)]).den ρ = ((XV.t [.s (.bool d), .s (.bool y)]).ren f).den ρ := by subst h1 h2; rfl
theorem tupRtt {a c : Rt} {b d x y : Bool} (h1 : a = c) (h2 : b = d) (h3 : x = y) : (XV.t [.g [.R a], .s (.tt b), .s (.tt x)]).den ρ = ((XV.t [.g [.R c], .s (.bool d), .s (.bool y)]).ren f).den ρ := by subst h1 h2 h3; rfl
theorem tupRbb {a c : Rt} {b d x y : Bool} (h1 : a = c) (h2 : b = d) (h3 : x = y) : (XV.t [.g [.R a], .s (.bool b), .s (.bool x)]).den ρ = ((XV.t [.g [.R c], .s (.bool d), .s (.bool y)]).ren f).den ρ := by subst h1 h2 h3; rfl
theorem tupR3t {a b c a' b' c' : Rt} {x y : Bool} (h1 : a = a') (h2 : b = b') (h3 : c = c') (h4 : x = y) : (XV.t [.g [.R a, .R b, .R c], .s (.tt x)]).den ρ = ((XV.t [.g [.R a', .R b', .R c'], .s (.bool y)]).ren f).den ρ := by subst h1 h2 h3 h4; rfl
end
def tR5 (A : Alg) (S : SW) (F : SF) (H : SH) : List (Nat × Sem') := (29, heapSem [.v] A (gCorIs H)) :: (32, heapSem [.v] A (gCorDot H)) :: (35, heapSem [.v] A (gSignR F)) :: (36, heapSem [.v, .v] A (gOfF A S F)) :: (33, heapSem [.v] A (gCorCross H)) :: (37, heapSem [.v, .v] A (gDivF F)) :: ([])
theorem tR5OK : COK Try.prog (look (tR5 stdA stdW stdF stdH)) := COK_cons ok_tcis (COK_cons ok_tcdot (COK_cons ok_fsign (COK_cons ok_fof (COK_cons ok_tccross (COK_cons ok_fdiv (COK_nil))))))
theorem ok_tsharp : CallOK Try.prog 15 (heapSem [.v, .v, .v] stdA (gSharp stdH stdE)) := by
  refine callOK_heap (un := ⟨false, some [3,4,5,6,7,8,9,10,11,12,13,22,28]⟩) tok tR5OK mixed (fn := Try.f15) (by kernel_rfl) (by kernel_rfl) (by kernel_rfl) (by decide +kernel) ?_
  intro w Wr args bs r hg ho hWr A L k hA hL hk
  obtain ⟨E, hE⟩ : ∃ E, E = stdE := ⟨_, rfl⟩
  obtain ⟨F, hF⟩ : ∃ F, F = stdF := ⟨_, rfl⟩
  obtain ⟨H, hH⟩ : ∃ H, H = stdH := ⟨_, rfl⟩
  obtain ⟨S, hS⟩ : ∃ S, S = stdW := ⟨_, rfl⟩
  (try rw [← hE])
  (try rw [← hF])
  (try rw [← hH])
  (try rw [← hS])
  (try rw [← hA])
  unfold gSharp at hg
  split at hg
  rotate_left
  · cases hg
  simp only [Option.some.injEq] at hg
  subst hg
  rename_i a b c
  have sh := sh_e a b c A hA S hS F hF H hH E hE
  cbv
  repeat' first | (with_reducible intro hb; cbv) | with_reducible refine And.intro ?_ ?_
  all_goals first | exact sh.o1 | exact sh.o2 | exact sh.o3 | exact sh.o4 | skip
  · have e := sh.no hb
    refine hk _ _ (Good.pure rfl fun ρ => ?_)
    subst hH hE
    exact tupRtt e.1 e.2.1 e.2.2
  · rename_i h0
    have e := sh.z h0 hb
    refine hk _ _ (Good.pure rfl fun ρ => ?_)
    subst hS hF hH hE
    exact tupRtt e.1 e.2.2.1 e.2.2.2
  · rename_i h0
    have e := sh.p h0 hb
    refine hk _ _ (Good.pure rfl fun ρ => ?_)
    subst hF hH hE
    exact tupRbb e.1 e.2.1 e.2.2.1
def gSides (H : SH) (E : SE) : List CV → List Blk → Option LR
  | [.g [.P a], .g [.P b], .g [.P c]], [] => some ⟨[], .t [.g [.R (E.side a b c a b), .R (E.side a b c b c), .R (E.side a b c c a)], .s (.bool (H.all [a, b, c]))], []⟩
  | _, _ => none
structure SdE (A : Alg) (H : SH) (E : SE) (a b c : Pt) : Prop where
  no : A.not (H.all [a, b, c]) = true → zeroR = E.side a b c a b ∧ zeroR = E.side a b c b c ∧ zeroR = E.side a b c c a ∧ false = H.all [a, b, c]
  ok : A.not (H.all [a, b, c]) = false → H.dot a b b = E.side a b c a b ∧ H.dot b c c = E.side a b c b c ∧ H.dot c a a = E.side a b c c a ∧ true = H.all [a, b, c]
theorem sd_e (a b c : Pt) (A : Alg) (hA : A = stdA) (H : SH) (hH : H = stdH) (E : SE) (hE : E = stdE) : SdE A H E a b c := by
  subst hA hH hE
  have hn : stdA.not (stdH.all [a, b, c]) = !allP [a, b, c] := rfl
  have es : ∀ c' x y, allP [a, b, c] = c' → stdE.side a b c x y = if c' then ofQ (dotQ x y y) else zeroR := fun c' x y h => by
    show (if allP [a, b, c] = true then _ else _) = _
    rw [h]
  refine ⟨fun h => ?_, fun h => ?_⟩
  · rw [hn, Bool.not_eq_true'] at h
    exact ⟨(es _ _ _ h).symm, (es _ _ _ h).symm, (es _ _ _ h).symm, h.symm⟩
  · rw [hn, Bool.not_eq_false'] at h
    obtain ⟨ha, hb, hc⟩ := allP_three h
    have ga := isPt_iff.2 ha
    have gb := isPt_iff.2 hb
    have gc := isPt_iff.2 hc
    rw [es _ _ _ h, es _ _ _ h, es _ _ _ h]
    exact ⟨dot_ok (all3 ga gb gb), dot_ok (all3 gb gc gc), dot_ok (all3 gc ga ga), h.symm⟩
def tR7 (A : Alg) (H : SH) : List (Nat × Sem') := (29, heapSem [.v] A (gCorIs H)) :: (30, heapSem [.v] A (gTriAll)) :: (48, heapSem [.v, .v] A (gFar H)) :: ([])
theorem tR7OK : COK Try.prog (look (tR7 stdA stdH)) := COK_cons ok_tcis (COK_cons ok_tall (COK_cons ok_pfar (COK_nil)))
theorem ok_tsides : CallOK Try.prog 27 (heapSem [.v, .v, .v] stdA (gSides stdH stdE)) := by
  refine callOK_heap (un := ⟨true, some [3,4,5,6,7,8,9,10,11,20,23,24,25]⟩) tok tR7OK mixed (fn := Try.f27) (by kernel_rfl) (by kernel_rfl) (by kernel_rfl) (by decide +kernel) ?_
  intro w Wr args bs r hg ho hWr A L k hA hL hk
  obtain ⟨E, hE⟩ : ∃ E, E = stdE := ⟨_, rfl⟩
  obtain ⟨H, hH⟩ : ∃ H, H = stdH := ⟨_, rfl⟩
  (try rw [← hE])
  (try rw [← hH])
  (try rw [← hA])
  unfold gSides at hg
  split at hg
  rotate_left
  · cases hg
  simp only [Option.some.injEq] at hg
  subst hg
  rename_i a b c
  have sd := sd_e a b c A hA H hH E hE
  cbv
  repeat' first | ((with_reducible intro hb); cbv) | with_reducible refine And.intro ?_ ?_
  · have e := sd.no hb
    refine hk _ _ (Good.pure rfl fun ρ => ?_)
    subst hH hE
    exact tupR3t e.1 e.2.1 e.2.2.1 e.2.2.2
  · have e := sd.ok hb
    refine hk _ _ (Good.pure rfl fun ρ => ?_)
    subst hH hE
    exact tupR3t e.1 e.2.1 e.2.2.1 e.2.2.2
def gGood (H : SH) (E : SE) : List CV → List Blk → Option LR
  | [.g [.P a], .g [.P b], .g [.P c]], [] => some ⟨[], .t [.s (.bool (E.good a b c)), .s (.bool (H.all [a, b, c]))], []⟩
  | _, _ => none
def wdC (A : Alg) (F : SF) (H : SH) (a b c : Pt) : Bool := A.ite (A.cmp .gtr (F.cmp (H.dot a b c) (H.cross a b c)) 0) true (A.not (F.two (H.dot a b c) (H.cross a b c)))
structure GdE (A : Alg) (F : SF) (H : SH) (E : SE) (a b c : Pt) : Prop where
  no : A.not (H.all [a, b, c]) = true → false = E.good a b c ∧ false = H.all [a, b, c]
  ok : A.not (H.all [a, b, c]) = false → true = H.all [a, b, c]
  w1 : A.not (H.all [a, b, c]) = false → wdC A F H a b c = true → false = E.good a b c
  w2 : A.not (H.all [a, b, c]) = false → wdC A F H b c a = true → false = E.good a b c
  w3 : A.not (H.all [a, b, c]) = false → wdC A F H c a b = true → false = E.good a b c
  y : A.not (H.all [a, b, c]) = false → wdC A F H a b c = false → wdC A F H b c a = false → wdC A F H c a b = false → A.cmp .eql (H.turn a b c) 1 = E.good a b c
theorem wd_c {a b c : Pt} (h : allP [a, b, c] = true) : wdC stdA stdF stdH a b c = !wideP a b c := by
  have cc := cor_c h
  obtain ⟨h1, h2⟩ := cc.d.cmp cc.x (by decide)
  unfold wdC wideP
  rw [h1, h2]
  show (if decide (sgnQ (dotQ a b c) (crossQ a b c) > 0) = true then true else !true) = _
  rcases sgnQ_cases (dotQ a b c) (crossQ a b c) with ⟨h, e, _⟩ | ⟨h, e, _⟩ | ⟨h, e, _⟩ <;> rw [e]
  · rw [decide_eq_true (by grind : dotQ a b c ≤ crossQ a b c)]; rfl
  · rw [decide_eq_true (by grind : dotQ a b c ≤ crossQ a b c)]; rfl
  · rw [decide_eq_false (Rat.not_le.2 h)]; rfl
theorem gd_e (a b c : Pt) (A : Alg) (hA : A = stdA) (F : SF) (hF : F = stdF) (H : SH) (hH : H = stdH) (E : SE) (hE : E = stdE) : GdE A F H E a b c := by
  subst hA hF hH hE
  have hn : stdA.not (stdH.all [a, b, c]) = !allP [a, b, c] := rfl
  have eg : ∀ c', allP [a, b, c] = c' → stdE.good a b c = (c' && (decide (sgnQ (crossQ a b c) 0 = 1) && (wideP a b c && (wideP b c a && wideP c a b)))) := fun c' h => by
    show (allP [a, b, c] && _) = _
    rw [h]
  have rot : allP [a, b, c] = true → allP [b, c, a] = true ∧ allP [c, a, b] = true := fun h => by
    obtain ⟨ha, hb, hc⟩ := allP_three h
    have ga := isPt_iff.2 ha
    have gb := isPt_iff.2 hb
    have gc := isPt_iff.2 hc
    exact ⟨all3 gb gc ga, all3 gc ga gb⟩
  refine ⟨fun h => ?_, fun h => ?_, fun h h1 => ?_, fun h h1 => ?_, fun h h1 => ?_, fun h h1 h2 h3 => ?_⟩
  · rw [hn, Bool.not_eq_true'] at h
    exact ⟨(eg _ h).symm, h.symm⟩
  · rw [hn, Bool.not_eq_false'] at h
    exact h.symm
  · rw [hn, Bool.not_eq_false'] at h
    rw [wd_c h, Bool.not_eq_true'] at h1
    rw [eg _ h, h1, Bool.false_and, Bool.and_false]; rfl
  · rw [hn, Bool.not_eq_false'] at h
    rw [wd_c (rot h).1, Bool.not_eq_true'] at h1
    rw [eg _ h, h1, Bool.false_and, Bool.and_false, Bool.and_false]; rfl
  · rw [hn, Bool.not_eq_false'] at h
    rw [wd_c (rot h).2, Bool.not_eq_true'] at h1
    rw [eg _ h, h1, Bool.and_false, Bool.and_false, Bool.and_false]; rfl
  · rw [hn, Bool.not_eq_false'] at h
    rw [wd_c h, Bool.not_eq_false'] at h1
    rw [wd_c (rot h).1, Bool.not_eq_false'] at h2
    rw [wd_c (rot h).2, Bool.not_eq_false'] at h3
    rw [eg _ h, h1, h2, h3, turn_ok h]
    show (sgnQ (crossQ a b c) 0 == 1) = _
    by_cases hs : sgnQ (crossQ a b c) 0 = 1
    · rw [hs]; rfl
    · rw [decide_eq_false hs, beq_eq_false_iff_ne.2 hs]; rfl
def tR9 (A : Alg) (F : SF) (H : SH) : List (Nat × Sem') := (29, heapSem [.v] A (gCorIs H)) :: (30, heapSem [.v] A (gTriAll)) :: (32, heapSem [.v] A (gCorDot H)) :: (33, heapSem [.v] A (gCorCross H)) :: (31, heapSem [.v, .v] A (gCmpF F)) :: (34, heapSem [.v] A (gCorTurn H)) :: ([])
theorem tR9OK : COK Try.prog (look (tR9 stdA stdF stdH)) := COK_cons ok_tcis (COK_cons ok_tall (COK_cons ok_tcdot (COK_cons ok_tccross (COK_cons ok_fcmp (COK_cons ok_tcturn (COK_nil))))))
theorem ok_tgood : CallOK Try.prog 14 (heapSem [.v, .v, .v] stdA (gGood stdH stdE)) := by
  refine callOK_heap (un := ⟨true, some [3,4,5,6,7,8,10,11,12,21,23,24,25,40]⟩) tok tR9OK mixed (fn := Try.f14) (by kernel_rfl) (by kernel_rfl) (by kernel_rfl) (by decide +kernel) ?_
  intro w Wr args bs r hg ho hWr A L k hA hL hk
  obtain ⟨E, hE⟩ : ∃ E, E = stdE := ⟨_, rfl⟩
  obtain ⟨F, hF⟩ : ∃ F, F = stdF := ⟨_, rfl⟩
  obtain ⟨H, hH⟩ : ∃ H, H = stdH := ⟨_, rfl⟩
  (try rw [← hE])
  (try rw [← hF])
  (try rw [← hH])
  (try rw [← hA])
  unfold gGood at hg
  split at hg
  rotate_left
  · cases hg
  simp only [Option.some.injEq] at hg
  subst hg
  rename_i a b c
  have gd := gd_e a b c A hA F hF H hH E hE
  cbv
  repeat' first | ((with_reducible intro hb); cbv) | with_reducible refine And.intro ?_ ?_
  · have e := gd.no hb
    refine hk _ _ (Good.pure rfl fun ρ => ?_)
    subst hH hE
    exact tup2tt e.1 e.2
  · rename_i h0
    have e := gd.w1 h0 hb
    have e2 := gd.ok h0
    refine hk _ _ (Good.pure rfl fun ρ => ?_)
    subst hH hE
    exact tup2tt e e2
  · rename_i h0 h1
    have e := gd.w2 h0 hb
    have e2 := gd.ok h0
    refine hk _ _ (Good.pure rfl fun ρ => ?_)
    subst hH hE
    exact tup2tt e e2
  · rename_i h0 h1 h2
    have e := gd.w3 h0 hb
    have e2 := gd.ok h0
    refine hk _ _ (Good.pure rfl fun ρ => ?_)
    subst hH hE
    exact tup2tt e e2
  · rename_i h0 h1 h2
    have e := gd.y h0 h1 h2 hb
    have e2 := gd.ok h0
    refine hk _ _ (Good.pure rfl fun ρ => ?_)
    subst hA hH hE
    exact tup2bt e e2
end Go.Eng

