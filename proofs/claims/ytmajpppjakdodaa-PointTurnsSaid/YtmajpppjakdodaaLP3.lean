/- The law PointTurns. -/
import Derived.Test.YtmajpppjakdodaaCRB
set_option linter.all false
set_option exponentiation.threshold 3000
namespace Go.Eng
open Go.Proofs
set_option maxRecDepth 100000
set_option linter.all false
set_option exponentiation.threshold 3000
set_option maxHeartbeats 4000000

def gP3 : List CV → List Blk → Option LR
  | [.g [.P _], .g [.P _], .g [.P _]], [] => some ⟨[], .c (.s (.bool true)), []⟩
  | _, _ => none

theorem ofQ_inj {p q : Rat} (hp : FitQ p) (hq : FitQ q) (h : ofQ p = ofQ q) : p = q := by rw [← rval_ofQ hp, ← rval_ofQ hq, h]

theorem ofZ_neg {z : Int} (h : 0 ≤ z) : (ofZ z).neg = false := by
  unfold ofZ
  rw [decide_eq_false (show ¬ z < 0 by omega)]
  rfl

theorem ofQ_neg {q : Rat} (h : 0 ≤ q) : (ofQ q).N.neg = false := ofZ_neg (Rat.num_nonneg.2 h)

theorem sq_nonneg (x : Rat) : 0 ≤ x * x := by
  rcases Rat.le_total (a := 0) (b := x) with h | h
  · exact Rat.mul_nonneg h h
  · have h : 0 ≤ -x := by grind
    have := Rat.mul_nonneg h h
    grind

theorem sq_sum {x y : Rat} (h : x * x + y * y = 0) : x = 0 ∧ y = 0 := by
  have h1 := sq_nonneg x
  have h2 := sq_nonneg y
  have e1 : x * x = 0 := by grind
  have e2 : y * y = 0 := by grind
  exact ⟨by rcases Rat.mul_eq_zero.1 e1 with h | h <;> exact h, by rcases Rat.mul_eq_zero.1 e2 with h | h <;> exact h⟩

theorem dot_self (a b : Pt) : dotQ a b b = (px b - px a) * (px b - px a) + (py b - py a) * (py b - py a) := rfl

theorem sgnQ_neg (q : Rat) : sgnQ (-q) 0 = -sgnQ q 0 := by
  rcases sgnQ_cases q 0 with ⟨h, e, _⟩ | ⟨h, e, _⟩ | ⟨h, e, _⟩ <;> rcases sgnQ_cases (-q) 0 with ⟨h', e', _⟩ | ⟨h', e', _⟩ | ⟨h', e', _⟩ <;> rw [e, e'] <;> first | rfl | (exfalso; grind)

theorem mid_sm {l : List Pt} (h : midB l = true) : SmQ 490 (sumQ (l.map px) / ((l.length : Int) : Rat)) ∧ SmQ 490 (sumQ (l.map py) / ((l.length : Int) : Rat)) := by
  have hc' := h
  unfold midB at hc'
  simp only [Bool.and_eq_true, decide_eq_true_eq] at hc'
  obtain ⟨c1, c2, c3⟩ := hc'
  obtain ⟨x1, x2⟩ := sum_ok (l := l.map Pt.X) (by rw [List.length_map]; omega) (fun r hr => by obtain ⟨p, hp, rfl⟩ := List.mem_map.1 hr; exact (allP_mem c3 hp).x)
  obtain ⟨y1, y2⟩ := sum_ok (l := l.map Pt.Y) (by rw [List.length_map]; omega) (fun r hr => by obtain ⟨p, hp, rfl⟩ := List.mem_map.1 hr; exact (allP_mem c3 hp).y)
  have hz : Sm 3 (l.length : Int) := by show (l.length : Int).natAbs < 2 ^ 3; omega
  have cn : Cal (ofQ (((l.length : Int)) : Rat)) (((l.length : Int)) : Rat) 245 := (Cal.int hz (by decide) (by decide)).mono (by decide)
  have n0 : (((l.length : Int)) : Rat) ≠ 0 := fun h => by
    have := Rat.intCast_eq_zero_iff.1 h
    omega
  have mx : (l.map Pt.X).map rval = l.map px := by rw [List.map_map]; rfl
  have my : (l.map Pt.Y).map rval = l.map py := by rw [List.map_map]; rfl
  rw [mx] at x2
  rw [my] at y2
  exact ⟨(x2.div cn (by decide) n0).2.sm, (y2.div cn (by decide) n0).2.sm⟩

theorem mid_val {l : List Pt} (h : midB l = true) : px (stdH.mid l) = sumQ (l.map px) / ((l.length : Int) : Rat) ∧ py (stdH.mid l) = sumQ (l.map py) / ((l.length : Int) : Rat) := by
  rw [mid_ok h]
  obtain ⟨h1, h2⟩ := mid_sm h
  exact ⟨rval_ofQ (h1.fit (by decide)), rval_ofQ (h2.fit (by decide))⟩

structure TwF (A : Alg) (H : SH) (a b c : Pt) : Prop where
  p1 : H.all [a, b, c] = true
  p2 : H.all [b, c, a] = true
  p3 : H.all [b, a, c] = true
  p4 : H.all [a, b, b] = true
  p5 : H.all [b, a, a] = true
  mo : H.midOK [a, b] = true
  t1 : A.cmp .neq (H.turn a b c) (H.turn b c a) = false
  t2 : A.cmp .neq (H.turn a b c) (A.bin .sub .i64 0 (H.turn b a c)) = false
  e : A.eqR (H.dot a b b) (H.dot b a a) = true
  n : (H.dot a b b).N.neg = false
  z : A.beq (A.eqR (H.dot a b b) (H.whole 0)) (A.eqP a b) = true
  nT : A.not true = false
  iF : ∀ b, A.ite false true b = b
  iT : ∀ b, A.ite true b false = b
  m1 : A.not (H.all [H.mid [a, b]]) = false → H.all [a, b, H.mid [a, b]] = true
  m2 : A.not (H.all [H.mid [a, b]]) = false → A.cmp .eql (H.turn a b (H.mid [a, b])) 0 = true
  m3 : A.not (H.all [H.mid [a, b]]) = false → H.all [a, H.mid [a, b], H.mid [a, b]] = true
  m4 : A.not (H.all [H.mid [a, b]]) = false → H.all [H.mid [a, b], b, b] = true
  m5 : A.not (H.all [H.mid [a, b]]) = false → A.eqR (H.dot a (H.mid [a, b]) (H.mid [a, b])) (H.dot (H.mid [a, b]) b b) = true

theorem tw_f (a b c : Pt) (A : Alg) (hA : A = stdA) (H : SH) (hH : H = stdH) (hv : A.ite (A.ite (A.not (H.all [a])) true (A.not (H.all [b]))) true (A.not (H.all [c])) = false) : TwF A H a b c := by
  subst hA hH
  have o1 : ∀ p : Pt, stdH.all [p] = ptOK p := fun p => by
    show (ptOK p && true) = _
    rw [Bool.and_true]
  have hv : (if (if (!stdH.all [a]) = true then true else !stdH.all [b]) = true then true else !stdH.all [c]) = false := hv
  rw [o1, o1, o1] at hv
  have ha : ptOK a = true := by cases h : ptOK a <;> rw [h] at hv <;> simp at hv ⊢
  have hb : ptOK b = true := by cases h : ptOK b <;> rw [h, ha] at hv <;> simp at hv ⊢
  have hc : ptOK c = true := by cases h : ptOK c <;> rw [h, ha, hb] at hv <;> simp at hv ⊢
  clear hv
  have p1 := all3 ha hb hc
  have p2 := all3 hb hc ha
  have p3 := all3 hb ha hc
  have p4 := all3 ha hb hb
  have p5 := all3 hb ha ha
  have mo : midB [a, b] = true := midB_of (by show 2 ≠ 0; decide) (by show 2 ≤ 4; decide) (all2 ha hb)
  have cr2 : crossQ b c a = crossQ a b c := by unfold crossQ; grind
  have cr3 : crossQ b a c = -crossQ a b c := by unfold crossQ; grind
  have do2 : dotQ b a a = dotQ a b b := by unfold dotQ; grind
  have fit0 : FitQ (0 : Rat) := (smQ_int (k := 1) (z := 0) (by show (0 : Int).natAbs < 2 ^ 1; decide) (by decide)).fit (by decide)
  have hs : (sgnQ (crossQ a b c) 0).natAbs ≤ 1 := by rcases sgnQ_cases (crossQ a b c) 0 with ⟨_, e, _⟩ | ⟨_, e, _⟩ | ⟨_, e, _⟩ <;> rw [e] <;> decide
  obtain ⟨vx, vy⟩ := mid_val mo
  have vx : px (stdH.mid [a, b]) = (px a + (px b + 0)) / ((2 : Int) : Rat) := vx
  have vy : py (stdH.mid [a, b]) = (py a + (py b + 0)) / ((2 : Int) : Rat) := vy
  have hm : stdA.not (stdH.all [stdH.mid [a, b]]) = false → ptOK (stdH.mid [a, b]) = true := fun h => by
    rw [o1] at h
    have h : (!ptOK (stdH.mid [a, b])) = false := h
    rwa [Bool.not_eq_false'] at h
  obtain ⟨m, hmm⟩ : ∃ m, stdH.mid [a, b] = m := ⟨_, rfl⟩
  rw [hmm] at vx vy hm
  have vx : px m = (px a + px b) / 2 := by rw [vx, Rat.add_zero]; rfl
  have vy : py m = (py a + py b) / 2 := by rw [vy, Rat.add_zero]; rfl
  exact {
    p1 := p1
    p2 := p2
    p3 := p3
    p4 := p4
    p5 := p5
    mo := mo
    t1 := by
      rw [turn_ok p1, turn_ok p2, cr2]
      show (_ != _) = false
      simp
    t2 := by
      rw [turn_ok p1, turn_ok p3, cr3, sgnQ_neg]
      show (sgnQ (crossQ a b c) 0 != IntKind.i64.wrap (0 - -sgnQ (crossQ a b c) 0)) = false
      rw [bne_eq_false_iff_eq, IntKind.wrap_i64]
      omega
    e := eqR_of (by rw [dot_ok p4, dot_ok p5, do2])
    n := by
      rw [dot_ok p4]
      refine ofQ_neg ?_
      rw [dot_self]
      have := sq_nonneg (px b - px a)
      have := sq_nonneg (py b - py a)
      grind
    z := by
      rw [dot_ok p4]
      show (decide (ofQ (dotQ a b b) = ofQ ((0 : Int) : Rat)) == decide (a = b)) = true
      rw [beq_iff_eq, decide_eq_decide]
      constructor
      · intro h
        have h := ofQ_inj ((smQ_cross p4).2.fit (by decide)) fit0 h
        rw [dot_self] at h
        obtain ⟨h1, h2⟩ := sq_sum h
        exact (isPt_of ha).inj (isPt_of hb) (by grind) (by grind)
      · intro h
        subst h
        have : dotQ a a a = 0 := by unfold dotQ; grind
        rw [this]; rfl
    nT := rfl
    iF := fun _ => rfl
    iT := fun _ => rfl
    m1 := fun h => by rw [hmm] at h ⊢; exact all3 ha hb (hm h)
    m2 := fun h => by
      rw [hmm] at h ⊢
      rw [turn_ok (all3 ha hb (hm h))]
      have : crossQ a b m = 0 := by unfold crossQ; rw [vx, vy]; grind
      rw [this]; rfl
    m3 := fun h => by rw [hmm] at h ⊢; exact all3 ha (hm h) (hm h)
    m4 := fun h => by rw [hmm] at h ⊢; exact all3 (hm h) hb hb
    m5 := fun h => eqR_of (by
      rw [hmm] at h ⊢
      rw [dot_ok (all3 ha (hm h) (hm h)), dot_ok (all3 (hm h) hb hb)]
      have : dotQ a m m = dotQ m b b := by unfold dotQ; rw [vx, vy]; grind
      rw [this]) }

theorem ok_pointTurns : CallOK Try.prog 9 (heapSem [.v, .v, .v] stdA (gP3)) := by
  refine callOK_heap (un := ⟨false, some [3,4,5,6,7,8,9,10,11,12,13,14,15,16,17,18,19,20,21,22,23,24,26,39,131,134]⟩) tok tL0OK mixed (fn := Try.f9) (by kernel_rfl) (by kernel_rfl) (by kernel_rfl) (by decide +kernel) ?_
  intro w Wr args bs r hg ho hWr A L k hA hL hk
  obtain ⟨F, hF⟩ : ∃ F, F = stdF := ⟨_, rfl⟩
  obtain ⟨H, hH⟩ : ∃ H, H = stdH := ⟨_, rfl⟩
  obtain ⟨M, hM⟩ : ∃ M, M = stdM := ⟨_, rfl⟩
  obtain ⟨S, hS⟩ : ∃ S, S = stdW := ⟨_, rfl⟩
  obtain ⟨V, hV⟩ : ∃ V, V = stdV := ⟨_, rfl⟩
  obtain ⟨X, hX⟩ : ∃ X, X = stdX := ⟨_, rfl⟩
  (try rw [← hF])
  (try rw [← hH])
  (try rw [← hM])
  (try rw [← hS])
  (try rw [← hV])
  (try rw [← hX])
  (try rw [← hA])
  unfold gP3 at hg
  split at hg
  rotate_left
  · cases hg
  simp only [Option.some.injEq] at hg
  subst hg
  rename_i a b c
  have al2 : A.cmp .lss (A.len [a, b]) 1000000 = true := lss_of A hA _ _ (by subst hA; show (2 : Int) < 1000000; omega)
  cbv
  repeat' first | (with_reducible intro hb; cbv) | with_reducible refine And.intro ?_ ?_
  · subst hA; cases hb
  · exact hk _ _ (Good.pure rfl fun ρ => rfl)
  intro hb
  have tw := tw_f a b c A hA H hH hb
  with_reducible refine run_skipM ?_
  show run _ _ (Code.seq _ _) _ _
  with_reducible refine run_seq_cut fun kk hn hx => ?_
  cbv
  repeat' first | (with_reducible intro hb; cbv) | with_reducible refine And.intro ?_ ?_
  all_goals first | (with_reducible refine hn _ ?_; clear hn hx kk) | exact al2
  with_reducible refine run_seq_cut fun kk hn hx => ?_
  cbv
  repeat' first | (with_reducible intro hb; cbv) | with_reducible refine And.intro ?_ ?_
  all_goals first | (with_reducible refine hn _ ?_; clear hn hx kk) | exact al2
  with_reducible refine run_seq_cut fun kk hn hx => ?_
  cbv
  repeat' first | (with_reducible intro hb; cbv) | with_reducible refine And.intro ?_ ?_
  all_goals first | (with_reducible refine hn _ ?_; clear hn hx kk) | exact al2
  with_reducible refine run_seq_cut fun kk hn hx => ?_
  cbv
  repeat' first | (with_reducible intro hb; cbv) | with_reducible refine And.intro ?_ ?_
  all_goals first | (with_reducible refine hn _ ?_; clear hn hx kk) | exact al2
  with_reducible refine run_seq_cut fun kk hn hx => ?_
  cbv
  repeat' first | (with_reducible intro hb; cbv) | with_reducible refine And.intro ?_ ?_
  all_goals first | (with_reducible refine hn _ ?_; clear hn hx kk) | exact al2
  with_reducible refine run_seq_cut fun kk hn hx => ?_
  cbv
  repeat' first | (with_reducible intro hb; cbv) | with_reducible refine And.intro ?_ ?_
  all_goals first | (with_reducible refine hn _ ?_; clear hn hx kk) | exact al2
  with_reducible refine run_seq_cut fun kk0 hn0 hx0 => ?_
  with_reducible refine run_seq_cut fun kk hn hx => ?_
  with_reducible refine Dr_run (by decide +kernel) ?_
  with_reducible refine Dr_cut 15 fun P hP => ?_
  cbv
  with_reducible refine hP _ ?_
  clear hP P
  with_reducible refine Dr_cut 15 fun P hP => ?_
  cbv
  with_reducible refine hP _ ?_
  clear hP P
  with_reducible refine Dr_cut 15 fun P hP => ?_
  cbv
  with_reducible refine hP _ ?_
  clear hP P
  with_reducible refine Dr_cut 15 fun P hP => ?_
  cbv
  with_reducible refine hP _ ?_
  clear hP P
  with_reducible refine Dr_end (by kernel_rfl) (by kernel_rfl) ?_
  cbv
  repeat' with_reducible refine And.intro ?_ ?_
  all_goals first | (with_reducible refine hn _ ?_; clear hn hx kk) | (with_reducible refine impA hA ?_; (try subst hA); (try subst hS); (try subst hR); (try subst hX); (try subst hC); (try subst hV); (try subst hT); (try subst hM); (try subst hF); (try subst hH); decide +kernel)
  clear hL
  cbv
  repeat' first | (with_reducible intro hb; cbv) | with_reducible refine And.intro ?_ ?_
  · exfalso
    simp only [tw.p1, tw.p2, tw.p3, tw.p4, tw.p5, tw.mo, tw.t1, tw.t2, tw.e, tw.n, tw.z, tw.nT, tw.iF] at hb
    cases hb
  with_reducible refine hn0 _ ?_
  clear hn0 hx0 kk0
  cbv
  repeat' first | (with_reducible intro hb; cbv) | with_reducible refine And.intro ?_ ?_
  · exact hk _ _ (Good.pure rfl fun ρ => rfl)
  refine hk _ _ (Good.pure rfl fun ρ => ?_)
  refine retB ?_
  simp only [tw.m1 hb, tw.m2 hb, tw.m3 hb, tw.m4 hb, tw.m5 hb, tw.iT]

def tL3 (A : Alg) (S : SW) (V : SV) (X : SX) (M : SM) (F : SF) (H : SH) : List (Nat × Sem') := (9, heapSem [.v, .v, .v] A (gP3)) :: ((tL0 A S V X M F H))
theorem tL3OK : COK Try.prog (look (tL3 stdA stdW stdV stdX stdM stdF stdH)) := COK_cons ok_pointTurns (tL0OK)
end Go.Eng
