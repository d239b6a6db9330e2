/- The law PointMids. -/
import Derived.Test.YtmajpppjakdodaaCRB
set_option linter.all false
set_option exponentiation.threshold 3000
namespace Go.Eng
open Go.Proofs
set_option maxRecDepth 100000
set_option linter.all false
set_option exponentiation.threshold 3000
set_option maxHeartbeats 2000000

def gMids (A : Alg) : List CV → List Blk → Option LR
  | [.s (.int .i16 x), .s (.int .i16 y), .s (.int .u8 w), .s (.int .u8 h)], [] => some ⟨[A.cmp .leq (-32768) x, A.cmp .lss x 32768, A.cmp .leq (-32768) y, A.cmp .lss y 32768, A.cmp .leq 0 w, A.cmp .lss w 256, A.cmp .leq 0 h, A.cmp .lss h 256], .c (.s (.bool true)), []⟩
  | _, _ => none

def pts4 (H : SH) (x y w h : Int) : List Pt := [H.at_ x y, H.at_ (x + 2 * w) y, H.at_ (x + 2 * w) (y + 2 * h), H.at_ x (y + 2 * h)]

theorem midB_long {l : List Pt} (h : 4 < l.length) : midB l = false := by
  unfold midB
  rw [decide_eq_false (show ¬ l.length ≤ 4 by omega), Bool.false_and, Bool.and_false]

structure McF (A : Alg) (H : SH) (x y w h : Int) : Prop where
  m4 : H.midOK [H.at_ x y, H.at_ (x + 2 * w) y, H.at_ (x + 2 * w) (y + 2 * h), H.at_ x (y + 2 * h)] = true
  m2 : H.midOK [H.at_ x y, H.at_ (x + 2 * w) (y + 2 * h)] = true
  m1 : H.midOK [H.at_ x y] = true
  m5 : H.midOK [H.at_ x y, H.at_ (x + 2 * w) (y + 2 * h), H.at_ x (y + 2 * h), H.at_ (x + 2 * w) y, H.at_ x y] = false
  e4 : A.eqP (H.mid [H.at_ x y, H.at_ (x + 2 * w) y, H.at_ (x + 2 * w) (y + 2 * h), H.at_ x (y + 2 * h)]) (H.at_ (x + w) (y + h)) = true
  e2 : A.eqP (H.mid [H.at_ x y, H.at_ (x + 2 * w) (y + 2 * h)]) (H.at_ (x + w) (y + h)) = true
  e1 : A.eqP (H.mid [H.at_ x y]) (H.at_ x y) = true
  n : A.not false = true
  i : ∀ b, A.ite true b false = b

theorem mc_f {x y w h : Int} (x0 : -32768 ≤ x) (x1 : x < 32768) (y0 : -32768 ≤ y) (y1 : y < 32768) (w0 : 0 ≤ w) (w1 : w < 256) (h0 : 0 ≤ h) (h1 : h < 256) (A : Alg) (hA : A = stdA) (H : SH) (hH : H = stdH) : McF A H x y w h := by
  subst hA hH
  have sm : ∀ z : Int, -100000 ≤ z → z ≤ 100000 → Sm 60 z := fun z a b => by show z.natAbs < 2 ^ 60; omega
  have aa := atP (sm x (by omega) (by omega)) (sm y (by omega) (by omega))
  have ab := atP (sm (x + 2 * w) (by omega) (by omega)) (sm (y + 2 * h) (by omega) (by omega))
  have ac := atP (sm x (by omega) (by omega)) (sm (y + 2 * h) (by omega) (by omega))
  have ad := atP (sm (x + 2 * w) (by omega) (by omega)) (sm y (by omega) (by omega))
  have ew : stdH.at_ (x + w) (y + h) = ⟨ofQ ((x + w : Int) : Rat), ofQ ((y + h : Int) : Rat)⟩ := rfl
  have ea : stdH.at_ x y = ⟨ofQ ((x : Int) : Rat), ofQ ((y : Int) : Rat)⟩ := rfl
  have m4 : midB [stdH.at_ x y, stdH.at_ (x + 2 * w) y, stdH.at_ (x + 2 * w) (y + 2 * h), stdH.at_ x (y + 2 * h)] = true := midB_of (by show 4 ≠ 0; decide) (by show 4 ≤ 4; decide) (by
    show (ptOK _ && (ptOK _ && (ptOK _ && (ptOK _ && true)))) = true
    rw [aa.is, ab.is, ac.is, ad.is]; rfl)
  have m2 : midB [stdH.at_ x y, stdH.at_ (x + 2 * w) (y + 2 * h)] = true := midB_of (by show 2 ≠ 0; decide) (by show 2 ≤ 4; decide) (all2 aa.is ab.is)
  have m1 : midB [stdH.at_ x y] = true := midB_of (by show 1 ≠ 0; decide) (by show 1 ≤ 4; decide) (by show (ptOK _ && true) = true; rw [aa.is]; rfl)
  exact {
    m4 := m4
    m2 := m2
    m1 := m1
    m5 := by
      exact midB_long (l := [stdH.at_ x y, stdH.at_ (x + 2 * w) (y + 2 * h), stdH.at_ x (y + 2 * h), stdH.at_ (x + 2 * w) y, stdH.at_ x y]) (Nat.le_refl 5)
    e4 := eqP_of (by
      rw [mid_ok m4, ew]
      unfold midP
      have ex : sumQ ([stdH.at_ x y, stdH.at_ (x + 2 * w) y, stdH.at_ (x + 2 * w) (y + 2 * h), stdH.at_ x (y + 2 * h)].map px) / (([stdH.at_ x y, stdH.at_ (x + 2 * w) y, stdH.at_ (x + 2 * w) (y + 2 * h), stdH.at_ x (y + 2 * h)].length : Int) : Rat) = ((x + w : Int) : Rat) := by
        show (px _ + (px _ + (px _ + (px _ + 0)))) / ((4 : Int) : Rat) = _
        rw [aa.x, ab.x, ac.x, ad.x]
        simp only [Rat.intCast_add, Rat.intCast_mul]
        grind
      have ey : sumQ ([stdH.at_ x y, stdH.at_ (x + 2 * w) y, stdH.at_ (x + 2 * w) (y + 2 * h), stdH.at_ x (y + 2 * h)].map py) / (([stdH.at_ x y, stdH.at_ (x + 2 * w) y, stdH.at_ (x + 2 * w) (y + 2 * h), stdH.at_ x (y + 2 * h)].length : Int) : Rat) = ((y + h : Int) : Rat) := by
        show (py _ + (py _ + (py _ + (py _ + 0)))) / ((4 : Int) : Rat) = _
        rw [aa.y, ab.y, ac.y, ad.y]
        simp only [Rat.intCast_add, Rat.intCast_mul]
        grind
      rw [ex, ey])
    e2 := eqP_of (by
      rw [mid_ok m2, ew]
      unfold midP
      have ex : sumQ ([stdH.at_ x y, stdH.at_ (x + 2 * w) (y + 2 * h)].map px) / (([stdH.at_ x y, stdH.at_ (x + 2 * w) (y + 2 * h)].length : Int) : Rat) = ((x + w : Int) : Rat) := by
        show (px _ + (px _ + 0)) / ((2 : Int) : Rat) = _
        rw [aa.x, ab.x]
        simp only [Rat.intCast_add, Rat.intCast_mul]
        grind
      have ey : sumQ ([stdH.at_ x y, stdH.at_ (x + 2 * w) (y + 2 * h)].map py) / (([stdH.at_ x y, stdH.at_ (x + 2 * w) (y + 2 * h)].length : Int) : Rat) = ((y + h : Int) : Rat) := by
        show (py _ + (py _ + 0)) / ((2 : Int) : Rat) = _
        rw [aa.y, ab.y]
        simp only [Rat.intCast_add, Rat.intCast_mul]
        grind
      rw [ex, ey])
    e1 := eqP_of (by
      rw [mid_ok m1, (isPt_of aa.is).eq, aa.x, aa.y]
      unfold midP
      have ex : sumQ ([(⟨ofQ (x : Rat), ofQ (y : Rat)⟩ : Pt)].map px) / (([(⟨ofQ (x : Rat), ofQ (y : Rat)⟩ : Pt)].length : Int) : Rat) = (x : Rat) := by
        show (px (stdH.at_ x y) + 0) / ((1 : Int) : Rat) = _
        rw [aa.x]
        grind
      have ey : sumQ ([(⟨ofQ (x : Rat), ofQ (y : Rat)⟩ : Pt)].map py) / (([(⟨ofQ (x : Rat), ofQ (y : Rat)⟩ : Pt)].length : Int) : Rat) = (y : Rat) := by
        show (py (stdH.at_ x y) + 0) / ((1 : Int) : Rat) = _
        rw [aa.y]
        grind
      rw [ex, ey])
    n := rfl
    i := fun b => rfl }

structure McN (A : Alg) (x y w h : Int) : Prop where
  ex : A.wrap .i64 x = x
  ey : A.wrap .i64 y = y
  ew : A.wrap .i64 w = w
  eh : A.wrap .i64 h = h
  ew2 : A.bin .mul .i64 2 w = 2 * w
  eh2 : A.bin .mul .i64 2 h = 2 * h
  exw2 : A.bin .add .i64 x (2 * w) = x + 2 * w
  eyh2 : A.bin .add .i64 y (2 * h) = y + 2 * h
  exw : A.bin .add .i64 x w = x + w
  eyh : A.bin .add .i64 y h = y + h

theorem mc_n {x y w h : Int} (x0 : -32768 ≤ x) (x1 : x < 32768) (y0 : -32768 ≤ y) (y1 : y < 32768) (w0 : 0 ≤ w) (w1 : w < 256) (h0 : 0 ≤ h) (h1 : h < 256) (A : Alg) (hA : A = stdA) : McN A x y w h := by
  subst hA
  constructor
  all_goals (simp only [stdA, stdBin, IntKind.wrap_i64]; omega)

theorem ok_pointMids : CallOK Try.prog 12 (heapSem [.v, .v, .v, .v] stdA (gMids stdA)) := by
  refine callOK_heap (un := ⟨false, some [0,1,2,3,8,9,10,11,12,13,14,15,16,17,18,19,20,21,23]⟩) tok tL0OK mixed (fn := Try.f12) (by kernel_rfl) (by kernel_rfl) (by kernel_rfl) (by decide +kernel) ?_
  intro w Wr args bs r hg ho hWr A L k hA hL hk
  obtain ⟨F, hF⟩ : ∃ F, F = stdF := ⟨_, rfl⟩
  obtain ⟨H, hH⟩ : ∃ H, H = stdH := ⟨_, rfl⟩
  obtain ⟨M, hM⟩ : ∃ M, M = stdM := ⟨_, rfl⟩
  obtain ⟨S, hS⟩ : ∃ S, S = stdW := ⟨_, rfl⟩
  obtain ⟨V, hV⟩ : ∃ V, V = stdV := ⟨_, rfl⟩
  obtain ⟨X, hX⟩ : ∃ X, X = stdX := ⟨_, rfl⟩
  (try rw [← hF])
  (try rw [← hH])
  (try rw [← hM])
  (try rw [← hS])
  (try rw [← hV])
  (try rw [← hX])
  (try rw [← hA])
  unfold gMids at hg
  split at hg
  rotate_left
  · cases hg
  simp only [Option.some.injEq] at hg
  subst hg
  rename_i x y w h
  have x0 := (ho_cons ho).1; replace ho := (ho_cons ho).2
  have x1 := (ho_cons ho).1; replace ho := (ho_cons ho).2
  have y0 := (ho_cons ho).1; replace ho := (ho_cons ho).2
  have y1 := (ho_cons ho).1; replace ho := (ho_cons ho).2
  have w0 := (ho_cons ho).1; replace ho := (ho_cons ho).2
  have w1 := (ho_cons ho).1; replace ho := (ho_cons ho).2
  have h0 := (ho_cons ho).1; replace ho := (ho_cons ho).2
  have h1 := (ho_cons ho).1
  clear ho
  simp only [stdA, stdCmp, decide_eq_true_eq] at x0 x1 y0 y1 w0 w1 h0 h1
  have mn := mc_n x0 x1 y0 y1 w0 w1 h0 h1 A hA
  have mc := mc_f x0 x1 y0 y1 w0 w1 h0 h1 A hA H hH
  cbv
  repeat' first | (with_reducible intro hb; cbv) | with_reducible refine And.intro ?_ ?_
  · subst hA; cases hb
  all_goals simp only [mn.ex, mn.ey, mn.ew, mn.eh, mn.ew2, mn.eh2, mn.exw2, mn.eyh2, mn.exw, mn.eyh]
  all_goals first | (exact leq_of A hA _ _ (by omega)) | (exact lss_of A hA _ _ (by omega)) | (refine lss_of A hA _ _ ?_; subst hA; show ((_ : Nat) : Int) < 1000000; simp only [List.length_cons, List.length_nil]; omega) | skip
  refine hk _ _ (Good.pure rfl fun ρ => ?_)
  refine retB ?_
  simp only [mc.m4, mc.m2, mc.m1, mc.m5, mc.e4, mc.e2, mc.e1, mc.n, mc.i]

def tL2 (A : Alg) (S : SW) (V : SV) (X : SX) (M : SM) (F : SF) (H : SH) : List (Nat × Sem') := (12, heapSem [.v, .v, .v, .v] A (gMids A)) :: ((tL0 A S V X M F H))
theorem tL2OK : COK Try.prog (look (tL2 stdA stdW stdV stdX stdM stdF stdH)) := COK_cons ok_pointMids (tL0OK)
end Go.Eng
