/- The law PointMoves. -/
import Derived.Test.YtmajpppjakdodaaCRB
set_option linter.all false
set_option exponentiation.threshold 3000
namespace Go.Eng
open Go.Proofs
set_option maxRecDepth 100000
set_option linter.all false
set_option exponentiation.threshold 3000
set_option maxHeartbeats 4000000

def gMoves (A : Alg) : List CV → List Blk → Option LR
  | [.s (.int .i16 ax), .s (.int .i16 ay), .s (.int .i16 bx), .s (.int .i16 by_), .s (.int .i16 cx), .s (.int .i16 cy), .s (.int .i16 dx), .s (.int .i16 dy)], [] => some ⟨[A.cmp .leq (-32768) ax, A.cmp .lss ax 32768, A.cmp .leq (-32768) ay, A.cmp .lss ay 32768, A.cmp .leq (-32768) bx, A.cmp .lss bx 32768, A.cmp .leq (-32768) by_, A.cmp .lss by_ 32768, A.cmp .leq (-32768) cx, A.cmp .lss cx 32768, A.cmp .leq (-32768) cy, A.cmp .lss cy 32768, A.cmp .leq (-32768) dx, A.cmp .lss dx 32768, A.cmp .leq (-32768) dy, A.cmp .lss dy 32768], .c (.s (.bool true)), []⟩
  | _, _ => none

/-- numbers of 16 bits with a sign -/
def S16 (x : Int) : Prop := -32768 ≤ x ∧ x < 32768

structure MvN (A : Alg) (ax ay bx by_ cx cy dx dy : Int) : Prop where
  w : ∀ x, S16 x → A.wrap .i64 x = x
  ad : ∀ x y, S16 x → S16 y → A.bin .add .i64 x y = x + y
  sb : ∀ x y, S16 x → S16 y → A.bin .sub .i64 x y = x - y
  mu : ∀ x y u v, S16 x → S16 y → S16 u → S16 v → A.bin .mul .i64 (x - y) (u - v) = (x - y) * (u - v)
  cr : A.bin .sub .i64 ((bx - ax) * (cy - ay)) ((by_ - ay) * (cx - ax)) = (bx - ax) * (cy - ay) - (by_ - ay) * (cx - ax)
  dt : A.bin .add .i64 ((bx - ax) * (cx - ax)) ((by_ - ay) * (cy - ay)) = (bx - ax) * (cx - ax) + (by_ - ay) * (cy - ay)

theorem prod_small {x y u v : Int} (hx : S16 x) (hy : S16 y) (hu : S16 u) (hv : S16 v) : -4294967296 ≤ (x - y) * (u - v) ∧ (x - y) * (u - v) ≤ 4294967296 := by
  have h1 : (x - y).natAbs ≤ 65536 := by have := hx.1; have := hx.2; have := hy.1; have := hy.2; omega
  have h2 : (u - v).natAbs ≤ 65536 := by have := hu.1; have := hu.2; have := hv.1; have := hv.2; omega
  have h3 : ((x - y) * (u - v)).natAbs ≤ 4294967296 := by
    rw [Int.natAbs_mul]
    exact Nat.mul_le_mul h1 h2
  omega

theorem mv_n {ax ay bx by_ cx cy dx dy : Int} (hax : S16 ax) (hay : S16 ay) (hbx : S16 bx) (hby : S16 by_) (hcx : S16 cx) (hcy : S16 cy) (A : Alg) (hA : A = stdA) : MvN A ax ay bx by_ cx cy dx dy := by
  subst hA
  constructor
  · intro x h; have := h.1; have := h.2; simp only [stdA, stdBin, IntKind.wrap_i64]; omega
  · intro x y h k; have := h.1; have := h.2; have := k.1; have := k.2; simp only [stdA, stdBin, IntKind.wrap_i64]; omega
  · intro x y h k; have := h.1; have := h.2; have := k.1; have := k.2; simp only [stdA, stdBin, IntKind.wrap_i64]; omega
  · intro x y u v hx hy hu hv
    have := prod_small hx hy hu hv
    show IntKind.i64.wrap ((x - y) * (u - v)) = _
    rw [IntKind.wrap_i64]; omega
  · have := prod_small hbx hax hcy hay
    have := prod_small hby hay hcx hax
    show IntKind.i64.wrap _ = _
    rw [IntKind.wrap_i64]; omega
  · have := prod_small hbx hax hcx hax
    have := prod_small hby hay hcy hay
    show IntKind.i64.wrap _ = _
    rw [IntKind.wrap_i64]; omega

structure MvF (A : Alg) (H : SH) (ax ay bx by_ cx cy dx dy : Int) : Prop where
  p : H.all [H.at_ ax ay, H.at_ bx by_, H.at_ cx cy] = true
  q : H.all [H.at_ (ax + dx) (ay + dy), H.at_ (bx + dx) (by_ + dy), H.at_ (cx + dx) (cy + dy)] = true
  c : H.cross (H.at_ ax ay) (H.at_ bx by_) (H.at_ cx cy) = H.whole ((bx - ax) * (cy - ay) - (by_ - ay) * (cx - ax))
  c' : H.cross (H.at_ (ax + dx) (ay + dy)) (H.at_ (bx + dx) (by_ + dy)) (H.at_ (cx + dx) (cy + dy)) = H.whole ((bx - ax) * (cy - ay) - (by_ - ay) * (cx - ax))
  d : H.dot (H.at_ ax ay) (H.at_ bx by_) (H.at_ cx cy) = H.whole ((bx - ax) * (cx - ax) + (by_ - ay) * (cy - ay))
  d' : H.dot (H.at_ (ax + dx) (ay + dy)) (H.at_ (bx + dx) (by_ + dy)) (H.at_ (cx + dx) (cy + dy)) = H.whole ((bx - ax) * (cx - ax) + (by_ - ay) * (cy - ay))
  e : ∀ r, A.eqR r r = true
  i : ∀ b, A.ite true b false = b

theorem mv_f {ax ay bx by_ cx cy dx dy : Int} (hax : S16 ax) (hay : S16 ay) (hbx : S16 bx) (hby : S16 by_) (hcx : S16 cx) (hcy : S16 cy) (hdx : S16 dx) (hdy : S16 dy) (A : Alg) (hA : A = stdA) (H : SH) (hH : H = stdH) : MvF A H ax ay bx by_ cx cy dx dy := by
  subst hA hH
  have sm : ∀ z : Int, S16 z → Sm 60 z := fun z h => by have := h.1; have := h.2; show z.natAbs < 2 ^ 60; omega
  have sm2 : ∀ z y : Int, S16 z → S16 y → Sm 60 (z + y) := fun z y h k => by have := h.1; have := h.2; have := k.1; have := k.2; show (z + y).natAbs < 2 ^ 60; omega
  have a1 := atP (sm _ hax) (sm _ hay)
  have a2 := atP (sm _ hbx) (sm _ hby)
  have a3 := atP (sm _ hcx) (sm _ hcy)
  have b1 := atP (sm2 _ _ hax hdx) (sm2 _ _ hay hdy)
  have b2 := atP (sm2 _ _ hbx hdx) (sm2 _ _ hby hdy)
  have b3 := atP (sm2 _ _ hcx hdx) (sm2 _ _ hcy hdy)
  have p := all3 a1.is a2.is a3.is
  have q := all3 b1.is b2.is b3.is
  have e1 : ∀ x y d : Int, (x + d) - (y + d) = x - y := fun x y d => by omega
  exact {
    p := p
    q := q
    c := by rw [cross_ok p, cross_int a1 a2 a3]; rfl
    c' := by rw [cross_ok q, cross_int b1 b2 b3, e1, e1, e1, e1]; rfl
    d := by rw [dot_ok p, dot_int a1 a2 a3]; rfl
    d' := by rw [dot_ok q, dot_int b1 b2 b3, e1, e1, e1, e1]; rfl
    e := fun r => eqR_of rfl
    i := fun b => rfl }

theorem ok_pointMoves : CallOK Try.prog 10 (heapSem [.v, .v, .v, .v, .v, .v, .v, .v] stdA (gMoves stdA)) := by
  refine callOK_heap (un := ⟨false, some [0,1,2,3,4,5,6,7,16,17,18,19,20,21,22,23,24,25,26,27,28,29,30,31,32,34]⟩) tok tL0OK mixed (fn := Try.f10) (by kernel_rfl) (by kernel_rfl) (by kernel_rfl) (by decide +kernel) ?_
  intro w Wr args bs r hg ho hWr A L k hA hL hk
  obtain ⟨F, hF⟩ : ∃ F, F = stdF := ⟨_, rfl⟩
  obtain ⟨H, hH⟩ : ∃ H, H = stdH := ⟨_, rfl⟩
  obtain ⟨M, hM⟩ : ∃ M, M = stdM := ⟨_, rfl⟩
  obtain ⟨S, hS⟩ : ∃ S, S = stdW := ⟨_, rfl⟩
  obtain ⟨V, hV⟩ : ∃ V, V = stdV := ⟨_, rfl⟩
  obtain ⟨X, hX⟩ : ∃ X, X = stdX := ⟨_, rfl⟩
  (try rw [← hF])
  (try rw [← hH])
  (try rw [← hM])
  (try rw [← hS])
  (try rw [← hV])
  (try rw [← hX])
  (try rw [← hA])
  unfold gMoves at hg
  split at hg
  rotate_left
  · cases hg
  simp only [Option.some.injEq] at hg
  subst hg
  rename_i ax ay bx by_ cx cy dx dy
  have hax : S16 ax := by
    have x0 := (ho_cons ho).1; replace ho := (ho_cons ho).2
    have x1 := (ho_cons ho).1
    simp only [stdA, stdCmp, decide_eq_true_eq] at x0 x1
    exact ⟨x0, x1⟩
  replace ho := (ho_cons (ho_cons ho).2).2
  have hay : S16 ay := by
    have x0 := (ho_cons ho).1; replace ho := (ho_cons ho).2
    have x1 := (ho_cons ho).1
    simp only [stdA, stdCmp, decide_eq_true_eq] at x0 x1
    exact ⟨x0, x1⟩
  replace ho := (ho_cons (ho_cons ho).2).2
  have hbx : S16 bx := by
    have x0 := (ho_cons ho).1; replace ho := (ho_cons ho).2
    have x1 := (ho_cons ho).1
    simp only [stdA, stdCmp, decide_eq_true_eq] at x0 x1
    exact ⟨x0, x1⟩
  replace ho := (ho_cons (ho_cons ho).2).2
  have hby : S16 by_ := by
    have x0 := (ho_cons ho).1; replace ho := (ho_cons ho).2
    have x1 := (ho_cons ho).1
    simp only [stdA, stdCmp, decide_eq_true_eq] at x0 x1
    exact ⟨x0, x1⟩
  replace ho := (ho_cons (ho_cons ho).2).2
  have hcx : S16 cx := by
    have x0 := (ho_cons ho).1; replace ho := (ho_cons ho).2
    have x1 := (ho_cons ho).1
    simp only [stdA, stdCmp, decide_eq_true_eq] at x0 x1
    exact ⟨x0, x1⟩
  replace ho := (ho_cons (ho_cons ho).2).2
  have hcy : S16 cy := by
    have x0 := (ho_cons ho).1; replace ho := (ho_cons ho).2
    have x1 := (ho_cons ho).1
    simp only [stdA, stdCmp, decide_eq_true_eq] at x0 x1
    exact ⟨x0, x1⟩
  replace ho := (ho_cons (ho_cons ho).2).2
  have hdx : S16 dx := by
    have x0 := (ho_cons ho).1; replace ho := (ho_cons ho).2
    have x1 := (ho_cons ho).1
    simp only [stdA, stdCmp, decide_eq_true_eq] at x0 x1
    exact ⟨x0, x1⟩
  replace ho := (ho_cons (ho_cons ho).2).2
  have hdy : S16 dy := by
    have x0 := (ho_cons ho).1; replace ho := (ho_cons ho).2
    have x1 := (ho_cons ho).1
    simp only [stdA, stdCmp, decide_eq_true_eq] at x0 x1
    exact ⟨x0, x1⟩
  clear ho
  have q1 := prod_small hbx hax hcy hay
  have q2 := prod_small hby hay hcx hax
  have q3 := prod_small hbx hax hcx hax
  have q4 := prod_small hby hay hcy hay
  have mn := mv_n (dx := dx) (dy := dy) hax hay hbx hby hcx hcy A hA
  have mv := mv_f hax hay hbx hby hcx hcy hdx hdy A hA H hH
  cbv
  repeat' first | (with_reducible intro hb; cbv) | with_reducible refine And.intro ?_ ?_
  · subst hA; cases hb
  intro hb
  clear hb
  have := hax.1
  have := hax.2
  have := hay.1
  have := hay.2
  have := hbx.1
  have := hbx.2
  have := hby.1
  have := hby.2
  have := hcx.1
  have := hcx.2
  have := hcy.1
  have := hcy.2
  have := hdx.1
  have := hdx.2
  have := hdy.1
  have := hdy.2
  with_reducible refine run_skipM ?_
  show run _ _ (Code.seq _ _) _ _
  with_reducible refine run_seq_cut fun kk hn hx => ?_
  cbv
  repeat' first | (with_reducible intro hb; cbv) | with_reducible refine And.intro ?_ ?_
  all_goals first | (with_reducible refine hn _ ?_; clear hn hx kk) | (simp only [mn.w _ hax, mn.w _ hay, mn.w _ hbx, mn.w _ hby, mn.w _ hcx, mn.w _ hcy, mn.w _ hdx, mn.w _ hdy, mn.ad _ _ hax hdx, mn.ad _ _ hay hdy, mn.ad _ _ hbx hdx, mn.ad _ _ hby hdy, mn.ad _ _ hcx hdx, mn.ad _ _ hcy hdy]; exact leq_of A hA _ _ (by omega)) | (simp only [mn.w _ hax, mn.w _ hay, mn.w _ hbx, mn.w _ hby, mn.w _ hcx, mn.w _ hcy, mn.w _ hdx, mn.w _ hdy, mn.ad _ _ hax hdx, mn.ad _ _ hay hdy, mn.ad _ _ hbx hdx, mn.ad _ _ hby hdy, mn.ad _ _ hcx hdx, mn.ad _ _ hcy hdy]; exact lss_of A hA _ _ (by omega)) | ((try subst hA); (try subst hS); (try subst hR); (try subst hX); (try subst hC); (try subst hV); (try subst hT); (try subst hM); (try subst hF); (try subst hH); decide +kernel)
  with_reducible refine run_seq_cut fun kk hn hx => ?_
  cbv
  repeat' first | (with_reducible intro hb; cbv) | with_reducible refine And.intro ?_ ?_
  all_goals first | (with_reducible refine hn _ ?_; clear hn hx kk) | (simp only [mn.w _ hax, mn.w _ hay, mn.w _ hbx, mn.w _ hby, mn.w _ hcx, mn.w _ hcy, mn.w _ hdx, mn.w _ hdy, mn.ad _ _ hax hdx, mn.ad _ _ hay hdy, mn.ad _ _ hbx hdx, mn.ad _ _ hby hdy, mn.ad _ _ hcx hdx, mn.ad _ _ hcy hdy]; exact leq_of A hA _ _ (by omega)) | (simp only [mn.w _ hax, mn.w _ hay, mn.w _ hbx, mn.w _ hby, mn.w _ hcx, mn.w _ hcy, mn.w _ hdx, mn.w _ hdy, mn.ad _ _ hax hdx, mn.ad _ _ hay hdy, mn.ad _ _ hbx hdx, mn.ad _ _ hby hdy, mn.ad _ _ hcx hdx, mn.ad _ _ hcy hdy]; exact lss_of A hA _ _ (by omega)) | ((try subst hA); (try subst hS); (try subst hR); (try subst hX); (try subst hC); (try subst hV); (try subst hT); (try subst hM); (try subst hF); (try subst hH); decide +kernel)
  with_reducible refine run_seq_cut fun kk hn hx => ?_
  cbv
  repeat' first | (with_reducible intro hb; cbv) | with_reducible refine And.intro ?_ ?_
  all_goals first | (with_reducible refine hn _ ?_; clear hn hx kk) | (simp only [mn.w _ hax, mn.w _ hay, mn.w _ hbx, mn.w _ hby, mn.w _ hcx, mn.w _ hcy, mn.w _ hdx, mn.w _ hdy, mn.ad _ _ hax hdx, mn.ad _ _ hay hdy, mn.ad _ _ hbx hdx, mn.ad _ _ hby hdy, mn.ad _ _ hcx hdx, mn.ad _ _ hcy hdy]; exact leq_of A hA _ _ (by omega)) | (simp only [mn.w _ hax, mn.w _ hay, mn.w _ hbx, mn.w _ hby, mn.w _ hcx, mn.w _ hcy, mn.w _ hdx, mn.w _ hdy, mn.ad _ _ hax hdx, mn.ad _ _ hay hdy, mn.ad _ _ hbx hdx, mn.ad _ _ hby hdy, mn.ad _ _ hcx hdx, mn.ad _ _ hcy hdy]; exact lss_of A hA _ _ (by omega)) | ((try subst hA); (try subst hS); (try subst hR); (try subst hX); (try subst hC); (try subst hV); (try subst hT); (try subst hM); (try subst hF); (try subst hH); decide +kernel)
  with_reducible refine run_seq_cut fun kk hn hx => ?_
  cbv
  repeat' first | (with_reducible intro hb; cbv) | with_reducible refine And.intro ?_ ?_
  all_goals first | (with_reducible refine hn _ ?_; clear hn hx kk) | (simp only [mn.w _ hax, mn.w _ hay, mn.w _ hbx, mn.w _ hby, mn.w _ hcx, mn.w _ hcy, mn.w _ hdx, mn.w _ hdy, mn.ad _ _ hax hdx, mn.ad _ _ hay hdy, mn.ad _ _ hbx hdx, mn.ad _ _ hby hdy, mn.ad _ _ hcx hdx, mn.ad _ _ hcy hdy]; exact leq_of A hA _ _ (by omega)) | (simp only [mn.w _ hax, mn.w _ hay, mn.w _ hbx, mn.w _ hby, mn.w _ hcx, mn.w _ hcy, mn.w _ hdx, mn.w _ hdy, mn.ad _ _ hax hdx, mn.ad _ _ hay hdy, mn.ad _ _ hbx hdx, mn.ad _ _ hby hdy, mn.ad _ _ hcx hdx, mn.ad _ _ hcy hdy]; exact lss_of A hA _ _ (by omega)) | ((try subst hA); (try subst hS); (try subst hR); (try subst hX); (try subst hC); (try subst hV); (try subst hT); (try subst hM); (try subst hF); (try subst hH); decide +kernel)
  with_reducible refine run_seq_cut fun kk hn hx => ?_
  cbv
  repeat' first | (with_reducible intro hb; cbv) | with_reducible refine And.intro ?_ ?_
  all_goals first | (with_reducible refine hn _ ?_; clear hn hx kk) | (simp only [mn.w _ hax, mn.w _ hay, mn.w _ hbx, mn.w _ hby, mn.w _ hcx, mn.w _ hcy, mn.w _ hdx, mn.w _ hdy, mn.ad _ _ hax hdx, mn.ad _ _ hay hdy, mn.ad _ _ hbx hdx, mn.ad _ _ hby hdy, mn.ad _ _ hcx hdx, mn.ad _ _ hcy hdy]; exact leq_of A hA _ _ (by omega)) | (simp only [mn.w _ hax, mn.w _ hay, mn.w _ hbx, mn.w _ hby, mn.w _ hcx, mn.w _ hcy, mn.w _ hdx, mn.w _ hdy, mn.ad _ _ hax hdx, mn.ad _ _ hay hdy, mn.ad _ _ hbx hdx, mn.ad _ _ hby hdy, mn.ad _ _ hcx hdx, mn.ad _ _ hcy hdy]; exact lss_of A hA _ _ (by omega)) | ((try subst hA); (try subst hS); (try subst hR); (try subst hX); (try subst hC); (try subst hV); (try subst hT); (try subst hM); (try subst hF); (try subst hH); decide +kernel)
  with_reducible refine run_seq_cut fun kk hn hx => ?_
  cbv
  repeat' first | (with_reducible intro hb; cbv) | with_reducible refine And.intro ?_ ?_
  all_goals first | (with_reducible refine hn _ ?_; clear hn hx kk) | (simp only [mn.w _ hax, mn.w _ hay, mn.w _ hbx, mn.w _ hby, mn.w _ hcx, mn.w _ hcy, mn.w _ hdx, mn.w _ hdy, mn.ad _ _ hax hdx, mn.ad _ _ hay hdy, mn.ad _ _ hbx hdx, mn.ad _ _ hby hdy, mn.ad _ _ hcx hdx, mn.ad _ _ hcy hdy]; exact leq_of A hA _ _ (by omega)) | (simp only [mn.w _ hax, mn.w _ hay, mn.w _ hbx, mn.w _ hby, mn.w _ hcx, mn.w _ hcy, mn.w _ hdx, mn.w _ hdy, mn.ad _ _ hax hdx, mn.ad _ _ hay hdy, mn.ad _ _ hbx hdx, mn.ad _ _ hby hdy, mn.ad _ _ hcx hdx, mn.ad _ _ hcy hdy]; exact lss_of A hA _ _ (by omega)) | ((try subst hA); (try subst hS); (try subst hR); (try subst hX); (try subst hC); (try subst hV); (try subst hT); (try subst hM); (try subst hF); (try subst hH); decide +kernel)
  with_reducible refine run_seq_cut fun kk hn hx => ?_
  cbv
  repeat' first | (with_reducible intro hb; cbv) | with_reducible refine And.intro ?_ ?_
  all_goals first | (with_reducible refine hn _ ?_; clear hn hx kk) | (simp only [mn.w _ hax, mn.w _ hay, mn.w _ hbx, mn.w _ hby, mn.w _ hcx, mn.w _ hcy, mn.w _ hdx, mn.w _ hdy, mn.ad _ _ hax hdx, mn.ad _ _ hay hdy, mn.ad _ _ hbx hdx, mn.ad _ _ hby hdy, mn.ad _ _ hcx hdx, mn.ad _ _ hcy hdy]; exact leq_of A hA _ _ (by omega)) | (simp only [mn.w _ hax, mn.w _ hay, mn.w _ hbx, mn.w _ hby, mn.w _ hcx, mn.w _ hcy, mn.w _ hdx, mn.w _ hdy, mn.ad _ _ hax hdx, mn.ad _ _ hay hdy, mn.ad _ _ hbx hdx, mn.ad _ _ hby hdy, mn.ad _ _ hcx hdx, mn.ad _ _ hcy hdy]; exact lss_of A hA _ _ (by omega)) | ((try subst hA); (try subst hS); (try subst hR); (try subst hX); (try subst hC); (try subst hV); (try subst hT); (try subst hM); (try subst hF); (try subst hH); decide +kernel)
  with_reducible refine run_seq_cut fun kk hn hx => ?_
  cbv
  repeat' first | (with_reducible intro hb; cbv) | with_reducible refine And.intro ?_ ?_
  all_goals first | (with_reducible refine hn _ ?_; clear hn hx kk) | (simp only [mn.w _ hax, mn.w _ hay, mn.w _ hbx, mn.w _ hby, mn.w _ hcx, mn.w _ hcy, mn.w _ hdx, mn.w _ hdy, mn.ad _ _ hax hdx, mn.ad _ _ hay hdy, mn.ad _ _ hbx hdx, mn.ad _ _ hby hdy, mn.ad _ _ hcx hdx, mn.ad _ _ hcy hdy]; exact leq_of A hA _ _ (by omega)) | (simp only [mn.w _ hax, mn.w _ hay, mn.w _ hbx, mn.w _ hby, mn.w _ hcx, mn.w _ hcy, mn.w _ hdx, mn.w _ hdy, mn.ad _ _ hax hdx, mn.ad _ _ hay hdy, mn.ad _ _ hbx hdx, mn.ad _ _ hby hdy, mn.ad _ _ hcx hdx, mn.ad _ _ hcy hdy]; exact lss_of A hA _ _ (by omega)) | ((try subst hA); (try subst hS); (try subst hR); (try subst hX); (try subst hC); (try subst hV); (try subst hT); (try subst hM); (try subst hF); (try subst hH); decide +kernel)
  cbv
  repeat' first | (with_reducible intro hb; cbv) | with_reducible refine And.intro ?_ ?_
  all_goals simp only [mn.w _ hax, mn.w _ hay, mn.w _ hbx, mn.w _ hby, mn.w _ hcx, mn.w _ hcy, mn.w _ hdx, mn.w _ hdy, mn.ad _ _ hax hdx, mn.ad _ _ hay hdy, mn.ad _ _ hbx hdx, mn.ad _ _ hby hdy, mn.ad _ _ hcx hdx, mn.ad _ _ hcy hdy, mn.sb _ _ hbx hax, mn.sb _ _ hcy hay, mn.sb _ _ hby hay, mn.sb _ _ hcx hax, mn.mu _ _ _ _ hbx hax hcy hay, mn.mu _ _ _ _ hby hay hcx hax, mn.mu _ _ _ _ hbx hax hcx hax, mn.mu _ _ _ _ hby hay hcy hay, mn.cr, mn.dt]
  all_goals first | (with_reducible refine impA hA ?_; exact leq_of A hA _ _ (by omega)) | (with_reducible refine impA hA ?_; exact lss_of A hA _ _ (by omega)) | skip
  refine hk _ _ (Good.pure rfl fun ρ => ?_)
  refine retB ?_
  simp only [mv.p, mv.q, mv.c, mv.c', mv.d, mv.d', mv.e, mv.i]

def tL4 (A : Alg) (S : SW) (V : SV) (X : SX) (M : SM) (F : SF) (H : SH) : List (Nat × Sem') := (10, heapSem [.v, .v, .v, .v, .v, .v, .v, .v] A (gMoves A)) :: ((tL0 A S V X M F H))
theorem tL4OK : COK Try.prog (look (tL4 stdA stdW stdV stdX stdM stdF stdH)) := COK_cons ok_pointMoves (tL0OK)
end Go.Eng
