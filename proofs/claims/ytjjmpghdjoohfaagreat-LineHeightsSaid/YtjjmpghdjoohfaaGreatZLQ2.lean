
import Derived.Test.YtjjmpghdjoohfaaGreatZLQ0
import Derived.Test.YtjjmpghdjoohfaaGreatSpecFA
import Derived.Test.YtjjmpghdjoohfaaGreatSpecL
set_option linter.all false
set_option exponentiation.threshold 3000
namespace Go.Eng
open Go.Proofs
set_option maxRecDepth 100000
set_option linter.all false
set_option exponentiation.threshold 3000
set_option maxHeartbeats 2000000
def gLH (A : Alg) : List CV → List Blk → Option LR
  | [.s (.int .i8 a), .s (.int .i8 b), .s (.int .i8 c), .s (.int .i8 d), .s (.int .u8 n), .s (.int .u8 m)], [] => some ⟨[A.cmp .leq (-128) a, A.cmp .lss a 128, A.cmp .leq (-128) b, A.cmp .lss b 128, A.cmp .leq (-128) c, A.cmp .lss c 128, A.cmp .leq (-128) d, A.cmp .lss d 128, A.cmp .leq 0 n, A.cmp .lss n 256, A.cmp .leq 0 m, A.cmp .lss m 256], .c (.s (.bool true)), []⟩
  | _, _ => none
theorem s8_of {x : Int} {l : List Bool} (h : ∀ b, b ∈ stdA.cmp .leq (-128) x :: stdA.cmp .lss x 128 :: l → b = true) : S8 x ∧ ∀ b, b ∈ l → b = true :=
  ⟨⟨of_decide_eq_true (ho_cons h).1, of_decide_eq_true (ho_cons (ho_cons h).2).1⟩, (ho_cons (ho_cons h).2).2⟩
theorem u8_of {x : Int} {l : List Bool} (h : ∀ b, b ∈ stdA.cmp .leq 0 x :: stdA.cmp .lss x 256 :: l → b = true) : (0 ≤ x ∧ x < 256) ∧ ∀ b, b ∈ l → b = true :=
  ⟨⟨of_decide_eq_true (ho_cons h).1, of_decide_eq_true (ho_cons (ho_cons h).2).1⟩, (ho_cons (ho_cons h).2).2⟩
structure N8 (A : Alg) (x : Int) : Prop where
  w : A.wrap .i64 x = x
  a : A.cmp .leq (-9223372036854775808) x = true
  b : A.cmp .lss x 9223372036854775808 = true
theorem n8 {x : Int} (h1 : -9223372036854775808 ≤ x) (h2 : x < 9223372036854775808) (A : Alg) (hA : A = stdA) : N8 A x := by
  subst hA
  refine ⟨?_, leq_of _ rfl _ _ h1, lss_of _ rfl _ _ h2⟩
  show IntKind.i64.wrap x = x
  rw [IntKind.wrap_i64]; omega
theorem n8a {x : Int} (h1 : 0 ≤ x) (h2 : x < 256) (A : Alg) (hA : A = stdA) : A.bin .add .i64 x 1 = x + 1 := by
  subst hA
  show stdBin .add .i64 x 1 = x + 1; simp only [stdBin, IntKind.wrap_i64]; omega
theorem not_fL {A : Alg} (hA : A = stdA) {x : Bool} (h : A.not x = false) : x = true := by subst hA; have h : (!x) = false := h; simpa using h
def tP5 (A : Alg) (S : SW) (F : SF) (H : SH) (J : SJ) : List (Nat × Sem') := (9, heapSem [] A (gKnown)) :: (18, heapSem [.v, .v] A (gAtP A H)) :: (19, heapSem [.v, .v] A (gOfF A S F)) :: (14, heapSem [.v, .v, .v] A (gYAt J)) :: (20, heapSem [.v, .v] A (gCmpF F)) :: (10, heapSem [.v, .v, .v] A (gOnP A H J)) :: (16, heapSem [.v, .v, .v] A (gXAt J)) :: ([])
theorem tP5OK : COK Tryz.prog (look (tP5 stdA stdW stdF stdH stdJ)) := COK_cons ok_known4 (COK_cons ok_qat (COK_cons ok_rof (COK_cons ok_lyat (COK_cons ok_rcmpR (COK_cons ok_lon (COK_cons ok_lxat (COK_nil)))))))
theorem ok_lineHeights : CallOK Tryz.prog 4 (heapSem [.v, .v, .v, .v, .v, .v] stdA (gLH stdA)) := by
  refine callOK_heap (un := ⟨false, some [0,1,2,3,4,5,12,13,14,15,16,17,18,19,20,21,22,23,24,25,26,28,56,81,83]⟩) tok tP5OK mixed (fn := Tryz.f4) (by kernel_rfl) (by kernel_rfl) (by kernel_rfl) (by decide +kernel) ?_
  intro w Wr args bs r hg ho hWr A L k hA hL hk
  obtain ⟨F, hF⟩ : ∃ F, F = stdF := ⟨_, rfl⟩
  obtain ⟨H, hH⟩ : ∃ H, H = stdH := ⟨_, rfl⟩
  obtain ⟨J, hJ⟩ : ∃ J, J = stdJ := ⟨_, rfl⟩
  obtain ⟨S, hS⟩ : ∃ S, S = stdW := ⟨_, rfl⟩
  (try rw [← hF])
  (try rw [← hH])
  (try rw [← hJ])
  (try rw [← hS])
  (try rw [← hA])
  unfold gLH at hg
  split at hg
  rotate_left
  · cases hg
  simp only [Option.some.injEq] at hg
  subst hg
  rename_i x1 y1 x2 y2 n d
  obtain ⟨hx1, ho⟩ := s8_of ho
  obtain ⟨hy1, ho⟩ := s8_of ho
  obtain ⟨hx2, ho⟩ := s8_of ho
  obtain ⟨hy2, ho⟩ := s8_of ho
  obtain ⟨hn, ho⟩ := u8_of ho
  obtain ⟨hd, ho⟩ := u8_of ho
  clear ho
  obtain ⟨hok, lh⟩ := lh_f hx1 hy1 hx2 hy2 hn.1 hn.2 hd.1 hd.2 A hA S hS F hF H hH J hJ _ rfl
  have wx1 := n8 (x := x1) (by have := hx1.a; omega) (by have := hx1.b; omega) A hA
  have wy1 := n8 (x := y1) (by have := hy1.a; omega) (by have := hy1.b; omega) A hA
  have wx2 := n8 (x := x2) (by have := hx2.a; omega) (by have := hx2.b; omega) A hA
  have wy2 := n8 (x := y2) (by have := hy2.a; omega) (by have := hy2.b; omega) A hA
  have wn := n8 (x := n) (by omega) (by omega) A hA
  have wd := n8 (x := d) (by omega) (by omega) A hA
  have wd1 := n8 (x := d + 1) (by omega) (by omega) A hA
  have ad := n8a hd.1 hd.2 A hA
  cbv
  repeat' first | ((with_reducible intro hb); cbv) | with_reducible refine And.intro ?_ ?_
  all_goals (try simp only [wx1.w, wy1.w, wx2.w, wy2.w, wn.w, wd.w, ad])
  · exfalso; subst hA; cases hb
  all_goals first | exact wx1.a | exact wx1.b | exact wx2.a | exact wx2.b | exact wy1.a | exact wy1.b | exact wy2.a | exact wy2.b | exact wn.a | exact wn.b | exact wd1.a | exact wd1.b | skip
  · exfalso
    rw [wn.w, wd.w, ad, hok] at hb
    subst hA; cases hb
  · exfalso
    simp only [wx1.w, wy1.w, wx2.w, wy2.w, wn.w, wd.w, ad] at hb
    have hc := lh.c
    rw [hb] at hc
    cases hc
  · exact hk _ _ (Good.pure rfl fun ρ => retT rfl)
  · simp only [wx1.w, wy1.w, wx2.w, wy2.w, wn.w, wd.w, ad] at hb
    have hy := not_fL hA hb
    have e1 := lh.al hy
    have e2 := lh.on hy
    have e3 := lh.z hy
    refine hk _ _ (Good.pure rfl fun ρ => ?_)
    refine retB ?_
    simp only [e1, e2, e3, lh.t]
end Go.Eng

