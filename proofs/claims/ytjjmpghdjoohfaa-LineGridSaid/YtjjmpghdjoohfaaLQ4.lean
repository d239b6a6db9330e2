
import Derived.Test.YtjjmpghdjoohfaaLQ0
import Derived.Test.YtjjmpghdjoohfaaSpecLg
set_option linter.all false
set_option exponentiation.threshold 3000
namespace Go.Eng
open Go.Proofs
set_option maxRecDepth 100000
set_option linter.all false
set_option exponentiation.threshold 3000
set_option maxHeartbeats 2000000
def gVs (A : Alg) (D : SD) : List CV → List Blk → Option LR
  | [.s (.int .i8 a), .s (.int .i8 b), .s (.int .i8 c), .s (.int .i8 d), .s (.int .i8 e), .s (.int .i8 f)], [] => some ⟨[A.cmp .leq (-128) a, A.cmp .lss a 128, A.cmp .leq (-128) b, A.cmp .lss b 128, A.cmp .leq (-128) c, A.cmp .lss c 128, A.cmp .leq (-128) d, A.cmp .lss d 128, A.cmp .leq (-128) e, A.cmp .lss e 128, A.cmp .leq (-128) f, A.cmp .lss f 128], .c (.s (.int .i64 (D.side a b c d e f))), []⟩
  | _, _ => none
theorem i8_of {x : Int} {l : List Bool} (h : ∀ b, b ∈ stdA.cmp .leq (-128) x :: stdA.cmp .lss x 128 :: l → b = true) : I8 x ∧ ∀ b, b ∈ l → b = true :=
  ⟨⟨of_decide_eq_true (ho_cons h).1, of_decide_eq_true (ho_cons (ho_cons h).2).1⟩, (ho_cons (ho_cons h).2).2⟩
structure I8W (A : Alg) (x : Int) : Prop where
  w : A.wrap .i64 x = x
  a : A.cmp .leq (-9223372036854775808) x = true
  b : A.cmp .lss x 9223372036854775808 = true
  c : A.cmp .leq (-128) x = true
  d : A.cmp .lss x 128 = true
theorem i8w {x : Int} (h : I8 x) (A : Alg) (hA : A = stdA) : I8W A x := by
  have h1 := h.a
  have h2 := h.b
  subst hA
  refine ⟨?_, leq_of _ rfl _ _ (by omega), lss_of _ rfl _ _ (by omega), leq_of _ rfl _ _ h1, lss_of _ rfl _ _ h2⟩
  show IntKind.i64.wrap x = x
  rw [IntKind.wrap_i64]; omega
def gLG (A : Alg) : List CV → List Blk → Option LR
  | [.s (.int .i8 a), .s (.int .i8 b), .s (.int .i8 c), .s (.int .i8 d), .s (.int .i8 e), .s (.int .i8 f), .s (.int .i8 g), .s (.int .i8 h)], [] => some ⟨[A.cmp .leq (-128) a, A.cmp .lss a 128, A.cmp .leq (-128) b, A.cmp .lss b 128, A.cmp .leq (-128) c, A.cmp .lss c 128, A.cmp .leq (-128) d, A.cmp .lss d 128, A.cmp .leq (-128) e, A.cmp .lss e 128, A.cmp .leq (-128) f, A.cmp .lss f 128, A.cmp .leq (-128) g, A.cmp .lss g 128, A.cmp .leq (-128) h, A.cmp .lss h 128], .c (.s (.bool true)), []⟩
  | _, _ => none
structure VsF (A : Alg) (D : SD) (a b c d e f : Int) (n : Int) : Prop where
  g : A.cmp .gtr n 0 = true → 1 = D.side a b c d e f
  l : A.cmp .gtr n 0 = false → A.cmp .lss n 0 = true → -1 = D.side a b c d e f
  z : A.cmp .gtr n 0 = false → A.cmp .lss n 0 = false → 0 = D.side a b c d e f
theorem vs_mul {x y : Int} (hx : -256 < x ∧ x < 256) (hy : -256 < y ∧ y < 256) : -65536 < x * y ∧ x * y < 65536 := by
  have h : (x * y).natAbs < 2 ^ 16 := by
    rw [Int.natAbs_mul]
    calc x.natAbs * y.natAbs < 2 ^ 8 * 2 ^ 8 := Nat.mul_lt_mul'' (by omega) (by omega)
      _ = 2 ^ 16 := rfl
  omega
theorem vs_f {a b c d e f : Int} (h1 : I8 a) (h2 : I8 b) (h3 : I8 c) (h4 : I8 d) (h5 : I8 e) (h6 : I8 f) (A : Alg) (hA : A = stdA) (D : SD) (hD : D = stdD) : VsF A D a b c d e f (A.bin .sub .i64 (A.bin .mul .i64 (A.bin .sub .i64 (A.wrap .i64 c) (A.wrap .i64 a)) (A.bin .sub .i64 (A.wrap .i64 f) (A.wrap .i64 b))) (A.bin .mul .i64 (A.bin .sub .i64 (A.wrap .i64 d) (A.wrap .i64 b)) (A.bin .sub .i64 (A.wrap .i64 e) (A.wrap .i64 a)))) := by
  subst hA hD
  have w : ∀ x : Int, I8 x → stdA.wrap .i64 x = x := fun x h => by
    have := h.a
    have := h.b
    show IntKind.i64.wrap x = x
    rw [IntKind.wrap_i64]; omega
  have sb : ∀ x y : Int, I8 x → I8 y → stdA.bin .sub .i64 x y = x - y := fun x y h g => by
    have := h.a
    have := h.b
    have := g.a
    have := g.b
    show stdBin .sub .i64 x y = x - y
    simp only [stdBin, IntKind.wrap_i64]; omega
  have df : ∀ x y : Int, I8 x → I8 y → -256 < x - y ∧ x - y < 256 := fun x y h g => by
    have := h.a
    have := h.b
    have := g.a
    have := g.b
    omega
  have m1 := vs_mul (df c a h3 h1) (df f b h6 h2)
  have m2 := vs_mul (df d b h4 h2) (df e a h5 h1)
  have ml : ∀ x y : Int, -65536 < x * y ∧ x * y < 65536 → stdA.bin .mul .i64 x y = x * y := fun x y h => by
    show stdBin .mul .i64 x y = x * y
    simp only [stdBin, IntKind.wrap_i64]; omega
  have en : stdA.bin .sub .i64 (stdA.bin .mul .i64 (stdA.bin .sub .i64 (stdA.wrap .i64 c) (stdA.wrap .i64 a)) (stdA.bin .sub .i64 (stdA.wrap .i64 f) (stdA.wrap .i64 b))) (stdA.bin .mul .i64 (stdA.bin .sub .i64 (stdA.wrap .i64 d) (stdA.wrap .i64 b)) (stdA.bin .sub .i64 (stdA.wrap .i64 e) (stdA.wrap .i64 a))) = (c - a) * (f - b) - (d - b) * (e - a) := by
    rw [w _ h1, w _ h2, w _ h3, w _ h4, w _ h5, w _ h6, sb _ _ h3 h1, sb _ _ h6 h2, sb _ _ h4 h2, sb _ _ h5 h1, ml _ _ m1, ml _ _ m2]
    show stdBin .sub .i64 _ _ = _
    simp only [stdBin, IntKind.wrap_i64]
    generalize (c - a) * (f - b) = X at *
    generalize (d - b) * (e - a) = Y at *
    omega
  rw [en]
  have es : stdD.side a b c d e f = sgn ((c - a) * (f - b) - (d - b) * (e - a)) 0 := rfl
  generalize (c - a) * (f - b) - (d - b) * (e - a) = N at es
  unfold sgn at es
  refine ⟨fun h => ?_, fun h g => ?_, fun h g => ?_⟩ <;> rw [es]
  · have h : 0 < N := of_decide_eq_true h
    rw [if_neg (by omega), if_pos h]
  · have g : N < 0 := of_decide_eq_true g
    rw [if_pos g]
  · have h : ¬ 0 < N := of_decide_eq_false h
    have g : ¬ N < 0 := of_decide_eq_false g
    rw [if_neg g, if_neg h]
@[irreducible] def Held (p : Prop) : Prop := p
theorem held_of {p : Prop} (h : Held p) : p := by unfold Held at h; exact h
theorem held_mk {p : Prop} (h : p) : Held p := by unfold Held; exact h
theorem gVs_inv {A : Alg} {D : SD} {args : List CV} {bs : List Blk} {r : LR} (h : gVs A D args bs = some r) : ∃ a b c d e f : Int, args = [.s (.int .i8 a), .s (.int .i8 b), .s (.int .i8 c), .s (.int .i8 d), .s (.int .i8 e), .s (.int .i8 f)] ∧ bs = [] ∧ r = ⟨[A.cmp .leq (-128) a, A.cmp .lss a 128, A.cmp .leq (-128) b, A.cmp .lss b 128, A.cmp .leq (-128) c, A.cmp .lss c 128, A.cmp .leq (-128) d, A.cmp .lss d 128, A.cmp .leq (-128) e, A.cmp .lss e 128, A.cmp .leq (-128) f, A.cmp .lss f 128], .c (.s (.int .i64 (D.side a b c d e f))), []⟩ := by
  unfold gVs at h
  split at h
  · simp only [Option.some.injEq] at h
    exact ⟨_, _, _, _, _, _, rfl, rfl, h.symm⟩
  · cases h
theorem ok_vside : CallOK Try.prog 12 (heapSem [.v, .v, .v, .v, .v, .v] stdA (gVs stdA stdD)) := by
  refine callOK_heap (un := ⟨false, some [0,1,2,3,4,5,12,13,37,40]⟩) tok noCOK mixed (fn := Try.f12) (by kernel_rfl) (by kernel_rfl) (by kernel_rfl) (by decide +kernel) ?_
  intro w Wr args bs r hg ho hWr A L k hA hL hk
  obtain ⟨D, hD⟩ : ∃ D, D = stdD := ⟨_, rfl⟩
  (try rw [← hD])
  (try rw [← hA])
  refine held_of ?_
  obtain ⟨a, b, c, d, e, f, rfl, rfl, rfl⟩ := gVs_inv hg
  obtain ⟨h1, ho⟩ := i8_of ho
  obtain ⟨h2, ho⟩ := i8_of ho
  obtain ⟨h3, ho⟩ := i8_of ho
  obtain ⟨h4, ho⟩ := i8_of ho
  obtain ⟨h5, ho⟩ := i8_of ho
  obtain ⟨h6, ho⟩ := i8_of ho
  clear ho
  have vs := vs_f h1 h2 h3 h4 h5 h6 A hA D hD
  refine held_mk ?_
  cbv
  repeat' first | (with_reducible intro hb; cbv) | with_reducible refine And.intro ?_ ?_
  · have e := vs.g hb
    refine hk _ _ (Good.pure rfl fun ρ => ?_)
    subst hD
    exact retL e
  · rename_i h0
    have e := vs.l h0 hb
    refine hk _ _ (Good.pure rfl fun ρ => ?_)
    subst hD
    exact retL e
  · rename_i h0
    have e := vs.z h0 hb
    refine hk _ _ (Good.pure rfl fun ρ => ?_)
    subst hD
    exact retL e
def tPd (A : Alg) (D : SD) (H : SH) (J : SJ) : List (Nat × Sem') := (7, heapSem [] A (gKnown)) :: (11, heapSem [.v, .v] A (gAtP A H)) :: (9, heapSem [.v, .v, .v, .v] A (gMeet H J)) :: (12, heapSem [.v, .v, .v, .v, .v, .v] A (gVs A D)) :: ([])
theorem tPdOK : COK Try.prog (look (tPd stdA stdD stdH stdJ)) := COK_cons ok_known4 (COK_cons ok_qat (COK_cons ok_lmeet (COK_cons ok_vside (COK_nil))))
theorem ok_lineGrid : CallOK Try.prog 4 (heapSem [.v, .v, .v, .v, .v, .v, .v, .v] stdA (gLG stdA)) := by
  refine callOK_heap (un := ⟨false, some [0,1,2,3,4,5,6,7,16,17,18,19,20,21,22,23,24,25,26,28,94,109]⟩) tok tPdOK mixed (fn := Try.f4) (by kernel_rfl) (by kernel_rfl) (by kernel_rfl) (by decide +kernel) ?_
  intro w Wr args bs r hg ho hWr A L k hA hL hk
  obtain ⟨D, hD⟩ : ∃ D, D = stdD := ⟨_, rfl⟩
  obtain ⟨H, hH⟩ : ∃ H, H = stdH := ⟨_, rfl⟩
  obtain ⟨J, hJ⟩ : ∃ J, J = stdJ := ⟨_, rfl⟩
  (try rw [← hD])
  (try rw [← hH])
  (try rw [← hJ])
  (try rw [← hA])
  unfold gLG at hg
  split at hg
  rotate_left
  · cases hg
  simp only [Option.some.injEq] at hg
  subst hg
  rename_i ax ay bx by_ cx cy dx dy
  obtain ⟨h1, ho⟩ := i8_of ho
  obtain ⟨h2, ho⟩ := i8_of ho
  obtain ⟨h3, ho⟩ := i8_of ho
  obtain ⟨h4, ho⟩ := i8_of ho
  obtain ⟨h5, ho⟩ := i8_of ho
  obtain ⟨h6, ho⟩ := i8_of ho
  obtain ⟨h7, ho⟩ := i8_of ho
  obtain ⟨h8, ho⟩ := i8_of ho
  clear ho
  have lg := lg_f h1 h2 h3 h4 h5 h6 h7 h8 A hA D hD H hH J hJ
  have w1 := i8w h1 A hA
  have w2 := i8w h2 A hA
  have w3 := i8w h3 A hA
  have w4 := i8w h4 A hA
  have w5 := i8w h5 A hA
  have w6 := i8w h6 A hA
  have w7 := i8w h7 A hA
  have w8 := i8w h8 A hA
  cbv
  repeat' first | (with_reducible intro hb; cbv) | with_reducible refine And.intro ?_ ?_
  all_goals (try simp only [w1.w, w2.w, w3.w, w4.w, w5.w, w6.w, w7.w, w8.w])
  · exfalso; subst hA; cases hb
  all_goals first | exact w1.a | exact w1.b | exact w2.a | exact w2.b | exact w3.a | exact w3.b | exact w4.a | exact w4.b | exact w5.a | exact w5.b | exact w6.a | exact w6.b | exact w7.a | exact w7.b | exact w8.a | exact w8.b | exact w1.c | exact w1.d | exact w2.c | exact w2.d | exact w3.c | exact w3.d | exact w4.c | exact w4.d | exact w5.c | exact w5.d | exact w6.c | exact w6.d | exact w7.c | exact w7.d | exact w8.c | exact w8.d | skip
  · have e := lg.c2 hb
    refine hk _ _ (Good.pure rfl fun ρ => ?_)
    refine retB ?_
    simp only [lg.p, e, lg.t]
  · have e := lg.c0 hb
    refine hk _ _ (Good.pure rfl fun ρ => ?_)
    refine retB ?_
    simp only [lg.p, e, lg.t]
  · refine hk _ _ (Good.pure rfl fun ρ => ?_)
    exact retB lg.p
end Go.Eng

