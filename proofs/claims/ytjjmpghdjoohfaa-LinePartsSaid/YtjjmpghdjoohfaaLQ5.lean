
import Derived.Test.YtjjmpghdjoohfaaLQ0
import Derived.Test.YtjjmpghdjoohfaaSpecFA
import Derived.Test.YtjjmpghdjoohfaaSpecLp
set_option linter.all false
set_option exponentiation.threshold 3000
namespace Go.Eng
open Go.Proofs
set_option maxRecDepth 100000
set_option linter.all false
set_option exponentiation.threshold 3000
set_option maxHeartbeats 2000000
def gLP (A : Alg) : List CV → List Blk → Option LR
  | [.s (.int .i8 a), .s (.int .i8 b), .s (.int .i8 c), .s (.int .i8 d), .s (.int .u8 n), .s (.int .u8 m), .s (.int .u8 k)], [] => some ⟨[A.cmp .leq (-128) a, A.cmp .lss a 128, A.cmp .leq (-128) b, A.cmp .lss b 128, A.cmp .leq (-128) c, A.cmp .lss c 128, A.cmp .leq (-128) d, A.cmp .lss d 128, A.cmp .leq 0 n, A.cmp .lss n 256, A.cmp .leq 0 m, A.cmp .lss m 256, A.cmp .leq 0 k, A.cmp .lss k 256], .c (.s (.bool true)), []⟩
  | _, _ => none
theorem b8p {x lo hi : Int} {l : List Bool} (h : ∀ b, b ∈ stdA.cmp .leq lo x :: stdA.cmp .lss x hi :: l → b = true) : (lo ≤ x ∧ x < hi) ∧ ∀ b, b ∈ l → b = true :=
  ⟨⟨of_decide_eq_true (ho_cons h).1, of_decide_eq_true (ho_cons (ho_cons h).2).1⟩, (ho_cons (ho_cons h).2).2⟩
structure W8p (A : Alg) (x : Int) : Prop where
  w : A.wrap .i64 x = x
  a : A.cmp .leq (-9223372036854775808) x = true
  b : A.cmp .lss x 9223372036854775808 = true
theorem w8p {x : Int} (h1 : -9223372036854775808 ≤ x) (h2 : x < 9223372036854775808) (A : Alg) (hA : A = stdA) : W8p A x := by
  subst hA
  refine ⟨?_, leq_of _ rfl _ _ h1, lss_of _ rfl _ _ h2⟩
  show IntKind.i64.wrap x = x
  rw [IntKind.wrap_i64]; omega
theorem rem_u8p {k c : Int} (k0 : 0 ≤ k) (k1 : k < 256) (c0 : 0 < c) (c1 : c < 256) : stdBin .rem .u8 k c = k % c := by
  have h0 := Int.emod_nonneg k (show c ≠ 0 by omega)
  have h1 := Int.emod_lt_of_pos k c0
  simp only [stdBin, IntKind.wrap_u8]
  rw [Int.tmod_eq_emod_of_nonneg k0]
  (try omega)
structure LpN (A : Alg) (ax ay dx dy n m k P Q pdx cX pdy cY S sdx bX sdy bY T j jdx xX jdy xY : Int) : Prop where
  wax : W8p A ax
  way : W8p A ay
  wdx : W8p A dx
  wdy : W8p A dy
  wk : W8p A k
  eP : A.bin .add .i64 (A.wrap .i64 (A.bin .rem .u8 n 20)) 1 = P
  eQ : A.bin .add .i64 (A.wrap .i64 (A.bin .rem .u8 m 20)) 1 = Q
  c1 : A.bin .mul .i64 P dx = pdx
  c2 : A.bin .add .i64 ax pdx = cX
  c3 : A.bin .mul .i64 P dy = pdy
  c4 : A.bin .add .i64 ay pdy = cY
  eS : A.bin .add .i64 P Q = S
  b1 : A.bin .mul .i64 S dx = sdx
  b2 : A.bin .add .i64 ax sdx = bX
  b3 : A.bin .mul .i64 S dy = sdy
  b4 : A.bin .add .i64 ay sdy = bY
  eT : A.bin .add .i64 S 1 = T
  t0 : A.cmp .neq T 0 = true
  ej : A.bin .rem .i64 k T = j
  x1 : A.bin .mul .i64 j dx = jdx
  x2 : A.bin .add .i64 ax jdx = xX
  x3 : A.bin .mul .i64 j dy = jdy
  x4 : A.bin .add .i64 ay jdy = xY
  wcX : W8p A cX
  wcY : W8p A cY
  wbX : W8p A bX
  wbY : W8p A bY
  wxX : W8p A xX
  wxY : W8p A xY
structure LpF (A : Alg) (H : SH) (J : SJ) (a c b x : Pt) (P j : Int) : Prop where
  q1 : H.all [a, b, c] = true
  q2 : H.all [a, b, x] = true
  q3 : H.all [a, c, x] = true
  q4 : H.all [c, b, x] = true
  q5 : H.all [a, c, c, b] = true
  q6 : H.all [a, b, c, b] = true
  o : J.on a b c = true
  e : J.on a b x = true
  f : A.beq (J.on a c x) (A.cmp .leq j P) = true
  g : A.beq (J.on c b x) (A.cmp .geq j P) = true
  h : A.cmp .eql (J.meet a c c b) 1 = true
  i : A.cmp .eql (J.meet a b c b) 2 = true
theorem lp_g {ax ay dx dy n m k : Int} (h1 : -128 ≤ ax ∧ ax < 128) (h2 : -128 ≤ ay ∧ ay < 128) (h3 : -128 ≤ dx ∧ dx < 128) (h4 : -128 ≤ dy ∧ dy < 128) (h5 : 0 ≤ n ∧ n < 256) (h6 : 0 ≤ m ∧ m < 256) (h7 : 0 ≤ k ∧ k < 256) (A : Alg) (hA : A = stdA) (H : SH) (hH : H = stdH) (J : SJ) (hJ : J = stdJ) : ∃ P Q pdx cX pdy cY S sdx bX sdy bY T j jdx xX jdy xY,
    LpN A ax ay dx dy n m k P Q pdx cX pdy cY S sdx bX sdy bY T j jdx xX jdy xY ∧ (A.ite (A.cmp .eql dx 0) (A.cmp .eql dy 0) false = false → LpF A H J (H.at_ ax ay) (H.at_ cX cY) (H.at_ bX bY) (H.at_ xX xY) P j) := by
  have e1 : stdBin .rem .u8 n 20 = n % 20 := rem_u8p h5.1 h5.2 (by decide) (by decide)
  have e2 : stdBin .rem .u8 m 20 = m % 20 := rem_u8p h6.1 h6.2 (by decide) (by decide)
  have a1 : stdBin .add .i64 (IntKind.i64.wrap (n % 20)) 1 = n % 20 + 1 := by simp only [stdBin, IntKind.wrap_i64]; omega
  have a2 : stdBin .add .i64 (IntKind.i64.wrap (m % 20)) 1 = m % 20 + 1 := by simp only [stdBin, IntKind.wrap_i64]; omega
  have hP : 1 ≤ n % 20 + 1 ∧ n % 20 + 1 ≤ 20 := by omega
  have hQ : 1 ≤ m % 20 + 1 ∧ m % 20 + 1 ≤ 20 := by omega
  generalize n % 20 + 1 = P at *
  generalize m % 20 + 1 = Q at *
  have j0 := Int.emod_nonneg k (show P + Q + 1 ≠ 0 by omega)
  have j1 := Int.emod_lt_of_pos k (show 0 < P + Q + 1 by omega)
  have ej : stdBin .rem .i64 k (P + Q + 1) = k % (P + Q + 1) := by
    simp only [stdBin, IntKind.wrap_i64]
    rw [Int.tmod_eq_emod_of_nonneg h7.1]
    (try omega)
  generalize k % (P + Q + 1) = j at *
  have pr : ∀ t x : Int, 0 ≤ t ∧ t < 64 → -128 ≤ x ∧ x < 128 → -16384 < t * x ∧ t * x < 16384 := fun t x g h => by
    have g : (t * x).natAbs < 2 ^ 6 * 2 ^ 8 := by
      rw [Int.natAbs_mul]; exact Nat.mul_lt_mul'' (by omega) (by omega)
    omega
  have ml : ∀ x y : Int, -16384 < x * y ∧ x * y < 16384 → A.bin .mul .i64 x y = x * y := fun x y h => by
    subst hA
    show stdBin .mul .i64 x y = x * y
    simp only [stdBin, IntKind.wrap_i64]; omega
  have ad : ∀ x y : Int, -20000 < x ∧ x < 20000 → -20000 < y ∧ y < 20000 → A.bin .add .i64 x y = x + y := fun x y h g => by
    subst hA
    show stdBin .add .i64 x y = x + y
    simp only [stdBin, IntKind.wrap_i64]; omega
  have bd : ∀ x : Int, -40000 < x ∧ x < 40000 → W8p A x := fun x h => w8p (by omega) (by omega) A hA
  have p1 := pr P dx (by omega) h3
  have p2 := pr P dy (by omega) h4
  have s1 := pr (P + Q) dx (by omega) h3
  have s2 := pr (P + Q) dy (by omega) h4
  have x1 := pr j dx (by omega) h3
  have x2 := pr j dy (by omega) h4
  refine ⟨P, Q, P * dx, ax + P * dx, P * dy, ay + P * dy, P + Q, (P + Q) * dx, ax + (P + Q) * dx, (P + Q) * dy, ay + (P + Q) * dy, P + Q + 1, j, j * dx, ax + j * dx, j * dy, ay + j * dy, ?_, fun hd => ?_⟩
  · exact {
      wax := bd _ (by omega), way := bd _ (by omega), wdx := bd _ (by omega), wdy := bd _ (by omega), wk := bd _ (by omega)
      eP := by subst hA; show stdBin .add .i64 (IntKind.i64.wrap (stdBin .rem .u8 n 20)) 1 = P; rw [e1]; exact a1
      eQ := by subst hA; show stdBin .add .i64 (IntKind.i64.wrap (stdBin .rem .u8 m 20)) 1 = Q; rw [e2]; exact a2
      c1 := ml _ _ p1, c2 := ad _ _ (by omega) (by omega), c3 := ml _ _ p2, c4 := ad _ _ (by omega) (by omega)
      eS := ad _ _ (by omega) (by omega)
      b1 := ml _ _ s1, b2 := ad _ _ (by omega) (by omega), b3 := ml _ _ s2, b4 := ad _ _ (by omega) (by omega)
      eT := ad _ _ (by omega) (by omega)
      t0 := by
        subst hA
        show (P + Q + 1 != 0) = true
        rw [bne_iff_ne]; omega
      ej := by subst hA; exact ej
      x1 := ml _ _ x1, x2 := ad _ _ (by omega) (by omega), x3 := ml _ _ x2, x4 := ad _ _ (by omega) (by omega)
      wcX := bd _ (by omega), wcY := bd _ (by omega), wbX := bd _ (by omega), wbY := bd _ (by omega), wxX := bd _ (by omega), wxY := bd _ (by omega) }
  · clear pr ml ad bd a1 a2 e1 e2
    have hd2 : dx ≠ 0 ∨ dy ≠ 0 := by
      subst hA
      have hd : (if (dx == 0) = true then (dy == 0) else false) = false := hd
      by_cases g : dx = 0
      · right
        intro g'
        rw [g, g'] at hd; simp at hd
      · exact .inl g
    subst hA hH hJ
    have sm : ∀ x : Int, -40000 < x ∧ x < 40000 → Sm 60 x := fun x h => by show x.natAbs < 2 ^ 60; omega
    have pa : AtP (stdH.at_ ax ay) ax ay := atP (sm _ (by omega)) (sm _ (by omega))
    have pc : AtP (stdH.at_ (ax + P * dx) (ay + P * dy)) (ax + P * dx) (ay + P * dy) := atP (sm _ (by omega)) (sm _ (by omega))
    have pb : AtP (stdH.at_ (ax + (P + Q) * dx) (ay + (P + Q) * dy)) (ax + (P + Q) * dx) (ay + (P + Q) * dy) := atP (sm _ (by omega)) (sm _ (by omega))
    have px : AtP (stdH.at_ (ax + j * dx) (ay + j * dy)) (ax + j * dx) (ay + j * dy) := atP (sm _ (by omega)) (sm _ (by omega))
    have la : Lin ax ay dx dy (stdH.at_ ax ay) 0 := by
      unfold Lin
      rw [Int.zero_mul, Int.zero_mul, Int.add_zero, Int.add_zero]; exact pa
    have lf := lin_f hd2 (by omega) (by omega) j0 (by omega) la pc pb px
    generalize stdH.at_ ax ay = a at *
    generalize stdH.at_ (ax + P * dx) (ay + P * dy) = c at *
    generalize stdH.at_ (ax + (P + Q) * dx) (ay + (P + Q) * dy) = b at *
    generalize stdH.at_ (ax + j * dx) (ay + j * dy) = x at *
    have al : ∀ l : List Pt, (∀ x, x ∈ l → ptOK x = true) → allP l = true := fun l => by
      induction l with
      | nil => intro _; rfl
      | cons x r ih => intro h; show (ptOK x && allP r) = true; rw [h x (by simp), ih fun y hy => h y (by simp [hy])]; rfl
    have q5 : allP [a, c, c, b] = true := al _ (by simp [pa.is, pb.is, pc.is])
    have q6 : allP [a, b, c, b] = true := al _ (by simp [pa.is, pb.is, pc.is])
    have me : ∀ x y z w : Pt, allP [x, y, z, w] = true → stdJ.meet x y z w = meetP x y z w := fun x y z w h => if_pos h
    have eb : ∀ b : Bool, stdA.beq b b = true := fun b => by cases b <;> rfl
    refine ⟨al _ (by simp [pa.is, pb.is, pc.is]), al _ (by simp [pa.is, pb.is, px.is]), al _ (by simp [pa.is, pc.is, px.is]), al _ (by simp [pc.is, pb.is, px.is]), q5, q6, lf.o, lf.e, ?_, ?_, ?_, ?_⟩
    · show stdA.beq (onP a c x) (decide (j ≤ P)) = true
      rw [lf.f]; exact eb _
    · show stdA.beq (onP c b x) (decide (j ≥ P)) = true
      rw [lf.g]; exact eb _
    · rw [me _ _ _ _ q5, lf.h]; rfl
    · rw [me _ _ _ _ q6, lf.i]; rfl
def tPf (A : Alg) (H : SH) (J : SJ) : List (Nat × Sem') := (7, heapSem [] A (gKnown)) :: (11, heapSem [.v, .v] A (gAtP A H)) :: (10, heapSem [.v, .v, .v] A (gOnP A H J)) :: (9, heapSem [.v, .v, .v, .v] A (gMeet H J)) :: ([])
theorem tPfOK : COK Try.prog (look (tPf stdA stdH stdJ)) := COK_cons ok_known4 (COK_cons ok_qat (COK_cons ok_lon (COK_cons ok_lmeet (COK_nil))))
theorem ok_lineParts : CallOK Try.prog 5 (heapSem [.v, .v, .v, .v, .v, .v, .v] stdA (gLP stdA)) := by
  refine callOK_heap (un := ⟨false, some [0,1,2,3,4,5,6,14,15,16,17,18,19,20,21,22,23,24,25,26,28,30,31,32,33,35,41]⟩) tok tPfOK mixed (fn := Try.f5) (by kernel_rfl) (by kernel_rfl) (by kernel_rfl) (by decide +kernel) ?_
  intro w Wr args bs r hg ho hWr A L k hA hL hk
  obtain ⟨H, hH⟩ : ∃ H, H = stdH := ⟨_, rfl⟩
  obtain ⟨J, hJ⟩ : ∃ J, J = stdJ := ⟨_, rfl⟩
  (try rw [← hH])
  (try rw [← hJ])
  (try rw [← hA])
  unfold gLP at hg
  split at hg
  rotate_left
  · cases hg
  simp only [Option.some.injEq] at hg
  subst hg
  rename_i ax ay dx dy n m k
  obtain ⟨h1, ho⟩ := b8p ho
  obtain ⟨h2, ho⟩ := b8p ho
  obtain ⟨h3, ho⟩ := b8p ho
  obtain ⟨h4, ho⟩ := b8p ho
  obtain ⟨h5, ho⟩ := b8p ho
  obtain ⟨h6, ho⟩ := b8p ho
  obtain ⟨h7, ho⟩ := b8p ho
  clear ho
  obtain ⟨P, Q, pdx, cX, pdy, cY, S, sdx, bX, sdy, bY, T, j, jdx, xX, jdy, xY, lp, lf⟩ := lp_g h1 h2 h3 h4 h5 h6 h7 A hA H hH J hJ
  have eq := eq_a A hA
  refine runF_body rfl ?_
  with_reducible refine run_seq_cut fun kk hn hx => ?_
  cbv
  repeat' first | (with_reducible intro hb; cbv) | with_reducible refine And.intro ?_ ?_
  all_goals first | (with_reducible refine hn _ ?_; clear hn hx kk) | ((try subst hA); (try subst hS); (try subst hR); (try subst hX); (try subst hC); (try subst hV); (try subst hT); (try subst hM); (try subst hF); (try subst hH); (try subst hK); (try subst hJ); (try subst hE); (try subst hD); decide +kernel)
  with_reducible refine run_seq_cut fun kk hn hx => ?_
  cbv
  repeat' first | (with_reducible intro hb; cbv) | with_reducible refine And.intro ?_ ?_
  · exfalso; subst hA; cases hb
  with_reducible refine hn _ ?_; clear hn hx kk
  with_reducible refine run_seq_cut fun kk hn hx => ?_
  cbv
  repeat' first | (with_reducible intro hb; cbv) | with_reducible refine And.intro ?_ ?_
  · with_reducible refine hx _ _ (fun h => nomatch h) ?_
    clear hn hx kk
    cbv
    exact hk _ _ (Good.pure rfl fun ρ => retT rfl)
  have lf := lf hb
  with_reducible refine hn _ ?_; clear hn hx kk
  with_reducible refine run_seq_cut fun kk hn hx => ?_
  cbv
  repeat' first | (with_reducible intro hb; cbv) | with_reducible refine And.intro ?_ ?_
  all_goals (try simp only [lp.eP, lp.eQ])
  all_goals first | (with_reducible refine hn _ ?_; clear hn hx kk) | skip
  with_reducible refine run_seq_cut fun kk hn hx => ?_
  cbv
  repeat' first | (with_reducible intro hb; cbv) | with_reducible refine And.intro ?_ ?_
  all_goals (try simp only [lp.wax.w, lp.way.w])
  all_goals first | (with_reducible refine hn _ ?_; clear hn hx kk) | exact lp.wax.a | exact lp.wax.b | exact lp.way.a | exact lp.way.b
  with_reducible refine run_seq_cut fun kk hn hx => ?_
  cbv
  repeat' first | (with_reducible intro hb; cbv) | with_reducible refine And.intro ?_ ?_
  all_goals (try simp only [lp.wax.w, lp.way.w, lp.wdx.w, lp.wdy.w, lp.c1, lp.c2, lp.c3, lp.c4])
  all_goals first | (with_reducible refine hn _ ?_; clear hn hx kk) | exact lp.wcX.a | exact lp.wcX.b | exact lp.wcY.a | exact lp.wcY.b
  with_reducible refine run_seq_cut fun kk hn hx => ?_
  cbv
  repeat' first | (with_reducible intro hb; cbv) | with_reducible refine And.intro ?_ ?_
  all_goals (try simp only [lp.wax.w, lp.way.w, lp.wdx.w, lp.wdy.w, lp.eS, lp.b1, lp.b2, lp.b3, lp.b4])
  all_goals first | (with_reducible refine hn _ ?_; clear hn hx kk) | exact lp.wbX.a | exact lp.wbX.b | exact lp.wbY.a | exact lp.wbY.b
  with_reducible refine run_seq_cut fun kk hn hx => ?_
  cbv
  repeat' first | (with_reducible intro hb; cbv) | with_reducible refine And.intro ?_ ?_
  all_goals (try simp only [lp.wk.w, lp.eS, lp.eT, lp.ej])
  all_goals first | (with_reducible refine hn _ ?_; clear hn hx kk) | exact lp.t0
  with_reducible refine run_seq_cut fun kk hn hx => ?_
  cbv
  repeat' first | (with_reducible intro hb; cbv) | with_reducible refine And.intro ?_ ?_
  all_goals (try simp only [lp.wax.w, lp.way.w, lp.wdx.w, lp.wdy.w, lp.x1, lp.x2, lp.x3, lp.x4])
  all_goals first | (with_reducible refine hn _ ?_; clear hn hx kk) | exact lp.wxX.a | exact lp.wxX.b | exact lp.wxY.a | exact lp.wxY.b
  with_reducible refine run_seq_cut fun kk hn hx => ?_
  cbv
  repeat' first | (with_reducible intro hb; cbv) | with_reducible refine And.intro ?_ ?_
  all_goals first | (with_reducible refine hn _ ?_; clear hn hx kk) | ((try subst hA); (try subst hS); (try subst hR); (try subst hX); (try subst hC); (try subst hV); (try subst hT); (try subst hM); (try subst hF); (try subst hH); (try subst hK); (try subst hJ); (try subst hE); (try subst hD); decide +kernel)
  with_reducible refine run_seq_cut fun kk hn hx => ?_
  cbv
  repeat' first | (with_reducible intro hb; cbv) | with_reducible refine And.intro ?_ ?_
  all_goals first | (with_reducible refine hn _ ?_; clear hn hx kk) | ((try subst hA); (try subst hS); (try subst hR); (try subst hX); (try subst hC); (try subst hV); (try subst hT); (try subst hM); (try subst hF); (try subst hH); (try subst hK); (try subst hJ); (try subst hE); (try subst hD); decide +kernel)
  with_reducible refine run_seq_cut fun kk hn hx => ?_
  cbv
  repeat' first | (with_reducible intro hb; cbv) | with_reducible refine And.intro ?_ ?_
  all_goals first | (with_reducible refine hn _ ?_; clear hn hx kk) | ((try subst hA); (try subst hS); (try subst hR); (try subst hX); (try subst hC); (try subst hV); (try subst hT); (try subst hM); (try subst hF); (try subst hH); (try subst hK); (try subst hJ); (try subst hE); (try subst hD); decide +kernel)
  with_reducible refine run_seq_cut fun kk hn hx => ?_
  cbv
  repeat' first | (with_reducible intro hb; cbv) | with_reducible refine And.intro ?_ ?_
  all_goals first | (with_reducible refine hn _ ?_; clear hn hx kk) | ((try subst hA); (try subst hS); (try subst hR); (try subst hX); (try subst hC); (try subst hV); (try subst hT); (try subst hM); (try subst hF); (try subst hH); (try subst hK); (try subst hJ); (try subst hE); (try subst hD); decide +kernel)
  with_reducible refine run_seq_cut fun kk hn hx => ?_
  cbv
  repeat' first | (with_reducible intro hb; cbv) | with_reducible refine And.intro ?_ ?_
  all_goals first | (with_reducible refine hn _ ?_; clear hn hx kk) | ((try subst hA); (try subst hS); (try subst hR); (try subst hX); (try subst hC); (try subst hV); (try subst hT); (try subst hM); (try subst hF); (try subst hH); (try subst hK); (try subst hJ); (try subst hE); (try subst hD); decide +kernel)
  with_reducible refine run_seq_cut fun kk hn hx => ?_
  cbv
  repeat' first | (with_reducible intro hb; cbv) | with_reducible refine And.intro ?_ ?_
  all_goals first | (with_reducible refine hn _ ?_; clear hn hx kk) | ((try subst hA); (try subst hS); (try subst hR); (try subst hX); (try subst hC); (try subst hV); (try subst hT); (try subst hM); (try subst hF); (try subst hH); (try subst hK); (try subst hJ); (try subst hE); (try subst hD); decide +kernel)
  cbv
  repeat' first | (with_reducible intro hb; cbv) | with_reducible refine And.intro ?_ ?_
  refine hk _ _ (Good.pure rfl fun ρ => ?_)
  refine retB ?_
  simp only [lf.q1, lf.q2, lf.q3, lf.q4, lf.q5, lf.q6, lf.o, lf.e, lf.f, lf.g, lf.h, lf.i, eq.t]
end Go.Eng

