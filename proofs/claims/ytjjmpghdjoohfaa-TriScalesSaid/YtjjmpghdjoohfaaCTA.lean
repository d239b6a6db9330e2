
import Derived.Test.YtjjmpghdjoohfaaCRB
import Derived.Test.YtjjmpghdjoohfaaCMB
import Derived.Test.YtjjmpghdjoohfaaSpecFA
import Derived.Test.YtjjmpghdjoohfaaEngZA
set_option linter.all false
set_option exponentiation.threshold 3000
namespace Go.Eng
open Go.Proofs
set_option maxRecDepth 100000
set_option linter.all false
set_option exponentiation.threshold 3000
set_option maxHeartbeats 2000000
def gRat (A : Alg) (X : SX) (M : SM) : List CV → List Blk → Option LR
  | [.s (.bool b), .s (.hs 0), .s (.hs 1)], [.vec false (.int .u32) l, .vec false (.int .u32) m] => some ⟨[M.ok l, M.ok m, M.nz m], .t [.g [.R ⟨X.wV b (M.dq l (M.gcd l m)), X.wV false (M.dq m (M.gcd l m))⟩], .s (.bool (A.ite (X.wOK (M.dq l (M.gcd l m))) (X.wOK (M.dq m (M.gcd l m))) false))], []⟩
  | _, _ => none
structure RaF (A : Alg) (X : SX) (M : SM) (l m : List Int) : Prop where
  hl : M.ok l = true
  hm : M.ok m = true
  g : M.ok (M.gcd l m) = true
  z : M.nz (M.gcd l m) = true
  p1 : A.cmp .lss (A.len (M.dq l (M.gcd l m))) 1000000 = true
  p2 : X.rng (M.dq l (M.gcd l m)) = true
  q1 : A.cmp .lss (A.len (M.dq m (M.gcd l m))) 1000000 = true
  q2 : X.rng (M.dq m (M.gcd l m)) = true
theorem Mag.sub {l : List Int} {n : Nat} (h : Mag l) (hn : n ≤ valL l) : Mag (magL n) := Mag.lt (Nat.lt_of_le_of_lt hn h.small) (Nat.le_refl _)
theorem ra_f {l m : List Int} (A : Alg) (hA : A = stdA) (X : SX) (hX : X = stdX) (M : SM) (hM : M = stdM) (hl : M.ok l = true) (hm : M.ok m = true) (hz : M.nz m = true) : RaF A X M l m := by
  have mf := mfs A hA X hX M hM
  subst hA hX hM
  have hl' : Mag l := isMag_iff.1 hl
  have hm' : Mag m := isMag_iff.1 hm
  have hz' : valL m ≠ 0 := of_decide_eq_true hz
  have hg0 : Nat.gcd (valL l) (valL m) ≠ 0 := fun h => hz' (Nat.eq_zero_of_gcd_eq_zero_right h)
  have g : stdM.ok (stdM.gcd l m) = true := isMag_iff.2 (hm'.sub (Nat.gcd_le_right _ (by omega)))
  have d1 : stdM.ok (stdM.dq l (stdM.gcd l m)) = true := isMag_iff.2 (hl'.sub (Nat.div_le_self _ _))
  have d2 : stdM.ok (stdM.dq m (stdM.gcd l m)) = true := isMag_iff.2 (hm'.sub (Nat.div_le_self _ _))
  exact ⟨hl, hm, g, decide_eq_true (by show valL (magL _) ≠ 0; rw [magL_val]; exact hg0), mf.ok1 _ d1, mf.ok2 _ d1, mf.ok1 _ d2, mf.ok2 _ d2⟩
def tG8 (A : Alg) (S : SW) (V : SV) (X : SX) (M : SM) (F : SF) (H : SH) : List (Nat × Sem') := ((tG7 A S V X M F H) ++ (tM16 A S V X M))
theorem tG8OK : COK Try.prog (look (tG8 stdA stdW stdV stdX stdM stdF stdH)) := COK_app tG7OK tM16OK
theorem ok_rrat : CallOK Try.prog 67 (heapSem [.v, .s (.int .u32), .s (.int .u32)] stdA (gRat stdA stdX stdM)) := by
  refine callOK_heap (un := ⟨false, some [0,1,2,6,7,8,9,10,11,12,13,14,15,16]⟩) tok tG8OK mixed (fn := Try.f67) (by kernel_rfl) (by kernel_rfl) (by kernel_rfl) (by decide +kernel) ?_
  intro w Wr args bs r hg ho hWr A L k hA hL hk
  obtain ⟨F, hF⟩ : ∃ F, F = stdF := ⟨_, rfl⟩
  obtain ⟨H, hH⟩ : ∃ H, H = stdH := ⟨_, rfl⟩
  obtain ⟨M, hM⟩ : ∃ M, M = stdM := ⟨_, rfl⟩
  obtain ⟨S, hS⟩ : ∃ S, S = stdW := ⟨_, rfl⟩
  obtain ⟨V, hV⟩ : ∃ V, V = stdV := ⟨_, rfl⟩
  obtain ⟨X, hX⟩ : ∃ X, X = stdX := ⟨_, rfl⟩
  (try rw [← hF])
  (try rw [← hH])
  (try rw [← hM])
  (try rw [← hS])
  (try rw [← hV])
  (try rw [← hX])
  (try rw [← hA])
  unfold gRat at hg
  split at hg
  rotate_left
  · cases hg
  simp only [Option.some.injEq] at hg
  subst hg
  rename_i b l m
  have h1 := (ho_cons ho).1
  have h2 := (ho_cons (ho_cons ho).2).1
  have h3 := (ho_cons (ho_cons (ho_cons ho).2).2).1
  clear ho
  rw [← hM] at h1 h2 h3
  have ra := ra_f A hA X hX M hM h1 h2 h3
  cbv
  repeat' first | (with_reducible intro hb; cbv) | with_reducible refine And.intro ?_ ?_
  all_goals first | exact ra.hl | exact ra.hm | exact ra.g | exact ra.z | exact ra.p1 | exact ra.p2 | exact ra.q1 | exact ra.q2 | skip
  refine hk _ _ (Good.pure rfl fun ρ => ?_)
  subst hA hX hM
  exact tupR rfl rfl
def tT1 (A : Alg) (S : SW) (V : SV) (X : SX) (M : SM) (F : SF) (H : SH) : List (Nat × Sem') := (67, heapSem [.v, .s (.int .u32), .s (.int .u32)] A (gRat A X M)) :: ((tG8 A S V X M F H))
theorem tT1OK : COK Try.prog (look (tT1 stdA stdW stdV stdX stdM stdF stdH)) := COK_cons ok_rrat (tG8OK)
def refC (A : Alg) (S : SW) (n d : Wd) : Bool := A.ite (A.ite (A.ite (A.ite (A.not (S.isW n)) true (A.not (S.isW d))) true (A.cmp .gtr (S.bits n) 1023)) true (A.cmp .gtr (S.bits d) 1023)) true (A.cmp .eql (S.bits d) 0)
theorem ref_c (n d : Wd) : refC stdA stdW n d = newC stdA stdW n d := by
  unfold refC newC
  show (if (if (if (if (!isWd n) = true then true else !isWd d) = true then true else decide (bitsW n > 1023)) = true then true else decide (bitsW d > 1023)) = true then true else (bitsW d == 0)) = (if (if (if (if (bitsW d == 0) = true then true else decide (bitsW n > 1023)) = true then true else decide (bitsW d > 1023)) = true then true else !isWd n) = true then true else !isWd d)
  cases isWd n <;> cases isWd d <;> cases decide (bitsW n > 1023) <;> cases decide (bitsW d > 1023) <;> cases (bitsW d == 0) <;> rfl
structure RnF (A : Alg) (S : SW) (X : SX) (M : SM) (F : SF) (n d : Wd) : Prop where
  no : refC A S n d = true → zeroR = F.new n d ∧ false = F.newOK n d
  o1 : M.ok (M.of n) = true
  o2 : M.ok (M.of d) = true
  o3 : refC A S n d = false → M.nz (M.of d) = true
  e : refC A S n d = false → (⟨X.wV (A.not (A.beq (S.below n) (S.below d))) (M.dq (M.of n) (M.gcd (M.of n) (M.of d))), X.wV false (M.dq (M.of d) (M.gcd (M.of n) (M.of d)))⟩ : Rt) = F.new n d
  k : refC A S n d = false → A.ite (X.wOK (M.dq (M.of n) (M.gcd (M.of n) (M.of d)))) (X.wOK (M.dq (M.of d) (M.gcd (M.of n) (M.of d)))) false = F.newOK n d
theorem sgd_div (s : Bool) {g n : Nat} (h : g ∣ n) (hg : g ≠ 0) : sgd s n / (g : Int) = sgd s (n / g) := by
  obtain ⟨c, rfl⟩ := h
  rw [Nat.mul_div_cancel_left _ (by omega)]
  cases s
  · show ((g * c : Nat) : Int) / (g : Int) = (c : Int)
    rw [Int.natCast_mul, Int.mul_ediv_cancel_left _ (by omega)]
  · show -((g * c : Nat) : Int) / (g : Int) = -(c : Int)
    rw [Int.natCast_mul, ← Int.mul_neg, Int.mul_ediv_cancel_left _ (by omega)]
theorem rn_f (n d : Wd) (A : Alg) (hA : A = stdA) (S : SW) (hS : S = stdW) (X : SX) (hX : X = stdX) (M : SM) (hM : M = stdM) (F : SF) (hF : F = stdF) : RnF A S X M F n d := by
  have mf := mfs A hA X hX M hM
  subst hA hS hX hM hF
  have hb : refC stdA stdW n d = false → newB n d = true := fun h => by rw [ref_c, new_c, Bool.not_eq_false'] at h; exact h
  have hd0 : refC stdA stdW n d = false → d.d.n ≠ 0 := fun h => by
    have h := hb h
    unfold newB at h
    simp only [Bool.and_eq_true, decide_eq_true_eq] at h
    exact h.1
  have key : refC stdA stdW n d = false → ∃ z1 z2 : Int, sgd (!(wbelow n == wbelow d)) (n.d.n / Nat.gcd n.d.n d.d.n) = z1 ∧ sgd false (d.d.n / Nat.gcd n.d.n d.d.n) = z2 ∧ z1 = (Rat.divInt (wval n) (wval d)).num ∧ z2 = ((Rat.divInt (wval n) (wval d)).den : Int) ∧ fitZ z1 = true ∧ fitZ z2 = true := fun h => by
    have h0 := hd0 h
    have hn := wval_sgd n
    have hd := wval_sgd d
    have hg : Int.gcd (wval d) (wval n) = Nat.gcd n.d.n d.d.n := by
      unfold Int.gcd
      rw [wval_abs, wval_abs, Nat.gcd_comm]
    have hg0 : Nat.gcd n.d.n d.d.n ≠ 0 := fun e => h0 (Nat.eq_zero_of_gcd_eq_zero_right e)
    have hd0' : wval d ≠ 0 := by have := wval_abs d; omega
    refine ⟨_, _, rfl, rfl, ?_, ?_, ?_, ?_⟩
    · rw [Rat.num_divInt, hg, ← sgd_div _ (Nat.gcd_dvd_left ..) hg0]
      congr 1
      have hsg : (wval d).sign = if wbelow d then -1 else 1 := by
        rw [hd]
        cases wbelow d
        · exact Int.sign_eq_one_of_pos (by show 0 < (d.d.n : Int); omega)
        · exact Int.sign_eq_neg_one_of_neg (by show -(d.d.n : Int) < 0; omega)
      rw [hsg, hn]
      cases wbelow n <;> cases wbelow d <;> simp [sgd]
    · rw [Rat.den_divInt, if_neg hd0', hg, wval_abs]; rfl
    · exact (Sm.wd n).of_le (by rw [sgd_abs, wval_abs]; exact Nat.div_le_self _ _) |>.fit (by decide)
    · exact (Sm.wd d).of_le (by rw [sgd_abs, wval_abs]; exact Nat.div_le_self _ _) |>.fit (by decide)
  have ev : ∀ w : Wd, stdM.dq (stdM.of w) (stdM.gcd (stdM.of n) (stdM.of d)) = magL (w.d.n / Nat.gcd n.d.n d.d.n) := fun w => by
    show magL (valL (magL w.d.n) / valL (magL (Nat.gcd (valL (magL n.d.n)) (valL (magL d.d.n))))) = _
    rw [magL_val, magL_val, magL_val, magL_val]
  refine ⟨fun h => ?_, mf.of n, mf.of d, fun h => ?_, fun h => ?_, fun h => ?_⟩
  · rw [ref_c] at h
    exact (new_s n d stdA rfl stdW rfl stdV rfl stdF rfl).c1 h
  · have h0 := hd0 h
    exact decide_eq_true (by show valL (magL d.d.n) ≠ 0; rw [magL_val]; exact h0)
  · obtain ⟨z1, z2, e1, e2, e3, e4, f1, f2⟩ := key h
    rw [ev n, ev d, new_q (hb h)]
    unfold ofQ
    rw [← e3, ← e4]
    have w1 := (wv_mag e1).1
    have w2 := (wv_mag e2).1
    rw [f1] at w1
    rw [f2] at w2
    exact congr (congrArg Rt.mk w1) w2
  · obtain ⟨z1, z2, e1, e2, e3, e4, f1, f2⟩ := key h
    rw [ev n, ev d, (wv_mag e1).2, (wv_mag e2).2, f1, f2]
    exact (hb h).symm
theorem ok_rnew : CallOK Try.prog 41 (heapSem [.v, .v] stdA (gNewF stdF)) := by
  refine callOK_heap (un := ⟨false, some [2,3,4,5,28]⟩) tok tT1OK mixed (fn := Try.f41) (by kernel_rfl) (by kernel_rfl) (by kernel_rfl) (by decide +kernel) ?_
  intro w Wr args bs r hg ho hWr A L k hA hL hk
  obtain ⟨F, hF⟩ : ∃ F, F = stdF := ⟨_, rfl⟩
  obtain ⟨H, hH⟩ : ∃ H, H = stdH := ⟨_, rfl⟩
  obtain ⟨M, hM⟩ : ∃ M, M = stdM := ⟨_, rfl⟩
  obtain ⟨S, hS⟩ : ∃ S, S = stdW := ⟨_, rfl⟩
  obtain ⟨V, hV⟩ : ∃ V, V = stdV := ⟨_, rfl⟩
  obtain ⟨X, hX⟩ : ∃ X, X = stdX := ⟨_, rfl⟩
  (try rw [← hF])
  (try rw [← hH])
  (try rw [← hM])
  (try rw [← hS])
  (try rw [← hV])
  (try rw [← hX])
  (try rw [← hA])
  unfold gNewF at hg
  split at hg
  rotate_left
  · cases hg
  simp only [Option.some.injEq] at hg
  subst hg
  rename_i n d
  have rn := rn_f n d A hA S hS X hX M hM F hF
  cbv
  repeat' first | (with_reducible intro hb; cbv) | with_reducible refine And.intro ?_ ?_
  all_goals first | exact rn.o1 | exact rn.o2 | exact rn.o3 (by assumption) | skip
  · have e := rn.no hb
    refine hk _ _ (Good.pure rfl fun ρ => ?_)
    subst hF
    exact tupRt e.1 e.2
  · have e := rn.e hb
    have o := rn.k hb
    refine hk _ _ (Good.pure rfl fun ρ => ?_)
    subst hF hA hS hX hM
    exact tupR e o
def tT2 (A : Alg) (S : SW) (V : SV) (X : SX) (M : SM) (F : SF) (H : SH) : List (Nat × Sem') := (41, heapSem [.v, .v] A (gNewF F)) :: ((tT1 A S V X M F H))
theorem tT2OK : COK Try.prog (look (tT2 stdA stdW stdV stdX stdM stdF stdH)) := COK_cons ok_rnew (tT1OK)
theorem ok_rof : CallOK Try.prog 19 (heapSem [.v, .v] stdA (gOfF stdA stdW stdF)) := by
  refine callOK_heap (un := ⟨false, some [0,1,4,5]⟩) tok tT2OK mixed (fn := Try.f19) (by kernel_rfl) (by kernel_rfl) (by kernel_rfl) (by decide +kernel) ?_
  intro w Wr args bs r hg ho hWr A L k hA hL hk
  obtain ⟨F, hF⟩ : ∃ F, F = stdF := ⟨_, rfl⟩
  obtain ⟨H, hH⟩ : ∃ H, H = stdH := ⟨_, rfl⟩
  obtain ⟨M, hM⟩ : ∃ M, M = stdM := ⟨_, rfl⟩
  obtain ⟨S, hS⟩ : ∃ S, S = stdW := ⟨_, rfl⟩
  obtain ⟨V, hV⟩ : ∃ V, V = stdV := ⟨_, rfl⟩
  obtain ⟨X, hX⟩ : ∃ X, X = stdX := ⟨_, rfl⟩
  (try rw [← hF])
  (try rw [← hH])
  (try rw [← hM])
  (try rw [← hS])
  (try rw [← hV])
  (try rw [← hX])
  (try rw [← hA])
  unfold gOfF at hg
  split at hg
  rotate_left
  · cases hg
  simp only [Option.some.injEq] at hg
  subst hg
  have o1 := (ho_cons ho).1
  have o2 := (ho_cons (ho_cons ho).2).1
  have o3 := (ho_cons (ho_cons (ho_cons ho).2).2).1
  have o4 := (ho_cons (ho_cons (ho_cons (ho_cons ho).2).2).2).1
  clear ho
  rw [← hA] at o1 o2 o3 o4
  cbv
  repeat' first | (with_reducible intro hb; cbv) | with_reducible refine And.intro ?_ ?_
  all_goals first | exact o1 | exact o2 | exact o3 | exact o4 | skip
  refine hk _ _ (Good.pure rfl fun ρ => ?_)
  subst hF hS
  exact tupR rfl rfl
def gWholeH (A : Alg) (H : SH) : List CV → List Blk → Option LR
  | [.s (.int .i64 n)], [] => some ⟨[A.cmp .leq (-9223372036854775808) n, A.cmp .lss n 9223372036854775808], .c (.g [.R (H.whole n)]), []⟩
  | _, _ => none
theorem ok_rwhole : CallOK Try.prog 17 (heapSem [.v] stdA (gWholeH stdA stdH)) := by
  refine callOK_heap (un := ⟨false, some [0,2]⟩) tok tT2OK mixed (fn := Try.f17) (by kernel_rfl) (by kernel_rfl) (by kernel_rfl) (by decide +kernel) ?_
  intro w Wr args bs r hg ho hWr A L k hA hL hk
  obtain ⟨F, hF⟩ : ∃ F, F = stdF := ⟨_, rfl⟩
  obtain ⟨H, hH⟩ : ∃ H, H = stdH := ⟨_, rfl⟩
  obtain ⟨M, hM⟩ : ∃ M, M = stdM := ⟨_, rfl⟩
  obtain ⟨S, hS⟩ : ∃ S, S = stdW := ⟨_, rfl⟩
  obtain ⟨V, hV⟩ : ∃ V, V = stdV := ⟨_, rfl⟩
  obtain ⟨X, hX⟩ : ∃ X, X = stdX := ⟨_, rfl⟩
  (try rw [← hF])
  (try rw [← hH])
  (try rw [← hM])
  (try rw [← hS])
  (try rw [← hV])
  (try rw [← hX])
  (try rw [← hA])
  unfold gWholeH at hg
  split at hg
  rotate_left
  · cases hg
  simp only [Option.some.injEq] at hg
  subst hg
  rename_i n
  have o1 := (ho_cons ho).1
  have o2 := (ho_cons (ho_cons ho).2).1
  clear ho
  have e : (⟨S.from64 n, S.from64 1⟩ : Rt) = H.whole n := by
    simp only [stdA, stdCmp, decide_eq_true_eq] at o1 o2
    subst hS hH
    exact (new_int (by show n.natAbs < 2 ^ 64; omega)).2.2
  have j1 : A.cmp .leq (-9223372036854775808) 1 = true := leq_of A hA _ _ (by omega)
  have j2 : A.cmp .lss 1 9223372036854775808 = true := lss_of A hA _ _ (by omega)
  rw [← hA] at o1 o2
  cbv
  repeat' first | (with_reducible intro hb; cbv) | with_reducible refine And.intro ?_ ?_
  all_goals first | exact o1 | exact o2 | exact j1 | exact j2 | skip
  refine hk _ _ (Good.pure rfl fun ρ => ?_)
  subst hS hH
  exact retR e
def tT3 (A : Alg) (S : SW) (V : SV) (X : SX) (M : SM) (F : SF) (H : SH) : List (Nat × Sem') := (19, heapSem [.v, .v] A (gOfF A S F)) :: (17, heapSem [.v] A (gWholeH A H)) :: ((tT2 A S V X M F H))
theorem tT3OK : COK Try.prog (look (tT3 stdA stdW stdV stdX stdM stdF stdH)) := COK_cons ok_rof (COK_cons ok_rwhole (tT2OK))
end Go.Eng
namespace Go.Eng
open Go.Proofs
set_option maxRecDepth 100000
set_option linter.all false
set_option exponentiation.threshold 3000
set_option maxHeartbeats 2000000
def gComK (K : SK) (F : SF) : List CV → List Blk → Option LR
  | [.s (.int .i64 a), .s (.int .i64 b)], [] => some ⟨[K.b63 a, K.b63 b], .c (.s (.int .i64 (F.com a b))), []⟩
  | _, _ => none
structure CoK (a0 b0 a b : Int) : Prop where
  a1 : 0 ≤ a
  a2 : a ≤ 9223372036854775807
  b1 : 0 ≤ b
  b2 : b ≤ 9223372036854775807
  eq : Nat.gcd a.toNat b.toNat = Nat.gcd a0.natAbs b0.natAbs
structure CoKStep (A : Alg) (a0 b0 a b : Int) : Prop where
  nx : CoK a0 b0 b (A.bin .rem .i64 a b)
  ms : (A.bin .rem .i64 a b).toNat < b.toNat
  nz : A.cmp .neq b 0 = true
theorem cok_step {a0 b0 a b : Int} (hI : CoK a0 b0 a b) (A : Alg) (hA : A = stdA) (hb : A.cmp .gtr b 0 = true) : CoKStep A a0 b0 a b := by
  subst hA
  have hb : b > 0 := of_decide_eq_true hb
  obtain ⟨a1, a2, b1, b2, heq⟩ := hI
  have e : stdA.bin .rem .i64 a b = ((a.toNat % b.toNat : Nat) : Int) := by
    show a.tmod b = _
    rw [Int.tmod_eq_emod_of_nonneg a1, Int.natCast_emod, Int.toNat_of_nonneg a1, Int.toNat_of_nonneg b1]
  have hlt := Nat.mod_lt a.toNat (show 0 < b.toNat by omega)
  refine ⟨?_, by rw [e, Int.toNat_natCast]; exact hlt, by show (b != 0) = true; rw [bne_iff_ne]; omega⟩
  rw [e]
  refine ⟨b1, b2, by omega, by omega, ?_⟩
  rw [Int.toNat_natCast, ← heq, Nat.gcd_comm b.toNat, ← Nat.gcd_rec, Nat.gcd_comm]
theorem cok_end {a0 b0 a b : Int} (hI : CoK a0 b0 a b) (A : Alg) (hA : A = stdA) (F : SF) (hF : F = stdF) (hb : A.cmp .gtr b 0 = false) : a = F.com a0 b0 := by
  subst hA hF
  have hb : ¬ b > 0 := of_decide_eq_false hb
  obtain ⟨a1, a2, b1, b2, heq⟩ := hI
  have h0 : b = 0 := by omega
  rw [h0] at heq
  show a = ((Nat.gcd a0.natAbs b0.natAbs : Nat) : Int)
  rw [← heq]
  show a = ((Nat.gcd a.toNat 0 : Nat) : Int)
  rw [Nat.gcd_zero_right]; omega
theorem mx_negK {a : Int} (h1 : -9223372036854775807 ≤ a) (h2 : a ≤ 9223372036854775807) : stdA.mx a (stdA.bin .sub .i64 0 a) = (a.natAbs : Int) := by
  have e : stdA.bin .sub .i64 0 a = -a := by show stdBin .sub .i64 0 a = -a; simp only [stdBin, IntKind.wrap_i64]; omega
  rw [e]
  show (if -a > a then -a else a) = _
  split <;> omega
theorem cok_init {a b : Int} (ha : -9223372036854775807 ≤ a ∧ a ≤ 9223372036854775807) (hb : -9223372036854775807 ≤ b ∧ b ≤ 9223372036854775807) (A : Alg) (hA : A = stdA) : CoK a b (A.mx a (A.bin .sub .i64 0 a)) (A.mx b (A.bin .sub .i64 0 b)) := by
  subst hA
  rw [mx_negK ha.1 ha.2, mx_negK hb.1 hb.2]
  exact ⟨by omega, by omega, by omega, by omega, by rw [Int.toNat_natCast, Int.toNat_natCast]⟩
theorem ok_rcom : CallOK Try.prog 100 (heapSem [.v, .v] stdA (gComK stdK stdF)) := by
  refine callOK_heap (un := ⟨false, some [0,1,4,14]⟩) tok tT3OK mixed (fn := Try.f100) (by kernel_rfl) (by kernel_rfl) (by kernel_rfl) (by decide +kernel) ?_
  intro w Wr args bs r hg ho hWr A L k hA hL hk
  obtain ⟨F, hF⟩ : ∃ F, F = stdF := ⟨_, rfl⟩
  obtain ⟨H, hH⟩ : ∃ H, H = stdH := ⟨_, rfl⟩
  obtain ⟨K, hK⟩ : ∃ K, K = stdK := ⟨_, rfl⟩
  obtain ⟨M, hM⟩ : ∃ M, M = stdM := ⟨_, rfl⟩
  obtain ⟨S, hS⟩ : ∃ S, S = stdW := ⟨_, rfl⟩
  obtain ⟨V, hV⟩ : ∃ V, V = stdV := ⟨_, rfl⟩
  obtain ⟨X, hX⟩ : ∃ X, X = stdX := ⟨_, rfl⟩
  (try rw [← hF])
  (try rw [← hH])
  (try rw [← hK])
  (try rw [← hM])
  (try rw [← hS])
  (try rw [← hV])
  (try rw [← hX])
  (try rw [← hA])
  unfold gComK at hg
  split at hg
  rotate_left
  · cases hg
  simp only [Option.some.injEq] at hg
  subst hg
  rename_i a b
  have ha := b63_iff.1 ((ho_cons ho).1)
  have hb := b63_iff.1 ((ho_cons (ho_cons ho).2).1)
  clear ho
  have i0 := cok_init ha hb A hA
  cbv
  refine hL _ _ _ (loop_rule (un := ⟨false, some [0, 1, 4, 14]⟩) tok tT3OK mixed (fun p : Int × Int => ⟨[(1, ⟨[], .c (.s (.int .i64 p.2))⟩), (0, ⟨[], .c (.s (.int .i64 p.1))⟩)], [], 0⟩)
    (fun p => CoK a b p.1 p.2) (fun p => p.2.toNat) (_, _) i0 ?_ (fun _ i hi => by have := hWr i hi; simp at this) ?_)
  · exact ⟨⟨⟨rfl, rfl, fun _ => rfl⟩, ⟨rfl, rfl, fun _ => rfl⟩, trivial⟩, trivial, rfl, rfl⟩
  clear i0
  rintro ⟨x, y⟩ hI A2 L2 k2 hA2 hL2 hnext hexit hret
  have st := fun hb => cok_step hI A2 hA2 hb
  have en := fun hb => cok_end hI A hA F hF (by rw [hA, ← hA2]; exact hb)
  clear hI
  rw [← hA2, ← hS, ← hV, ← hX, ← hM, ← hF, ← hH]
  cbv
  repeat' first | (with_reducible intro hb; cbv) | with_reducible refine And.intro ?_ ?_
  all_goals first | exact (st hb).nz | skip
  · refine hnext _ (_, _) (st hb).nx (st hb).ms ?_
    exact ⟨⟨⟨rfl, rfl, fun _ => rfl⟩, ⟨rfl, rfl, fun _ => rfl⟩, trivial⟩, trivial, rfl, rfl⟩
  · apply hexit
    have em := en hb
    clear hexit hnext hret st en hb
    cbv
    refine hk _ _ (Good.pure rfl fun ρ => ?_)
    subst hF
    exact ret1 em
def tT5 (A : Alg) (S : SW) (V : SV) (X : SX) (M : SM) (F : SF) (H : SH) (K : SK) : List (Nat × Sem') := (100, heapSem [.v, .v] A (gComK K F)) :: ((tT3 A S V X M F H))
theorem tT5OK : COK Try.prog (look (tT5 stdA stdW stdV stdX stdM stdF stdH stdK)) := COK_cons ok_rcom (tT3OK)
def tT6 (A : Alg) (S : SW) (V : SV) (X : SX) (M : SM) (F : SF) (H : SH) (K : SK) : List (Nat × Sem') := ((tT5 A S V X M F H K))
theorem tT6OK : COK Try.prog (look (tT6 stdA stdW stdV stdX stdM stdF stdH stdK)) := tT5OK
end Go.Eng
namespace Go.Eng
open Go.Proofs
set_option maxRecDepth 100000
set_option linter.all false
set_option exponentiation.threshold 3000
set_option maxHeartbeats 2000000
theorem imp_t {A : Alg} (hA : A = stdA) {b c : Bool} (h : c = true) : A.imp b c = true := by
  subst hA; subst h; show (!b || true) = true; simp
section
variable {ρ : Rho} {f : Nat → Nat}
theorem tupLLt {k : IntKind} {a b c d : Int} {x y : Bool} (h1 : a = c) (h2 : b = d) (h3 : x = y) : (XV.t [.s (.lit k a), .s (.lit k b), .s (.tt x)]).den ρ = ((XV.t [.s (.int k c), .s (.int k d), .s (.bool y)]).ren f).den ρ := by subst h1 h2 h3; rfl
theorem tupIIt {k : IntKind} {a b c d : Int} {x y : Bool} (h1 : a = c) (h2 : b = d) (h3 : x = y) : (XV.t [.s (.int k a), .s (.int k b), .s (.tt x)]).den ρ = ((XV.t [.s (.int k c), .s (.int k d), .s (.bool y)]).ren f).den ρ := by subst h1 h2 h3; rfl
end
def gTiny (K : SK) : List CV → List Blk → Option LR
  | [.g [.R r]], [] => some ⟨[], .t [.s (.int .i64 (K.tyN r)), .s (.int .i64 (K.tyD r)), .s (.bool (K.tyOK r))], []⟩
  | _, _ => none
structure TyI (r : Rt) (k : Int) : Prop where
  k0 : 1 ≤ k
  k1 : k ≤ 32
  z : ∀ i, 1 ≤ i → i < k.toNat → r.N.d.dig i = 0 ∧ r.D.d.dig i = 0
theorem high_small (d : Dg) : (∀ i, 1 ≤ i → i < 32 → d.dig i = 0) ↔ d.n < 2 ^ 32 := by
  constructor
  · intro h2
    have key : ∀ k, k ≤ 31 → d.n % 2 ^ (32 * (k + 1)) < 2 ^ 32 := fun k => by
      induction k with
      | zero => intro _; rw [show 32 * (0 + 1) = 32 by rfl]; exact Nat.mod_lt _ (by decide)
      | succ k ih =>
        intro hk
        rw [low_dig d (k + 1), h2 (k + 1) (by omega) (by omega), Nat.mul_zero, Nat.add_zero]
        exact ih (by omega)
    have := key 31 (Nat.le_refl _)
    rwa [show 32 * (31 + 1) = 32 * 32 by rfl, ext_low] at this
  · intro h i hi _
    unfold Dg.dig
    rw [Nat.div_eq_of_lt (Nat.lt_of_lt_of_le h (Nat.pow_le_pow_right (by decide) (by omega)))]
structure TyStep (A : Alg) (K : SK) (r : Rt) (k : Int) : Prop where
  o1 : A.cmp .leq 0 k = true
  o2 : A.cmp .lss k 32 = true
  no : A.ite (A.cmp .neq (A.dig r.N.d k) 0) true (A.cmp .neq (A.dig r.D.d k) 0) = true → 0 = K.tyN r ∧ 0 = K.tyD r ∧ false = K.tyOK r
  nx : A.ite (A.cmp .neq (A.dig r.N.d k) 0) true (A.cmp .neq (A.dig r.D.d k) 0) = false → TyI r (k + 1)
  ad : A.bin .add .i64 k 1 = k + 1
  ms : (32 - (k + 1)).toNat < (32 - k).toNat
theorem ty_no {r : Rt} (h : tyB r = false) : 0 = stdK.tyN r ∧ 0 = stdK.tyD r ∧ false = stdK.tyOK r := by
  have e1 : stdK.tyN r = 0 := by show (if tyB r = true then _ else _) = _; rw [h]; rfl
  have e2 : stdK.tyD r = 0 := by show (if tyB r = true then _ else _) = _; rw [h]; rfl
  exact ⟨e1.symm, e2.symm, h.symm⟩
theorem ty_step {r : Rt} {k : Int} (hI : TyI r k) (A : Alg) (hA : A = stdA) (K : SK) (hK : K = stdK) (hb : A.cmp .lss k 32 = true) : TyStep A K r k := by
  subst hA hK
  have hb : k < 32 := of_decide_eq_true hb
  obtain ⟨k0, k1, hz⟩ := hI
  have hdig : ∀ d : Dg, stdA.dig d k = ((d.dig k.toNat : Nat) : Int) := fun d => rfl
  have hc : ∀ d : Dg, stdA.cmp .neq (stdA.dig d k) 0 = decide (d.dig k.toNat ≠ 0) := fun d => by
    show (((d.dig k.toNat : Nat) : Int) != 0) = _
    by_cases h : d.dig k.toNat = 0
    · rw [h]; rfl
    · rw [decide_eq_true h, bne_iff_ne]; omega
  have nz : ∀ d : Dg, d.dig k.toNat ≠ 0 → ¬ d.n < 2 ^ 31 := fun d h h' => h ((high_small d).2 (Nat.lt_trans h' (by decide)) _ (by omega) (by omega))
  exact {
    o1 := leq_of _ rfl _ _ (by omega)
    o2 := lss_of _ rfl _ _ hb
    no := fun h => by
      rw [hc, hc] at h
      refine ty_no ?_
      unfold tyB
      have h : (if decide (r.N.d.dig k.toNat ≠ 0) = true then true else decide (r.D.d.dig k.toNat ≠ 0)) = true := h
      split at h
      · rename_i h1
        rw [decide_eq_false (nz _ (of_decide_eq_true h1))]; rfl
      · rw [decide_eq_false (nz _ (of_decide_eq_true h))]
        cases decide (r.N.d.n < 2 ^ 31) <;> rfl
    nx := fun h => by
      rw [hc, hc] at h
      have h : (if decide (r.N.d.dig k.toNat ≠ 0) = true then true else decide (r.D.d.dig k.toNat ≠ 0)) = false := h
      refine ⟨by omega, by omega, fun i i1 i2 => ?_⟩
      by_cases hi : i = k.toNat
      · subst hi
        split at h
        · cases h
        · rename_i h1
          rw [decide_eq_true_eq, Decidable.not_not] at h1
          have := of_decide_eq_false h
          exact ⟨h1, Decidable.not_not.1 this⟩
      · exact hz i i1 (by omega)
    ad := by show stdBin .add .i64 k 1 = k + 1; simp only [stdBin, IntKind.wrap_i64]; omega
    ms := by omega }
def tyC (A : Alg) (F : SF) (r : Rt) : Bool := A.ite (A.ite (A.ite (A.ite (A.ite (A.cmp .geq (A.wrap .i64 (A.dig r.N.d 0)) 2147483648) true (A.cmp .geq (A.wrap .i64 (A.dig r.D.d 0)) 2147483648)) true (A.cmp .eql (A.wrap .i64 (A.dig r.D.d 0)) 0)) true r.D.neg) true (A.ite r.N.neg (A.cmp .eql (A.wrap .i64 (A.dig r.N.d 0)) 0) false)) true (A.cmp .neq (F.com (A.wrap .i64 (A.dig r.N.d 0)) (A.wrap .i64 (A.dig r.D.d 0))) 1)
structure TyEnd (A : Alg) (F : SF) (K : SK) (r : Rt) : Prop where
  o1 : K.b63 (A.wrap .i64 (A.dig r.N.d 0)) = true
  o2 : K.b63 (A.wrap .i64 (A.dig r.D.d 0)) = true
  no : tyC A F r = true → 0 = K.tyN r ∧ 0 = K.tyD r ∧ false = K.tyOK r
  e1 : tyC A F r = false → r.N.neg = true → A.bin .sub .i64 0 (A.wrap .i64 (A.dig r.N.d 0)) = K.tyN r
  e0 : tyC A F r = false → r.N.neg = false → A.wrap .i64 (A.dig r.N.d 0) = K.tyN r
  d : tyC A F r = false → A.wrap .i64 (A.dig r.D.d 0) = K.tyD r
  ok : tyC A F r = false → true = K.tyOK r
theorem ty_cond {r : Rt} (h1 : r.N.d.n < 2 ^ 32) (h2 : r.D.d.n < 2 ^ 32) : tyC stdA stdF r = !tyB r := by
  have e : ∀ d : Dg, d.n < 2 ^ 32 → stdA.wrap .i64 (stdA.dig d 0) = ((d.n : Nat) : Int) := fun d h => by
    have hd : d.dig 0 = d.n := by
      unfold Dg.dig
      simp only [Nat.mul_zero, Nat.pow_zero, Nat.div_one]
      exact Nat.mod_eq_of_lt h
    show IntKind.i64.wrap ((d.dig (0 : Int).toNat : Nat) : Int) = _
    rw [show (0 : Int).toNat = 0 from rfl, hd, IntKind.wrap_i64]
    omega
  unfold tyC
  rw [e _ h1, e _ h2]
  show (if (if (if (if (if decide (((r.N.d.n : Nat) : Int) ≥ 2147483648) = true then true else decide (((r.D.d.n : Nat) : Int) ≥ 2147483648)) = true then true else (((r.D.d.n : Nat) : Int) == 0)) = true then true else r.D.neg) = true then true else (if r.N.neg = true then (((r.N.d.n : Nat) : Int) == 0) else false)) = true then true else (((Nat.gcd ((r.N.d.n : Nat) : Int).natAbs ((r.D.d.n : Nat) : Int).natAbs : Nat) : Int) != 1)) = !tyB r
  have g1 : decide (((r.N.d.n : Nat) : Int) ≥ 2147483648) = !decide (r.N.d.n < 2 ^ 31) := by
    by_cases h : r.N.d.n < 2 ^ 31
    · rw [decide_eq_true h, decide_eq_false (by omega)]; rfl
    · rw [decide_eq_false h, decide_eq_true (by omega)]; rfl
  have g2 : decide (((r.D.d.n : Nat) : Int) ≥ 2147483648) = !decide (r.D.d.n < 2 ^ 31) := by
    by_cases h : r.D.d.n < 2 ^ 31
    · rw [decide_eq_true h, decide_eq_false (by omega)]; rfl
    · rw [decide_eq_false h, decide_eq_true (by omega)]; rfl
  have g3 : (((r.D.d.n : Nat) : Int) == 0) = !decide (r.D.d.n ≠ 0) := by
    by_cases h : r.D.d.n = 0
    · rw [h]; rfl
    · rw [decide_eq_true h]; show (((r.D.d.n : Nat) : Int) == 0) = false; rw [beq_eq_false_iff_ne]; omega
  have g4 : (((r.N.d.n : Nat) : Int) == 0) = !decide (r.N.d.n ≠ 0) := by
    by_cases h : r.N.d.n = 0
    · rw [h]; rfl
    · rw [decide_eq_true h]; show (((r.N.d.n : Nat) : Int) == 0) = false; rw [beq_eq_false_iff_ne]; omega
  have g5 : (((Nat.gcd ((r.N.d.n : Nat) : Int).natAbs ((r.D.d.n : Nat) : Int).natAbs : Nat) : Int) != 1) = !decide (Int.gcd (wval r.N) (wval r.D) = 1) := by
    have : Int.gcd (wval r.N) (wval r.D) = Nat.gcd r.N.d.n r.D.d.n := by unfold Int.gcd; rw [wval_abs, wval_abs]
    rw [this, Int.natAbs_natCast, Int.natAbs_natCast]
    by_cases h : Nat.gcd r.N.d.n r.D.d.n = 1
    · rw [h]; rfl
    · rw [decide_eq_false h]; show (((Nat.gcd r.N.d.n r.D.d.n : Nat) : Int) != 1) = true; rw [bne_iff_ne]; omega
  rw [g1, g2, g3, g4, g5]
  unfold tyB isRt isWd
  have gp : decide (0 < wval r.D) = (!r.D.neg && decide (r.D.d.n ≠ 0)) := by
    unfold wval
    cases r.D.neg
    · show decide (0 < ((r.D.d.n : Nat) : Int)) = (true && decide (r.D.d.n ≠ 0))
      rw [Bool.true_and, decide_eq_decide]; omega
    · show decide (0 < -((r.D.d.n : Nat) : Int)) = (false && _)
      rw [Bool.false_and]; exact decide_eq_false (by omega)
  rw [gp]
  cases decide (r.N.d.n < 2 ^ 31) <;> cases decide (r.D.d.n < 2 ^ 31) <;> cases decide (r.D.d.n ≠ 0) <;> cases decide (r.N.d.n ≠ 0) <;> cases r.N.neg <;> cases r.D.neg <;> cases decide (Int.gcd (wval r.N) (wval r.D) = 1) <;> rfl
theorem ty_end {r : Rt} {k : Int} (hI : TyI r k) (A : Alg) (hA : A = stdA) (F : SF) (hF : F = stdF) (K : SK) (hK : K = stdK) (hk : A.cmp .lss k 32 = false) : TyEnd A F K r := by
  subst hA hF hK
  have hk : ¬ k < 32 := of_decide_eq_false hk
  obtain ⟨k0, k1, hz⟩ := hI
  have h1 : r.N.d.n < 2 ^ 32 := (high_small _).1 fun i i1 i2 => (hz i i1 (by omega)).1
  have h2 : r.D.d.n < 2 ^ 32 := (high_small _).1 fun i i1 i2 => (hz i i1 (by omega)).2
  have e : ∀ d : Dg, d.n < 2 ^ 32 → stdA.wrap .i64 (stdA.dig d 0) = ((d.n : Nat) : Int) := fun d h => by
    have hd : d.dig 0 = d.n := by
      unfold Dg.dig
      simp only [Nat.mul_zero, Nat.pow_zero, Nat.div_one]
      exact Nat.mod_eq_of_lt h
    show IntKind.i64.wrap ((d.dig (0 : Int).toNat : Nat) : Int) = _
    rw [show (0 : Int).toNat = 0 from rfl, hd, IntKind.wrap_i64]
    omega
  have hv : tyC stdA stdF r = false → stdK.tyN r = wval r.N ∧ stdK.tyD r = wval r.D ∧ tyB r = true ∧ r.D.neg = false := fun h => by
    rw [ty_cond h1 h2, Bool.not_eq_false'] at h
    obtain ⟨s, n, d⟩ := ty_is h
    refine ⟨n, d, h, ?_⟩
    have hp := s.is.p
    cases hn : r.D.neg
    · rfl
    · unfold wval at hp
      rw [hn] at hp
      have hp : 0 < -((r.D.d.n : Nat) : Int) := hp
      omega
  refine ⟨by rw [e _ h1, b63_iff]; omega, by rw [e _ h2, b63_iff]; omega, fun h => ?_, fun h hn => ?_, fun h hn => ?_, fun h => ?_, fun h => (hv h).2.2.1.symm⟩
  · rw [ty_cond h1 h2, Bool.not_eq_true'] at h
    exact ty_no h
  · rw [(hv h).1, e _ h1]
    unfold wval
    rw [hn]
    show stdBin .sub .i64 0 _ = -((r.N.d.n : Nat) : Int)
    simp only [stdBin, IntKind.wrap_i64]; omega
  · rw [(hv h).1, e _ h1]
    unfold wval
    rw [hn]; rfl
  · rw [(hv h).2.1, e _ h2]
    unfold wval
    rw [(hv h).2.2.2]; rfl
theorem ok_rtiny : CallOK Try.prog 71 (heapSem [.v] stdA (gTiny stdK)) := by
  refine callOK_heap (un := ⟨false, some [1,2,3,4,5,6,7,9,25,65,68]⟩) tok tT6OK mixed (fn := Try.f71) (by kernel_rfl) (by kernel_rfl) (by kernel_rfl) (by decide +kernel) ?_
  intro w Wr args bs r hg ho hWr A L k hA hL hk
  obtain ⟨F, hF⟩ : ∃ F, F = stdF := ⟨_, rfl⟩
  obtain ⟨H, hH⟩ : ∃ H, H = stdH := ⟨_, rfl⟩
  obtain ⟨K, hK⟩ : ∃ K, K = stdK := ⟨_, rfl⟩
  obtain ⟨M, hM⟩ : ∃ M, M = stdM := ⟨_, rfl⟩
  obtain ⟨S, hS⟩ : ∃ S, S = stdW := ⟨_, rfl⟩
  obtain ⟨V, hV⟩ : ∃ V, V = stdV := ⟨_, rfl⟩
  obtain ⟨X, hX⟩ : ∃ X, X = stdX := ⟨_, rfl⟩
  (try rw [← hF])
  (try rw [← hH])
  (try rw [← hK])
  (try rw [← hM])
  (try rw [← hS])
  (try rw [← hV])
  (try rw [← hX])
  (try rw [← hA])
  unfold gTiny at hg
  split at hg
  rotate_left
  · cases hg
  simp only [Option.some.injEq] at hg
  subst hg
  rename_i r
  have i0 : TyI r 1 := ⟨Int.le_refl 1, by decide, fun i h1 h2 => by simp at h2; omega⟩
  cbv
  refine hL _ _ _ (loop_rule (un := ⟨false, some [1, 2, 3, 4, 5, 6, 7, 9, 25, 65, 68]⟩) tok tT6OK mixed (fun k : Int => ⟨[(5, ⟨[], .c (.s (.int .i64 k))⟩), (4, ⟨[], .c (.s (.tt false))⟩), (3, ⟨[], .c (.s (.lit .i64 0))⟩), (2, ⟨[], .c (.s (.lit .i64 0))⟩), (1, ⟨[], .c (.s (.hp 0 0))⟩)], [(0, .fix true [.R r])], 1⟩)
    (fun k => TyI r k) (fun k => (32 - k).toNat) 1 i0 ?_ (fun _ i hi => by have := hWr i hi; simp at this) ?_)
  · exact ⟨⟨⟨rfl, rfl, fun _ => rfl⟩, ⟨rfl, rfl, fun _ => rfl⟩, ⟨rfl, rfl, fun _ => rfl⟩, ⟨rfl, rfl, fun _ => rfl⟩, ⟨rfl, rfl, fun _ => rfl⟩, trivial⟩, ⟨leRefl rfl, trivial⟩, rfl, rfl⟩
  clear i0
  rintro k hI A2 L2 k2 hA2 hL2 hnext hexit hret
  have st := fun hb : A2.cmp .lss k 32 = true => ty_step hI A2 hA2 K hK hb
  have en := fun hb : A2.cmp .lss k 32 = false => ty_end hI A hA F hF K hK (by rw [hA, ← hA2]; exact hb)
  clear hI
  rw [← hA2, ← hS, ← hV, ← hX, ← hM, ← hF, ← hH, ← hK]
  cbv
  repeat' first | (with_reducible intro hb; cbv) | with_reducible refine And.intro ?_ ?_
  all_goals first | exact (st hb).o1 | exact (st hb).o2 | exact imp_t hA2 (st hb).o1 | exact imp_t hA2 (st hb).o2 | skip
  · rename_i hb0
    have e := (st hb0).no hb
    apply hret
    clear hexit hnext hret st en
    cbv
    refine hk _ _ (Good.pure rfl fun ρ => ?_)
    subst hK
    exact tupLLt e.1 e.2.1 e.2.2
  · rename_i hb0
    refine hnext _ (k + 1) ((st hb0).nx hb) (st hb0).ms ?_
    have ead := (st hb0).ad
    subst hA2
    exact ⟨⟨⟨rfl, rfl, leI ead⟩, ⟨rfl, rfl, fun _ => rfl⟩, ⟨rfl, rfl, fun _ => rfl⟩, ⟨rfl, rfl, fun _ => rfl⟩, ⟨rfl, rfl, fun _ => rfl⟩, trivial⟩, ⟨leRefl rfl, trivial⟩, rfl, rfl⟩
  · apply hexit
    have em := en hb
    clear hexit hnext hret st en hb
    cbv
    repeat' first | (with_reducible intro hb; cbv) | with_reducible refine And.intro ?_ ?_
    all_goals first | exact imp_t hA em.o1 | exact imp_t hA em.o2 | skip
    · have e := em.no hb
      refine hk _ _ (Good.pure rfl fun ρ => ?_)
      subst hK
      exact tupLLt e.1 e.2.1 e.2.2
    · rename_i h0
      have e1 := em.e1 h0 hb
      have e2 := em.d h0
      have e3 := em.ok h0
      refine hk _ _ (Good.pure rfl fun ρ => ?_)
      subst hK
      exact tupIIt e1 e2 e3
    · rename_i h0
      have e1 := em.e0 h0 hb
      have e2 := em.d h0
      have e3 := em.ok h0
      refine hk _ _ (Good.pure rfl fun ρ => ?_)
      subst hK
      exact tupIIt e1 e2 e3
end Go.Eng
namespace Go.Eng
open Go.Proofs
set_option maxRecDepth 100000
set_option linter.all false
set_option exponentiation.threshold 3000
set_option maxHeartbeats 2000000
def isC (A : Alg) (S : SW) (r : Rt) : Bool := A.ite (A.ite (A.ite (S.isW r.N) (S.isW r.D) false) (A.not r.D.neg) false) (A.cmp .gtr (S.bits r.D) 0) false
structure IsrF (A : Alg) (S : SW) (M : SM) (F : SF) (K : SK) (r : Rt) : Prop where
  t : K.tyOK r = true → true = F.isR r
  o1 : M.ok (M.of r.N) = true
  o2 : M.ok (M.of r.D) = true
  o3 : M.ok (M.gcd (M.of r.N) (M.of r.D)) = true
  o4 : M.ok [1] = true
  y : isC A S r = true → A.ite true (A.cmp .eql (M.cmp (M.gcd (M.of r.N) (M.of r.D)) [1]) 0) false = F.isR r
  n : isC A S r = false → false = F.isR r
theorem isr_f (r : Rt) (A : Alg) (hA : A = stdA) (S : SW) (hS : S = stdW) (M : SM) (hM : M = stdM) (F : SF) (hF : F = stdF) (K : SK) (hK : K = stdK) : IsrF A S M F K r := by
  have mf := mfs A hA stdX rfl M hM
  subst hA hS hM hF hK
  have hb0 : decide (bitsW r.D > 0) = decide (r.D.d.n ≠ 0) := by
    have : (bitsW r.D == 0) = decide (r.D.d.n = 0) := lenOf_zero r.D.d.n
    have hnn : 0 ≤ bitsW r.D := Int.natCast_nonneg _
    by_cases h : r.D.d.n = 0
    · rw [h] at this ⊢
      rw [show decide ((0 : Nat) = 0) = true from rfl, beq_iff_eq] at this
      rw [decide_eq_false (by omega), decide_eq_false (by omega)]
    · rw [decide_eq_false h, beq_eq_false_iff_ne] at this
      rw [decide_eq_true (by omega), decide_eq_true h]
  have hc : isC stdA stdW r = (isWd r.N && (isWd r.D && decide (0 < wval r.D))) := by
    unfold isC
    show (if (if (if isWd r.N = true then isWd r.D else false) = true then !r.D.neg else false) = true then decide (bitsW r.D > 0) else false) = _
    rw [hb0]
    have gp : decide (0 < wval r.D) = (!r.D.neg && decide (r.D.d.n ≠ 0)) := by
      unfold wval
      cases r.D.neg
      · show decide (0 < ((r.D.d.n : Nat) : Int)) = (true && decide (r.D.d.n ≠ 0))
        rw [Bool.true_and, decide_eq_decide]; omega
      · show decide (0 < -((r.D.d.n : Nat) : Int)) = (false && _)
        rw [Bool.false_and]; exact decide_eq_false (by omega)
    rw [gp]
    cases isWd r.N <;> cases isWd r.D <;> cases r.D.neg <;> cases decide (r.D.d.n ≠ 0) <;> rfl
  have he : stdF.isR r = (isWd r.N && (isWd r.D && (decide (0 < wval r.D) && decide (Int.gcd (wval r.N) (wval r.D) = 1)))) := rfl
  refine ⟨fun h => ?_, mf.of _, mf.of _, mf.gcd _ _, by decide +kernel, fun h => ?_, fun h => ?_⟩
  · have h : tyB r = true := h
    exact (isRt_iff.2 (ty_is h).1.is).symm
  · rw [hc] at h
    simp only [Bool.and_eq_true] at h
    rw [he, h.1, h.2.1, h.2.2]
    show (sgn (valL (magL (Nat.gcd (valL (magL r.N.d.n)) (valL (magL r.D.d.n))))) (valL [1]) == 0) = decide (Int.gcd (wval r.N) (wval r.D) = 1)
    rw [magL_val, magL_val, magL_val]
    have : Int.gcd (wval r.N) (wval r.D) = Nat.gcd r.N.d.n r.D.d.n := by unfold Int.gcd; rw [wval_abs, wval_abs]
    rw [this]
    have h1 : ((valL [1] : Nat) : Int) = 1 := rfl
    rw [h1]
    unfold sgn
    by_cases hg : Nat.gcd r.N.d.n r.D.d.n = 1
    · rw [hg]; rfl
    · rw [decide_eq_false hg]
      split
      · rfl
      · split
        · rfl
        · omega
  · rw [hc] at h
    rw [he]
    revert h
    cases isWd r.N <;> cases isWd r.D <;> cases decide (0 < wval r.D) <;> intro h <;> first | rfl | cases h
def tI2 (A : Alg) (S : SW) (M : SM) (F : SF) (K : SK) : List (Nat × Sem') := (71, heapSem [.v] A (gTiny K)) :: (66, heapSem [.v] A (gIs S)) :: (42, heapSem [.v] A (gBits S)) :: (69, heapSemF [.v] A (gMof M)) :: (73, heapSemF [.s (.int .u32), .s (.int .u32)] A (gMgcd A M)) :: (72, heapSem [.s (.int .u32), .s (.int .u32)] A (gMcmp A M)) :: ([])
theorem tI2OK : COK Try.prog (look (tI2 stdA stdW stdM stdF stdK)) := COK_cons ok_rtiny (COK_cons ok_mis (COK_cons ok_mbitsW (COK_cons ok_mof (COK_cons ok_mgcd (COK_cons ok_mcmp (COK_nil))))))
theorem ok_risr : CallOK Try.prog 43 (heapSem [.v] stdA (gIsR stdF)) := by
  refine callOK_heap (un := ⟨false, some [1000033,1,2,5,12]⟩) tok tI2OK mixed (fn := Try.f43) (by kernel_rfl) (by kernel_rfl) (by kernel_rfl) (by decide +kernel) ?_
  intro w Wr args bs r hg ho hWr A L k hA hL hk
  obtain ⟨F, hF⟩ : ∃ F, F = stdF := ⟨_, rfl⟩
  obtain ⟨K, hK⟩ : ∃ K, K = stdK := ⟨_, rfl⟩
  obtain ⟨M, hM⟩ : ∃ M, M = stdM := ⟨_, rfl⟩
  obtain ⟨S, hS⟩ : ∃ S, S = stdW := ⟨_, rfl⟩
  (try rw [← hF])
  (try rw [← hK])
  (try rw [← hM])
  (try rw [← hS])
  (try rw [← hA])
  unfold gIsR at hg
  split at hg
  rotate_left
  · cases hg
  simp only [Option.some.injEq] at hg
  subst hg
  rename_i r
  have sf := isr_f r A hA S hS M hM F hF K hK
  cbv
  repeat' first | (with_reducible intro hb; cbv) | with_reducible refine And.intro ?_ ?_
  · have e := sf.t hb
    refine hk _ _ (Good.pure rfl fun ρ => ?_)
    subst hF
    exact retT e
  · have b1 : ∀ b c, b = c → A.beq b c = true := fun b c h => by subst hA h; show (b == b) = true; cases b <;> rfl
    refine by_bool (isC A S r) (fun hc => Or.inl ?_) (fun hc => Or.inr ?_)
    · repeat' first | (with_reducible intro hb; cbv) | with_reducible refine And.intro ?_ ?_
      all_goals first | exact b1 _ _ hc | exact sf.o1 | exact sf.o2 | exact sf.o3 | exact sf.o4 | skip
      refine hk _ _ (Good.pure rfl fun ρ => ?_)
      have e := sf.y hc
      subst hA hF
      exact retB e
    · repeat' first | (with_reducible intro hb; cbv) | with_reducible refine And.intro ?_ ?_
      all_goals first | exact b1 _ _ hc | skip
      refine hk _ _ (Good.pure rfl fun ρ => ?_)
      have e := sf.n hc
      subst hA hF
      exact retT e
end Go.Eng
namespace Go.Eng
open Go.Proofs
set_option maxRecDepth 100000
set_option linter.all false
set_option exponentiation.threshold 3000
set_option maxHeartbeats 2000000
section
variable {ρ : Rho} {f : Nat → Nat}
theorem tupLtt {k : IntKind} {a c : Int} {b d : Bool} (h1 : a = c) (h2 : b = d) : (XV.t [.s (.lit k a), .s (.tt b)]).den ρ = ((XV.t [.s (.int k c), .s (.bool d)]).ren f).den ρ := by subst h1 h2; rfl
end
def tI3 (A : Alg) (S : SW) (F : SF) : List (Nat × Sem') := (42, heapSem [.v] A (gBits S)) :: (43, heapSem [.v] A (gIsR F)) :: ([])
theorem tI3OK : COK Try.prog (look (tI3 stdA stdW stdF)) := COK_cons ok_mbitsW (COK_cons ok_risr (COK_nil))
theorem ok_rsafe : CallOK Try.prog 20 (heapSem [.v, .v] stdA (gSafeR stdF)) := by
  refine callOK_heap (un := ⟨false, some [1,2,4]⟩) tok tI3OK mixed (fn := Try.f20) (by kernel_rfl) (by kernel_rfl) (by kernel_rfl) (by decide +kernel) ?_
  intro w Wr args bs r hg ho hWr A L k hA hL hk
  obtain ⟨F, hF⟩ : ∃ F, F = stdF := ⟨_, rfl⟩
  obtain ⟨S, hS⟩ : ∃ S, S = stdW := ⟨_, rfl⟩
  (try rw [← hF])
  (try rw [← hS])
  (try rw [← hA])
  unfold gSafeR at hg
  split at hg
  rotate_left
  · cases hg
  simp only [Option.some.injEq] at hg
  subst hg
  rename_i r n
  have f : A.ite (A.ite (A.cmp .leq (S.bits r.N) n) (A.cmp .leq (S.bits r.D) n) false) (F.isR r) false = F.safe r n := by
    subst hA hS hF
    show (if (if decide (bitsW r.N ≤ n) = true then decide (bitsW r.D ≤ n) else false) = true then isRt r else false) = safeR r n
    unfold safeR
    cases decide (bitsW r.N ≤ n) <;> cases decide (bitsW r.D ≤ n) <;> rfl
  cbv
  refine hk _ _ (Good.pure rfl fun ρ => ?_)
  subst hF
  exact retB f
end Go.Eng
namespace Go.Eng
open Go.Proofs
set_option maxRecDepth 100000
set_option linter.all false
set_option exponentiation.threshold 3000
set_option maxHeartbeats 2000000
end Go.Eng
namespace Go.Eng
open Go.Proofs
set_option maxRecDepth 100000
set_option linter.all false
set_option exponentiation.threshold 3000
set_option maxHeartbeats 2000000
end Go.Eng

