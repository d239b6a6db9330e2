
import Derived.Test.YtekohdfjkmdlpaaGreatZCRB
import Derived.Test.YtekohdfjkmdlpaaGreatZCMB
import Derived.Test.YtekohdfjkmdlpaaGreatSpecFA
import Derived.Test.YtekohdfjkmdlpaaGreatEngZA
set_option linter.all false
set_option exponentiation.threshold 3000
namespace Go.Eng
open Go.Proofs
set_option maxRecDepth 100000
set_option linter.all false
set_option exponentiation.threshold 3000
set_option maxHeartbeats 2000000
def gRat (A : Alg) (X : SX) (M : SM) : List CV → List Blk → Option LR
  | [.s (.bool b), .s (.hs 0), .s (.hs 1)], [.vec false (.int .u32) l, .vec false (.int .u32) m] => some ⟨[M.ok l, M.ok m, M.nz m], .t [.g [.R ⟨X.wV b (M.dq l (M.gcd l m)), X.wV false (M.dq m (M.gcd l m))⟩], .s (.bool (A.ite (X.wOK (M.dq l (M.gcd l m))) (X.wOK (M.dq m (M.gcd l m))) false))], []⟩
  | _, _ => none
structure RaF (A : Alg) (X : SX) (M : SM) (l m : List Int) : Prop where
  hl : M.ok l = true
  hm : M.ok m = true
  g : M.ok (M.gcd l m) = true
  z : M.nz (M.gcd l m) = true
  p1 : A.cmp .lss (A.len (M.dq l (M.gcd l m))) 1000000 = true
  p2 : X.rng (M.dq l (M.gcd l m)) = true
  q1 : A.cmp .lss (A.len (M.dq m (M.gcd l m))) 1000000 = true
  q2 : X.rng (M.dq m (M.gcd l m)) = true
theorem Mag.sub {l : List Int} {n : Nat} (h : Mag l) (hn : n ≤ valL l) : Mag (magL n) := Mag.lt (Nat.lt_of_le_of_lt hn h.small) (Nat.le_refl _)
theorem ra_f {l m : List Int} (A : Alg) (hA : A = stdA) (X : SX) (hX : X = stdX) (M : SM) (hM : M = stdM) (hl : M.ok l = true) (hm : M.ok m = true) (hz : M.nz m = true) : RaF A X M l m := by
  have mf := mfs A hA X hX M hM
  subst hA hX hM
  have hl' : Mag l := isMag_iff.1 hl
  have hm' : Mag m := isMag_iff.1 hm
  have hz' : valL m ≠ 0 := of_decide_eq_true hz
  have hg0 : Nat.gcd (valL l) (valL m) ≠ 0 := fun h => hz' (Nat.eq_zero_of_gcd_eq_zero_right h)
  have g : stdM.ok (stdM.gcd l m) = true := isMag_iff.2 (hm'.sub (Nat.gcd_le_right _ (by omega)))
  have d1 : stdM.ok (stdM.dq l (stdM.gcd l m)) = true := isMag_iff.2 (hl'.sub (Nat.div_le_self _ _))
  have d2 : stdM.ok (stdM.dq m (stdM.gcd l m)) = true := isMag_iff.2 (hm'.sub (Nat.div_le_self _ _))
  exact ⟨hl, hm, g, decide_eq_true (by show valL (magL _) ≠ 0; rw [magL_val]; exact hg0), mf.ok1 _ d1, mf.ok2 _ d1, mf.ok1 _ d2, mf.ok2 _ d2⟩
def tG8 (A : Alg) (S : SW) (V : SV) (X : SX) (M : SM) (F : SF) (H : SH) : List (Nat × Sem') := ((tG7 A S V X M F H) ++ (tM16 A S V X M))
theorem tG8OK : COK Tryz.prog (look (tG8 stdA stdW stdV stdX stdM stdF stdH)) := COK_app tG7OK tM16OK
theorem ok_rrat : CallOK Tryz.prog 128 (heapSem [.v, .s (.int .u32), .s (.int .u32)] stdA (gRat stdA stdX stdM)) := by
  refine callOK_heap (un := ⟨false, some [0,1,2,6,7,8,9,10,11,12,13,14,15,16]⟩) tok tG8OK mixed (fn := Tryz.f128) (by kernel_rfl) (by kernel_rfl) (by kernel_rfl) (by decide +kernel) ?_
  intro w Wr args bs r hg ho hWr A L k hA hL hk
  obtain ⟨F, hF⟩ : ∃ F, F = stdF := ⟨_, rfl⟩
  obtain ⟨H, hH⟩ : ∃ H, H = stdH := ⟨_, rfl⟩
  obtain ⟨M, hM⟩ : ∃ M, M = stdM := ⟨_, rfl⟩
  obtain ⟨S, hS⟩ : ∃ S, S = stdW := ⟨_, rfl⟩
  obtain ⟨V, hV⟩ : ∃ V, V = stdV := ⟨_, rfl⟩
  obtain ⟨X, hX⟩ : ∃ X, X = stdX := ⟨_, rfl⟩
  (try rw [← hF])
  (try rw [← hH])
  (try rw [← hM])
  (try rw [← hS])
  (try rw [← hV])
  (try rw [← hX])
  (try rw [← hA])
  unfold gRat at hg
  split at hg
  rotate_left
  · cases hg
  simp only [Option.some.injEq] at hg
  subst hg
  rename_i b l m
  have h1 := (ho_cons ho).1
  have h2 := (ho_cons (ho_cons ho).2).1
  have h3 := (ho_cons (ho_cons (ho_cons ho).2).2).1
  clear ho
  rw [← hM] at h1 h2 h3
  have ra := ra_f A hA X hX M hM h1 h2 h3
  cbv
  repeat' first | (with_reducible intro hb; cbv) | with_reducible refine And.intro ?_ ?_
  all_goals first | exact ra.hl | exact ra.hm | exact ra.g | exact ra.z | exact ra.p1 | exact ra.p2 | exact ra.q1 | exact ra.q2 | skip
  refine hk _ _ (Good.pure rfl fun ρ => ?_)
  subst hA hX hM
  exact tupR rfl rfl
def tT1 (A : Alg) (S : SW) (V : SV) (X : SX) (M : SM) (F : SF) (H : SH) : List (Nat × Sem') := (128, heapSem [.v, .s (.int .u32), .s (.int .u32)] A (gRat A X M)) :: ((tG8 A S V X M F H))
theorem tT1OK : COK Tryz.prog (look (tT1 stdA stdW stdV stdX stdM stdF stdH)) := COK_cons ok_rrat (tG8OK)
def refC (A : Alg) (S : SW) (n d : Wd) : Bool := A.ite (A.ite (A.ite (A.ite (A.not (S.isW n)) true (A.not (S.isW d))) true (A.cmp .gtr (S.bits n) 1023)) true (A.cmp .gtr (S.bits d) 1023)) true (A.cmp .eql (S.bits d) 0)
theorem ref_c (n d : Wd) : refC stdA stdW n d = newC stdA stdW n d := by
  unfold refC newC
  show (if (if (if (if (!isWd n) = true then true else !isWd d) = true then true else decide (bitsW n > 1023)) = true then true else decide (bitsW d > 1023)) = true then true else (bitsW d == 0)) = (if (if (if (if (bitsW d == 0) = true then true else decide (bitsW n > 1023)) = true then true else decide (bitsW d > 1023)) = true then true else !isWd n) = true then true else !isWd d)
  cases isWd n <;> cases isWd d <;> cases decide (bitsW n > 1023) <;> cases decide (bitsW d > 1023) <;> cases (bitsW d == 0) <;> rfl
structure RnF (A : Alg) (S : SW) (X : SX) (M : SM) (F : SF) (n d : Wd) : Prop where
  no : refC A S n d = true → zeroR = F.new n d ∧ false = F.newOK n d
  o1 : M.ok (M.of n) = true
  o2 : M.ok (M.of d) = true
  o3 : refC A S n d = false → M.nz (M.of d) = true
  e : refC A S n d = false → (⟨X.wV (A.not (A.beq (S.below n) (S.below d))) (M.dq (M.of n) (M.gcd (M.of n) (M.of d))), X.wV false (M.dq (M.of d) (M.gcd (M.of n) (M.of d)))⟩ : Rt) = F.new n d
  k : refC A S n d = false → A.ite (X.wOK (M.dq (M.of n) (M.gcd (M.of n) (M.of d)))) (X.wOK (M.dq (M.of d) (M.gcd (M.of n) (M.of d)))) false = F.newOK n d
theorem sgd_div (s : Bool) {g n : Nat} (h : g ∣ n) (hg : g ≠ 0) : sgd s n / (g : Int) = sgd s (n / g) := by
  obtain ⟨c, rfl⟩ := h
  rw [Nat.mul_div_cancel_left _ (by omega)]
  cases s
  · show ((g * c : Nat) : Int) / (g : Int) = (c : Int)
    rw [Int.natCast_mul, Int.mul_ediv_cancel_left _ (by omega)]
  · show -((g * c : Nat) : Int) / (g : Int) = -(c : Int)
    rw [Int.natCast_mul, ← Int.mul_neg, Int.mul_ediv_cancel_left _ (by omega)]
theorem rn_f (n d : Wd) (A : Alg) (hA : A = stdA) (S : SW) (hS : S = stdW) (X : SX) (hX : X = stdX) (M : SM) (hM : M = stdM) (F : SF) (hF : F = stdF) : RnF A S X M F n d := by
  have mf := mfs A hA X hX M hM
  subst hA hS hX hM hF
  have hb : refC stdA stdW n d = false → newB n d = true := fun h => by rw [ref_c, new_c, Bool.not_eq_false'] at h; exact h
  have hd0 : refC stdA stdW n d = false → d.d.n ≠ 0 := fun h => by
    have h := hb h
    unfold newB at h
    simp only [Bool.and_eq_true, decide_eq_true_eq] at h
    exact h.1
  have key : refC stdA stdW n d = false → ∃ z1 z2 : Int, sgd (!(wbelow n == wbelow d)) (n.d.n / Nat.gcd n.d.n d.d.n) = z1 ∧ sgd false (d.d.n / Nat.gcd n.d.n d.d.n) = z2 ∧ z1 = (Rat.divInt (wval n) (wval d)).num ∧ z2 = ((Rat.divInt (wval n) (wval d)).den : Int) ∧ fitZ z1 = true ∧ fitZ z2 = true := fun h => by
    have h0 := hd0 h
    have hn := wval_sgd n
    have hd := wval_sgd d
    have hg : Int.gcd (wval d) (wval n) = Nat.gcd n.d.n d.d.n := by
      unfold Int.gcd
      rw [wval_abs, wval_abs, Nat.gcd_comm]
    have hg0 : Nat.gcd n.d.n d.d.n ≠ 0 := fun e => h0 (Nat.eq_zero_of_gcd_eq_zero_right e)
    have hd0' : wval d ≠ 0 := by have := wval_abs d; omega
    refine ⟨_, _, rfl, rfl, ?_, ?_, ?_, ?_⟩
    · rw [Rat.num_divInt, hg, ← sgd_div _ (Nat.gcd_dvd_left ..) hg0]
      congr 1
      have hsg : (wval d).sign = if wbelow d then -1 else 1 := by
        rw [hd]
        cases wbelow d
        · exact Int.sign_eq_one_of_pos (by show 0 < (d.d.n : Int); omega)
        · exact Int.sign_eq_neg_one_of_neg (by show -(d.d.n : Int) < 0; omega)
      rw [hsg, hn]
      cases wbelow n <;> cases wbelow d <;> simp [sgd]
    · rw [Rat.den_divInt, if_neg hd0', hg, wval_abs]; rfl
    · exact (Sm.wd n).of_le (by rw [sgd_abs, wval_abs]; exact Nat.div_le_self _ _) |>.fit (by decide)
    · exact (Sm.wd d).of_le (by rw [sgd_abs, wval_abs]; exact Nat.div_le_self _ _) |>.fit (by decide)
  have ev : ∀ w : Wd, stdM.dq (stdM.of w) (stdM.gcd (stdM.of n) (stdM.of d)) = magL (w.d.n / Nat.gcd n.d.n d.d.n) := fun w => by
    show magL (valL (magL w.d.n) / valL (magL (Nat.gcd (valL (magL n.d.n)) (valL (magL d.d.n))))) = _
    rw [magL_val, magL_val, magL_val, magL_val]
  refine ⟨fun h => ?_, mf.of n, mf.of d, fun h => ?_, fun h => ?_, fun h => ?_⟩
  · rw [ref_c] at h
    exact (new_s n d stdA rfl stdW rfl stdV rfl stdF rfl).c1 h
  · have h0 := hd0 h
    exact decide_eq_true (by show valL (magL d.d.n) ≠ 0; rw [magL_val]; exact h0)
  · obtain ⟨z1, z2, e1, e2, e3, e4, f1, f2⟩ := key h
    rw [ev n, ev d, new_q (hb h)]
    unfold ofQ
    rw [← e3, ← e4]
    have w1 := (wv_mag e1).1
    have w2 := (wv_mag e2).1
    rw [f1] at w1
    rw [f2] at w2
    exact congr (congrArg Rt.mk w1) w2
  · obtain ⟨z1, z2, e1, e2, e3, e4, f1, f2⟩ := key h
    rw [ev n, ev d, (wv_mag e1).2, (wv_mag e2).2, f1, f2]
    exact (hb h).symm
theorem ok_rnew : CallOK Tryz.prog 157 (heapSem [.v, .v] stdA (gNewF stdF)) := by
  refine callOK_heap (un := ⟨false, some [2,3,4,5,28]⟩) tok tT1OK mixed (fn := Tryz.f157) (by kernel_rfl) (by kernel_rfl) (by kernel_rfl) (by decide +kernel) ?_
  intro w Wr args bs r hg ho hWr A L k hA hL hk
  obtain ⟨F, hF⟩ : ∃ F, F = stdF := ⟨_, rfl⟩
  obtain ⟨H, hH⟩ : ∃ H, H = stdH := ⟨_, rfl⟩
  obtain ⟨M, hM⟩ : ∃ M, M = stdM := ⟨_, rfl⟩
  obtain ⟨S, hS⟩ : ∃ S, S = stdW := ⟨_, rfl⟩
  obtain ⟨V, hV⟩ : ∃ V, V = stdV := ⟨_, rfl⟩
  obtain ⟨X, hX⟩ : ∃ X, X = stdX := ⟨_, rfl⟩
  (try rw [← hF])
  (try rw [← hH])
  (try rw [← hM])
  (try rw [← hS])
  (try rw [← hV])
  (try rw [← hX])
  (try rw [← hA])
  unfold gNewF at hg
  split at hg
  rotate_left
  · cases hg
  simp only [Option.some.injEq] at hg
  subst hg
  rename_i n d
  have rn := rn_f n d A hA S hS X hX M hM F hF
  cbv
  repeat' first | (with_reducible intro hb; cbv) | with_reducible refine And.intro ?_ ?_
  all_goals first | exact rn.o1 | exact rn.o2 | exact rn.o3 (by assumption) | skip
  · have e := rn.no hb
    refine hk _ _ (Good.pure rfl fun ρ => ?_)
    subst hF
    exact tupRt e.1 e.2
  · have e := rn.e hb
    have o := rn.k hb
    refine hk _ _ (Good.pure rfl fun ρ => ?_)
    subst hF hA hS hX hM
    exact tupR e o
def tT2 (A : Alg) (S : SW) (V : SV) (X : SX) (M : SM) (F : SF) (H : SH) : List (Nat × Sem') := (157, heapSem [.v, .v] A (gNewF F)) :: ((tT1 A S V X M F H))
theorem tT2OK : COK Tryz.prog (look (tT2 stdA stdW stdV stdX stdM stdF stdH)) := COK_cons ok_rnew (tT1OK)
theorem ok_rof : CallOK Tryz.prog 106 (heapSem [.v, .v] stdA (gOfF stdA stdW stdF)) := by
  refine callOK_heap (un := ⟨false, some [0,1,4,5]⟩) tok tT2OK mixed (fn := Tryz.f106) (by kernel_rfl) (by kernel_rfl) (by kernel_rfl) (by decide +kernel) ?_
  intro w Wr args bs r hg ho hWr A L k hA hL hk
  obtain ⟨F, hF⟩ : ∃ F, F = stdF := ⟨_, rfl⟩
  obtain ⟨H, hH⟩ : ∃ H, H = stdH := ⟨_, rfl⟩
  obtain ⟨M, hM⟩ : ∃ M, M = stdM := ⟨_, rfl⟩
  obtain ⟨S, hS⟩ : ∃ S, S = stdW := ⟨_, rfl⟩
  obtain ⟨V, hV⟩ : ∃ V, V = stdV := ⟨_, rfl⟩
  obtain ⟨X, hX⟩ : ∃ X, X = stdX := ⟨_, rfl⟩
  (try rw [← hF])
  (try rw [← hH])
  (try rw [← hM])
  (try rw [← hS])
  (try rw [← hV])
  (try rw [← hX])
  (try rw [← hA])
  unfold gOfF at hg
  split at hg
  rotate_left
  · cases hg
  simp only [Option.some.injEq] at hg
  subst hg
  have o1 := (ho_cons ho).1
  have o2 := (ho_cons (ho_cons ho).2).1
  have o3 := (ho_cons (ho_cons (ho_cons ho).2).2).1
  have o4 := (ho_cons (ho_cons (ho_cons (ho_cons ho).2).2).2).1
  clear ho
  rw [← hA] at o1 o2 o3 o4
  cbv
  repeat' first | (with_reducible intro hb; cbv) | with_reducible refine And.intro ?_ ?_
  all_goals first | exact o1 | exact o2 | exact o3 | exact o4 | skip
  refine hk _ _ (Good.pure rfl fun ρ => ?_)
  subst hF hS
  exact tupR rfl rfl
def gWholeH (A : Alg) (H : SH) : List CV → List Blk → Option LR
  | [.s (.int .i64 n)], [] => some ⟨[A.cmp .leq (-9223372036854775808) n, A.cmp .lss n 9223372036854775808], .c (.g [.R (H.whole n)]), []⟩
  | _, _ => none
theorem ok_rwhole : CallOK Tryz.prog 53 (heapSem [.v] stdA (gWholeH stdA stdH)) := by
  refine callOK_heap (un := ⟨false, some [0,2]⟩) tok tT2OK mixed (fn := Tryz.f53) (by kernel_rfl) (by kernel_rfl) (by kernel_rfl) (by decide +kernel) ?_
  intro w Wr args bs r hg ho hWr A L k hA hL hk
  obtain ⟨F, hF⟩ : ∃ F, F = stdF := ⟨_, rfl⟩
  obtain ⟨H, hH⟩ : ∃ H, H = stdH := ⟨_, rfl⟩
  obtain ⟨M, hM⟩ : ∃ M, M = stdM := ⟨_, rfl⟩
  obtain ⟨S, hS⟩ : ∃ S, S = stdW := ⟨_, rfl⟩
  obtain ⟨V, hV⟩ : ∃ V, V = stdV := ⟨_, rfl⟩
  obtain ⟨X, hX⟩ : ∃ X, X = stdX := ⟨_, rfl⟩
  (try rw [← hF])
  (try rw [← hH])
  (try rw [← hM])
  (try rw [← hS])
  (try rw [← hV])
  (try rw [← hX])
  (try rw [← hA])
  unfold gWholeH at hg
  split at hg
  rotate_left
  · cases hg
  simp only [Option.some.injEq] at hg
  subst hg
  rename_i n
  have o1 := (ho_cons ho).1
  have o2 := (ho_cons (ho_cons ho).2).1
  clear ho
  have e : (⟨S.from64 n, S.from64 1⟩ : Rt) = H.whole n := by
    simp only [stdA, stdCmp, decide_eq_true_eq] at o1 o2
    subst hS hH
    exact (new_int (by show n.natAbs < 2 ^ 64; omega)).2.2
  have j1 : A.cmp .leq (-9223372036854775808) 1 = true := leq_of A hA _ _ (by omega)
  have j2 : A.cmp .lss 1 9223372036854775808 = true := lss_of A hA _ _ (by omega)
  rw [← hA] at o1 o2
  cbv
  repeat' first | (with_reducible intro hb; cbv) | with_reducible refine And.intro ?_ ?_
  all_goals first | exact o1 | exact o2 | exact j1 | exact j2 | skip
  refine hk _ _ (Good.pure rfl fun ρ => ?_)
  subst hS hH
  exact retR e
def tT3 (A : Alg) (S : SW) (V : SV) (X : SX) (M : SM) (F : SF) (H : SH) : List (Nat × Sem') := (106, heapSem [.v, .v] A (gOfF A S F)) :: (53, heapSem [.v] A (gWholeH A H)) :: ((tT2 A S V X M F H))
theorem tT3OK : COK Tryz.prog (look (tT3 stdA stdW stdV stdX stdM stdF stdH)) := COK_cons ok_rof (COK_cons ok_rwhole (tT2OK))
end Go.Eng
namespace Go.Eng
open Go.Proofs
set_option maxRecDepth 100000
set_option linter.all false
set_option exponentiation.threshold 3000
set_option maxHeartbeats 2000000
def gComK (K : SK) (F : SF) : List CV → List Blk → Option LR
  | [.s (.int .i64 a), .s (.int .i64 b)], [] => some ⟨[K.b63 a, K.b63 b], .c (.s (.int .i64 (F.com a b))), []⟩
  | _, _ => none
structure CoK (a0 b0 a b : Int) : Prop where
  a1 : 0 ≤ a
  a2 : a ≤ 9223372036854775807
  b1 : 0 ≤ b
  b2 : b ≤ 9223372036854775807
  eq : Nat.gcd a.toNat b.toNat = Nat.gcd a0.natAbs b0.natAbs
structure CoKStep (A : Alg) (a0 b0 a b : Int) : Prop where
  nx : CoK a0 b0 b (A.bin .rem .i64 a b)
  ms : (A.bin .rem .i64 a b).toNat < b.toNat
  nz : A.cmp .neq b 0 = true
theorem cok_step {a0 b0 a b : Int} (hI : CoK a0 b0 a b) (A : Alg) (hA : A = stdA) (hb : A.cmp .gtr b 0 = true) : CoKStep A a0 b0 a b := by
  subst hA
  have hb : b > 0 := of_decide_eq_true hb
  obtain ⟨a1, a2, b1, b2, heq⟩ := hI
  have e : stdA.bin .rem .i64 a b = ((a.toNat % b.toNat : Nat) : Int) := by
    show a.tmod b = _
    rw [Int.tmod_eq_emod_of_nonneg a1, Int.natCast_emod, Int.toNat_of_nonneg a1, Int.toNat_of_nonneg b1]
  have hlt := Nat.mod_lt a.toNat (show 0 < b.toNat by omega)
  refine ⟨?_, by rw [e, Int.toNat_natCast]; exact hlt, by show (b != 0) = true; rw [bne_iff_ne]; omega⟩
  rw [e]
  refine ⟨b1, b2, by omega, by omega, ?_⟩
  rw [Int.toNat_natCast, ← heq, Nat.gcd_comm b.toNat, ← Nat.gcd_rec, Nat.gcd_comm]
theorem cok_end {a0 b0 a b : Int} (hI : CoK a0 b0 a b) (A : Alg) (hA : A = stdA) (F : SF) (hF : F = stdF) (hb : A.cmp .gtr b 0 = false) : a = F.com a0 b0 := by
  subst hA hF
  have hb : ¬ b > 0 := of_decide_eq_false hb
  obtain ⟨a1, a2, b1, b2, heq⟩ := hI
  have h0 : b = 0 := by omega
  rw [h0] at heq
  show a = ((Nat.gcd a0.natAbs b0.natAbs : Nat) : Int)
  rw [← heq]
  show a = ((Nat.gcd a.toNat 0 : Nat) : Int)
  rw [Nat.gcd_zero_right]; omega
theorem mx_negK {a : Int} (h1 : -9223372036854775807 ≤ a) (h2 : a ≤ 9223372036854775807) : stdA.mx a (stdA.bin .sub .i64 0 a) = (a.natAbs : Int) := by
  have e : stdA.bin .sub .i64 0 a = -a := by show stdBin .sub .i64 0 a = -a; simp only [stdBin, IntKind.wrap_i64]; omega
  rw [e]
  show (if -a > a then -a else a) = _
  split <;> omega
theorem cok_init {a b : Int} (ha : -9223372036854775807 ≤ a ∧ a ≤ 9223372036854775807) (hb : -9223372036854775807 ≤ b ∧ b ≤ 9223372036854775807) (A : Alg) (hA : A = stdA) : CoK a b (A.mx a (A.bin .sub .i64 0 a)) (A.mx b (A.bin .sub .i64 0 b)) := by
  subst hA
  rw [mx_negK ha.1 ha.2, mx_negK hb.1 hb.2]
  exact ⟨by omega, by omega, by omega, by omega, by rw [Int.toNat_natCast, Int.toNat_natCast]⟩
theorem ok_rcom : CallOK Tryz.prog 181 (heapSem [.v, .v] stdA (gComK stdK stdF)) := by
  refine callOK_heap (un := ⟨false, some [0,1,4,14]⟩) tok tT3OK mixed (fn := Tryz.f181) (by kernel_rfl) (by kernel_rfl) (by kernel_rfl) (by decide +kernel) ?_
  intro w Wr args bs r hg ho hWr A L k hA hL hk
  obtain ⟨F, hF⟩ : ∃ F, F = stdF := ⟨_, rfl⟩
  obtain ⟨H, hH⟩ : ∃ H, H = stdH := ⟨_, rfl⟩
  obtain ⟨K, hK⟩ : ∃ K, K = stdK := ⟨_, rfl⟩
  obtain ⟨M, hM⟩ : ∃ M, M = stdM := ⟨_, rfl⟩
  obtain ⟨S, hS⟩ : ∃ S, S = stdW := ⟨_, rfl⟩
  obtain ⟨V, hV⟩ : ∃ V, V = stdV := ⟨_, rfl⟩
  obtain ⟨X, hX⟩ : ∃ X, X = stdX := ⟨_, rfl⟩
  (try rw [← hF])
  (try rw [← hH])
  (try rw [← hK])
  (try rw [← hM])
  (try rw [← hS])
  (try rw [← hV])
  (try rw [← hX])
  (try rw [← hA])
  unfold gComK at hg
  split at hg
  rotate_left
  · cases hg
  simp only [Option.some.injEq] at hg
  subst hg
  rename_i a b
  have ha := b63_iff.1 ((ho_cons ho).1)
  have hb := b63_iff.1 ((ho_cons (ho_cons ho).2).1)
  clear ho
  have i0 := cok_init ha hb A hA
  cbv
  refine hL _ _ _ (loop_rule (un := ⟨false, some [0, 1, 4, 14]⟩) tok tT3OK mixed (fun p : Int × Int => ⟨[(1, ⟨[], .c (.s (.int .i64 p.2))⟩), (0, ⟨[], .c (.s (.int .i64 p.1))⟩)], [], 0⟩)
    (fun p => CoK a b p.1 p.2) (fun p => p.2.toNat) (_, _) i0 ?_ (fun _ i hi => by have := hWr i hi; simp at this) ?_)
  · exact ⟨⟨⟨rfl, rfl, fun _ => rfl⟩, ⟨rfl, rfl, fun _ => rfl⟩, trivial⟩, trivial, rfl, rfl⟩
  clear i0
  rintro ⟨x, y⟩ hI A2 L2 k2 hA2 hL2 hnext hexit hret
  have st := fun hb => cok_step hI A2 hA2 hb
  have en := fun hb => cok_end hI A hA F hF (by rw [hA, ← hA2]; exact hb)
  clear hI
  rw [← hA2, ← hS, ← hV, ← hX, ← hM, ← hF, ← hH]
  cbv
  repeat' first | (with_reducible intro hb; cbv) | with_reducible refine And.intro ?_ ?_
  all_goals first | exact (st hb).nz | skip
  · refine hnext _ (_, _) (st hb).nx (st hb).ms ?_
    exact ⟨⟨⟨rfl, rfl, fun _ => rfl⟩, ⟨rfl, rfl, fun _ => rfl⟩, trivial⟩, trivial, rfl, rfl⟩
  · apply hexit
    have em := en hb
    clear hexit hnext hret st en hb
    cbv
    refine hk _ _ (Good.pure rfl fun ρ => ?_)
    subst hF
    exact ret1 em
def tT5 (A : Alg) (S : SW) (V : SV) (X : SX) (M : SM) (F : SF) (H : SH) (K : SK) : List (Nat × Sem') := (181, heapSem [.v, .v] A (gComK K F)) :: ((tT3 A S V X M F H))
theorem tT5OK : COK Tryz.prog (look (tT5 stdA stdW stdV stdX stdM stdF stdH stdK)) := COK_cons ok_rcom (tT3OK)
def gQuick (A : Alg) (F : SF) (K : SK) : List CV → List Blk → Option LR
  | [.s (.int .i64 n), .s (.int .i64 d)], [] => some ⟨[K.b63 n, K.b63 d, A.cmp .gtr d 0], .c (.g [.R (F.made n d)]), []⟩
  | _, _ => none
structure QkF (A : Alg) (S : SW) (F : SF) (n d : Int) : Prop where
  o3 : A.cmp .neq (F.com n d) 0 = true
  q1 : A.cmp .leq (-9223372036854775808) (A.bin .quo .i64 n (F.com n d)) = true
  q2 : A.cmp .lss (A.bin .quo .i64 n (F.com n d)) 9223372036854775808 = true
  q3 : A.cmp .leq (-9223372036854775808) (A.bin .quo .i64 d (F.com n d)) = true
  q4 : A.cmp .lss (A.bin .quo .i64 d (F.com n d)) 9223372036854775808 = true
  eq : (⟨S.from64 (A.bin .quo .i64 n (F.com n d)), S.from64 (A.bin .quo .i64 d (F.com n d))⟩ : Rt) = F.made n d
theorem qk_f {n d : Int} (hn : -9223372036854775807 ≤ n ∧ n ≤ 9223372036854775807) (hd : d ≤ 9223372036854775807) (h0 : 0 < d) (A : Alg) (hA : A = stdA) (S : SW) (hS : S = stdW) (F : SF) (hF : F = stdF) : QkF A S F n d := by
  subst hA hS hF
  obtain ⟨G, hG⟩ : ∃ G : Nat, G = Nat.gcd n.natAbs d.natAbs := ⟨_, rfl⟩
  have ec : stdF.com n d = (G : Int) := by rw [hG]; rfl
  have hG0 : 0 < G := by rw [hG]; exact Nat.gcd_pos_of_pos_right _ (by omega)
  have dn : (G : Int) ∣ n := by rw [hG]; exact Int.ofNat_dvd_left.2 (Nat.gcd_dvd_left _ _)
  have dd : (G : Int) ∣ d := by rw [hG]; exact Int.ofNat_dvd_left.2 (Nat.gcd_dvd_right _ _)
  have quo : ∀ z : Int, -9223372036854775807 ≤ z ∧ z ≤ 9223372036854775807 → (G : Int) ∣ z → stdA.bin .quo .i64 z (G : Int) = z / (G : Int) ∧ -9223372036854775807 ≤ z / (G : Int) ∧ z / (G : Int) ≤ 9223372036854775807 := fun z hz hdv => by
    obtain ⟨c, rfl⟩ := hdv
    have h1 : ((G : Int) * c) / (G : Int) = c := Int.mul_ediv_cancel_left _ (by omega)
    have h2 : ((G : Int) * c).tdiv (G : Int) = c := Int.mul_tdiv_cancel_left _ (by omega)
    have hb : c.natAbs ≤ ((G : Int) * c).natAbs := by rw [Int.natAbs_mul]; exact Nat.le_mul_of_pos_left _ (by omega)
    have hc : -9223372036854775807 ≤ c ∧ c ≤ 9223372036854775807 := by omega
    rw [h1]
    refine ⟨?_, hc⟩
    show IntKind.i64.wrap (((G : Int) * c).tdiv (G : Int)) = c
    rw [h2, IntKind.wrap_i64]; omega
  obtain ⟨qn, bn1, bn2⟩ := quo n hn dn
  obtain ⟨qd, bd1, bd2⟩ := quo d ⟨by omega, hd⟩ dd
  have h2 : (Rat.divInt n d).num = n / (G : Int) := by
    rw [Rat.num_divInt, Int.sign_eq_one_of_pos h0, Int.one_mul, Int.gcd_comm]; rw [hG]; rfl
  have h3 : ((Rat.divInt n d).den : Int) = d / (G : Int) := by
    rw [Rat.den_divInt, if_neg (by omega), Int.gcd_comm]
    show ((d.natAbs / Nat.gcd n.natAbs d.natAbs : Nat) : Int) = _
    rw [← hG, Int.natCast_ediv]
    congr 1; omega
  exact {
    o3 := by rw [ec]; show ((G : Int) != 0) = true; rw [bne_iff_ne]; omega
    q1 := by rw [ec, qn]; exact leq_of _ rfl _ _ (by omega)
    q2 := by rw [ec, qn]; exact lss_of _ rfl _ _ (by omega)
    q3 := by rw [ec, qd]; exact leq_of _ rfl _ _ (by omega)
    q4 := by rw [ec, qd]; exact lss_of _ rfl _ _ (by omega)
    eq := by
      rw [ec, qn, qd]
      show _ = ofQ (Rat.divInt n d)
      unfold ofQ
      rw [h2, h3]
      rfl }
theorem ok_rquick : CallOK Tryz.prog 126 (heapSem [.v, .v] stdA (gQuick stdA stdF stdK)) := by
  refine callOK_heap (un := ⟨false, some [0,1,4,5]⟩) tok tT5OK mixed (fn := Tryz.f126) (by kernel_rfl) (by kernel_rfl) (by kernel_rfl) (by decide +kernel) ?_
  intro w Wr args bs r hg ho hWr A L k hA hL hk
  obtain ⟨F, hF⟩ : ∃ F, F = stdF := ⟨_, rfl⟩
  obtain ⟨H, hH⟩ : ∃ H, H = stdH := ⟨_, rfl⟩
  obtain ⟨K, hK⟩ : ∃ K, K = stdK := ⟨_, rfl⟩
  obtain ⟨M, hM⟩ : ∃ M, M = stdM := ⟨_, rfl⟩
  obtain ⟨S, hS⟩ : ∃ S, S = stdW := ⟨_, rfl⟩
  obtain ⟨V, hV⟩ : ∃ V, V = stdV := ⟨_, rfl⟩
  obtain ⟨X, hX⟩ : ∃ X, X = stdX := ⟨_, rfl⟩
  (try rw [← hF])
  (try rw [← hH])
  (try rw [← hK])
  (try rw [← hM])
  (try rw [← hS])
  (try rw [← hV])
  (try rw [← hX])
  (try rw [← hA])
  unfold gQuick at hg
  split at hg
  rotate_left
  · cases hg
  simp only [Option.some.injEq] at hg
  subst hg
  rename_i n d
  have hn0 := (ho_cons ho).1
  have hd0 := (ho_cons (ho_cons ho).2).1
  have h0 : 0 < d := of_decide_eq_true (ho_cons (ho_cons (ho_cons ho).2).2).1
  have hn := b63_iff.1 hn0
  have hd := b63_iff.1 hd0
  clear ho
  rw [← hK] at hn0 hd0
  have qf := qk_f hn hd.2 h0 A hA S hS F hF
  cbv
  repeat' first | (with_reducible intro hb; cbv) | with_reducible refine And.intro ?_ ?_
  all_goals first | exact hn0 | exact hd0 | exact qf.o3 | exact qf.q1 | exact qf.q2 | exact qf.q3 | exact qf.q4 | skip
  refine hk _ _ (Good.pure rfl fun ρ => ?_)
  have e := qf.eq
  subst hF hS hA
  exact retR e
def tT6 (A : Alg) (S : SW) (V : SV) (X : SX) (M : SM) (F : SF) (H : SH) (K : SK) : List (Nat × Sem') := (126, heapSem [.v, .v] A (gQuick A F K)) :: ((tT5 A S V X M F H K))
theorem tT6OK : COK Tryz.prog (look (tT6 stdA stdW stdV stdX stdM stdF stdH stdK)) := COK_cons ok_rquick (tT5OK)
end Go.Eng
namespace Go.Eng
open Go.Proofs
set_option maxRecDepth 100000
set_option linter.all false
set_option exponentiation.threshold 3000
set_option maxHeartbeats 2000000
theorem imp_t {A : Alg} (hA : A = stdA) {b c : Bool} (h : c = true) : A.imp b c = true := by
  subst hA; subst h; show (!b || true) = true; simp
section
variable {ρ : Rho} {f : Nat → Nat}
theorem tupLLt {k : IntKind} {a b c d : Int} {x y : Bool} (h1 : a = c) (h2 : b = d) (h3 : x = y) : (XV.t [.s (.lit k a), .s (.lit k b), .s (.tt x)]).den ρ = ((XV.t [.s (.int k c), .s (.int k d), .s (.bool y)]).ren f).den ρ := by subst h1 h2 h3; rfl
theorem tupIIt {k : IntKind} {a b c d : Int} {x y : Bool} (h1 : a = c) (h2 : b = d) (h3 : x = y) : (XV.t [.s (.int k a), .s (.int k b), .s (.tt x)]).den ρ = ((XV.t [.s (.int k c), .s (.int k d), .s (.bool y)]).ren f).den ρ := by subst h1 h2 h3; rfl
end
def gTiny (K : SK) : List CV → List Blk → Option LR
  | [.g [.R r]], [] => some ⟨[], .t [.s (.int .i64 (K.tyN r)), .s (.int .i64 (K.tyD r)), .s (.bool (K.tyOK r))], []⟩
  | _, _ => none
structure TyI (r : Rt) (k : Int) : Prop where
  k0 : 1 ≤ k
  k1 : k ≤ 32
  z : ∀ i, 1 ≤ i → i < k.toNat → r.N.d.dig i = 0 ∧ r.D.d.dig i = 0
theorem high_small (d : Dg) : (∀ i, 1 ≤ i → i < 32 → d.dig i = 0) ↔ d.n < 2 ^ 32 := by
  constructor
  · intro h2
    have key : ∀ k, k ≤ 31 → d.n % 2 ^ (32 * (k + 1)) < 2 ^ 32 := fun k => by
      induction k with
      | zero => intro _; rw [show 32 * (0 + 1) = 32 by rfl]; exact Nat.mod_lt _ (by decide)
      | succ k ih =>
        intro hk
        rw [low_dig d (k + 1), h2 (k + 1) (by omega) (by omega), Nat.mul_zero, Nat.add_zero]
        exact ih (by omega)
    have := key 31 (Nat.le_refl _)
    rwa [show 32 * (31 + 1) = 32 * 32 by rfl, ext_low] at this
  · intro h i hi _
    unfold Dg.dig
    rw [Nat.div_eq_of_lt (Nat.lt_of_lt_of_le h (Nat.pow_le_pow_right (by decide) (by omega)))]
structure TyStep (A : Alg) (K : SK) (r : Rt) (k : Int) : Prop where
  o1 : A.cmp .leq 0 k = true
  o2 : A.cmp .lss k 32 = true
  no : A.ite (A.cmp .neq (A.dig r.N.d k) 0) true (A.cmp .neq (A.dig r.D.d k) 0) = true → 0 = K.tyN r ∧ 0 = K.tyD r ∧ false = K.tyOK r
  nx : A.ite (A.cmp .neq (A.dig r.N.d k) 0) true (A.cmp .neq (A.dig r.D.d k) 0) = false → TyI r (k + 1)
  ad : A.bin .add .i64 k 1 = k + 1
  ms : (32 - (k + 1)).toNat < (32 - k).toNat
theorem ty_no {r : Rt} (h : tyB r = false) : 0 = stdK.tyN r ∧ 0 = stdK.tyD r ∧ false = stdK.tyOK r := by
  have e1 : stdK.tyN r = 0 := by show (if tyB r = true then _ else _) = _; rw [h]; rfl
  have e2 : stdK.tyD r = 0 := by show (if tyB r = true then _ else _) = _; rw [h]; rfl
  exact ⟨e1.symm, e2.symm, h.symm⟩
theorem ty_step {r : Rt} {k : Int} (hI : TyI r k) (A : Alg) (hA : A = stdA) (K : SK) (hK : K = stdK) (hb : A.cmp .lss k 32 = true) : TyStep A K r k := by
  subst hA hK
  have hb : k < 32 := of_decide_eq_true hb
  obtain ⟨k0, k1, hz⟩ := hI
  have hdig : ∀ d : Dg, stdA.dig d k = ((d.dig k.toNat : Nat) : Int) := fun d => rfl
  have hc : ∀ d : Dg, stdA.cmp .neq (stdA.dig d k) 0 = decide (d.dig k.toNat ≠ 0) := fun d => by
    show (((d.dig k.toNat : Nat) : Int) != 0) = _
    by_cases h : d.dig k.toNat = 0
    · rw [h]; rfl
    · rw [decide_eq_true h, bne_iff_ne]; omega
  have nz : ∀ d : Dg, d.dig k.toNat ≠ 0 → ¬ d.n < 2 ^ 31 := fun d h h' => h ((high_small d).2 (Nat.lt_trans h' (by decide)) _ (by omega) (by omega))
  exact {
    o1 := leq_of _ rfl _ _ (by omega)
    o2 := lss_of _ rfl _ _ hb
    no := fun h => by
      rw [hc, hc] at h
      refine ty_no ?_
      unfold tyB
      have h : (if decide (r.N.d.dig k.toNat ≠ 0) = true then true else decide (r.D.d.dig k.toNat ≠ 0)) = true := h
      split at h
      · rename_i h1
        rw [decide_eq_false (nz _ (of_decide_eq_true h1))]; rfl
      · rw [decide_eq_false (nz _ (of_decide_eq_true h))]
        cases decide (r.N.d.n < 2 ^ 31) <;> rfl
    nx := fun h => by
      rw [hc, hc] at h
      have h : (if decide (r.N.d.dig k.toNat ≠ 0) = true then true else decide (r.D.d.dig k.toNat ≠ 0)) = false := h
      refine ⟨by omega, by omega, fun i i1 i2 => ?_⟩
      by_cases hi : i = k.toNat
      · subst hi
        split at h
        · cases h
        · rename_i h1
          rw [decide_eq_true_eq, Decidable.not_not] at h1
          have := of_decide_eq_false h
          exact ⟨h1, Decidable.not_not.1 this⟩
      · exact hz i i1 (by omega)
    ad := by show stdBin .add .i64 k 1 = k + 1; simp only [stdBin, IntKind.wrap_i64]; omega
    ms := by omega }
def tyC (A : Alg) (F : SF) (r : Rt) : Bool := A.ite (A.ite (A.ite (A.ite (A.ite (A.cmp .geq (A.wrap .i64 (A.dig r.N.d 0)) 2147483648) true (A.cmp .geq (A.wrap .i64 (A.dig r.D.d 0)) 2147483648)) true (A.cmp .eql (A.wrap .i64 (A.dig r.D.d 0)) 0)) true r.D.neg) true (A.ite r.N.neg (A.cmp .eql (A.wrap .i64 (A.dig r.N.d 0)) 0) false)) true (A.cmp .neq (F.com (A.wrap .i64 (A.dig r.N.d 0)) (A.wrap .i64 (A.dig r.D.d 0))) 1)
structure TyEnd (A : Alg) (F : SF) (K : SK) (r : Rt) : Prop where
  o1 : K.b63 (A.wrap .i64 (A.dig r.N.d 0)) = true
  o2 : K.b63 (A.wrap .i64 (A.dig r.D.d 0)) = true
  no : tyC A F r = true → 0 = K.tyN r ∧ 0 = K.tyD r ∧ false = K.tyOK r
  e1 : tyC A F r = false → r.N.neg = true → A.bin .sub .i64 0 (A.wrap .i64 (A.dig r.N.d 0)) = K.tyN r
  e0 : tyC A F r = false → r.N.neg = false → A.wrap .i64 (A.dig r.N.d 0) = K.tyN r
  d : tyC A F r = false → A.wrap .i64 (A.dig r.D.d 0) = K.tyD r
  ok : tyC A F r = false → true = K.tyOK r
theorem ty_cond {r : Rt} (h1 : r.N.d.n < 2 ^ 32) (h2 : r.D.d.n < 2 ^ 32) : tyC stdA stdF r = !tyB r := by
  have e : ∀ d : Dg, d.n < 2 ^ 32 → stdA.wrap .i64 (stdA.dig d 0) = ((d.n : Nat) : Int) := fun d h => by
    have hd : d.dig 0 = d.n := by
      unfold Dg.dig
      simp only [Nat.mul_zero, Nat.pow_zero, Nat.div_one]
      exact Nat.mod_eq_of_lt h
    show IntKind.i64.wrap ((d.dig (0 : Int).toNat : Nat) : Int) = _
    rw [show (0 : Int).toNat = 0 from rfl, hd, IntKind.wrap_i64]
    omega
  unfold tyC
  rw [e _ h1, e _ h2]
  show (if (if (if (if (if decide (((r.N.d.n : Nat) : Int) ≥ 2147483648) = true then true else decide (((r.D.d.n : Nat) : Int) ≥ 2147483648)) = true then true else (((r.D.d.n : Nat) : Int) == 0)) = true then true else r.D.neg) = true then true else (if r.N.neg = true then (((r.N.d.n : Nat) : Int) == 0) else false)) = true then true else (((Nat.gcd ((r.N.d.n : Nat) : Int).natAbs ((r.D.d.n : Nat) : Int).natAbs : Nat) : Int) != 1)) = !tyB r
  have g1 : decide (((r.N.d.n : Nat) : Int) ≥ 2147483648) = !decide (r.N.d.n < 2 ^ 31) := by
    by_cases h : r.N.d.n < 2 ^ 31
    · rw [decide_eq_true h, decide_eq_false (by omega)]; rfl
    · rw [decide_eq_false h, decide_eq_true (by omega)]; rfl
  have g2 : decide (((r.D.d.n : Nat) : Int) ≥ 2147483648) = !decide (r.D.d.n < 2 ^ 31) := by
    by_cases h : r.D.d.n < 2 ^ 31
    · rw [decide_eq_true h, decide_eq_false (by omega)]; rfl
    · rw [decide_eq_false h, decide_eq_true (by omega)]; rfl
  have g3 : (((r.D.d.n : Nat) : Int) == 0) = !decide (r.D.d.n ≠ 0) := by
    by_cases h : r.D.d.n = 0
    · rw [h]; rfl
    · rw [decide_eq_true h]; show (((r.D.d.n : Nat) : Int) == 0) = false; rw [beq_eq_false_iff_ne]; omega
  have g4 : (((r.N.d.n : Nat) : Int) == 0) = !decide (r.N.d.n ≠ 0) := by
    by_cases h : r.N.d.n = 0
    · rw [h]; rfl
    · rw [decide_eq_true h]; show (((r.N.d.n : Nat) : Int) == 0) = false; rw [beq_eq_false_iff_ne]; omega
  have g5 : (((Nat.gcd ((r.N.d.n : Nat) : Int).natAbs ((r.D.d.n : Nat) : Int).natAbs : Nat) : Int) != 1) = !decide (Int.gcd (wval r.N) (wval r.D) = 1) := by
    have : Int.gcd (wval r.N) (wval r.D) = Nat.gcd r.N.d.n r.D.d.n := by unfold Int.gcd; rw [wval_abs, wval_abs]
    rw [this, Int.natAbs_natCast, Int.natAbs_natCast]
    by_cases h : Nat.gcd r.N.d.n r.D.d.n = 1
    · rw [h]; rfl
    · rw [decide_eq_false h]; show (((Nat.gcd r.N.d.n r.D.d.n : Nat) : Int) != 1) = true; rw [bne_iff_ne]; omega
  rw [g1, g2, g3, g4, g5]
  unfold tyB isRt isWd
  have gp : decide (0 < wval r.D) = (!r.D.neg && decide (r.D.d.n ≠ 0)) := by
    unfold wval
    cases r.D.neg
    · show decide (0 < ((r.D.d.n : Nat) : Int)) = (true && decide (r.D.d.n ≠ 0))
      rw [Bool.true_and, decide_eq_decide]; omega
    · show decide (0 < -((r.D.d.n : Nat) : Int)) = (false && _)
      rw [Bool.false_and]; exact decide_eq_false (by omega)
  rw [gp]
  cases decide (r.N.d.n < 2 ^ 31) <;> cases decide (r.D.d.n < 2 ^ 31) <;> cases decide (r.D.d.n ≠ 0) <;> cases decide (r.N.d.n ≠ 0) <;> cases r.N.neg <;> cases r.D.neg <;> cases decide (Int.gcd (wval r.N) (wval r.D) = 1) <;> rfl
theorem ty_end {r : Rt} {k : Int} (hI : TyI r k) (A : Alg) (hA : A = stdA) (F : SF) (hF : F = stdF) (K : SK) (hK : K = stdK) (hk : A.cmp .lss k 32 = false) : TyEnd A F K r := by
  subst hA hF hK
  have hk : ¬ k < 32 := of_decide_eq_false hk
  obtain ⟨k0, k1, hz⟩ := hI
  have h1 : r.N.d.n < 2 ^ 32 := (high_small _).1 fun i i1 i2 => (hz i i1 (by omega)).1
  have h2 : r.D.d.n < 2 ^ 32 := (high_small _).1 fun i i1 i2 => (hz i i1 (by omega)).2
  have e : ∀ d : Dg, d.n < 2 ^ 32 → stdA.wrap .i64 (stdA.dig d 0) = ((d.n : Nat) : Int) := fun d h => by
    have hd : d.dig 0 = d.n := by
      unfold Dg.dig
      simp only [Nat.mul_zero, Nat.pow_zero, Nat.div_one]
      exact Nat.mod_eq_of_lt h
    show IntKind.i64.wrap ((d.dig (0 : Int).toNat : Nat) : Int) = _
    rw [show (0 : Int).toNat = 0 from rfl, hd, IntKind.wrap_i64]
    omega
  have hv : tyC stdA stdF r = false → stdK.tyN r = wval r.N ∧ stdK.tyD r = wval r.D ∧ tyB r = true ∧ r.D.neg = false := fun h => by
    rw [ty_cond h1 h2, Bool.not_eq_false'] at h
    obtain ⟨s, n, d⟩ := ty_is h
    refine ⟨n, d, h, ?_⟩
    have hp := s.is.p
    cases hn : r.D.neg
    · rfl
    · unfold wval at hp
      rw [hn] at hp
      have hp : 0 < -((r.D.d.n : Nat) : Int) := hp
      omega
  refine ⟨by rw [e _ h1, b63_iff]; omega, by rw [e _ h2, b63_iff]; omega, fun h => ?_, fun h hn => ?_, fun h hn => ?_, fun h => ?_, fun h => (hv h).2.2.1.symm⟩
  · rw [ty_cond h1 h2, Bool.not_eq_true'] at h
    exact ty_no h
  · rw [(hv h).1, e _ h1]
    unfold wval
    rw [hn]
    show stdBin .sub .i64 0 _ = -((r.N.d.n : Nat) : Int)
    simp only [stdBin, IntKind.wrap_i64]; omega
  · rw [(hv h).1, e _ h1]
    unfold wval
    rw [hn]; rfl
  · rw [(hv h).2.1, e _ h2]
    unfold wval
    rw [(hv h).2.2.2]; rfl
theorem ok_rtiny : CallOK Tryz.prog 180 (heapSem [.v] stdA (gTiny stdK)) := by
  refine callOK_heap (un := ⟨false, some [1,2,3,4,5,6,7,9,25,65,68]⟩) tok tT6OK mixed (fn := Tryz.f180) (by kernel_rfl) (by kernel_rfl) (by kernel_rfl) (by decide +kernel) ?_
  intro w Wr args bs r hg ho hWr A L k hA hL hk
  obtain ⟨F, hF⟩ : ∃ F, F = stdF := ⟨_, rfl⟩
  obtain ⟨H, hH⟩ : ∃ H, H = stdH := ⟨_, rfl⟩
  obtain ⟨K, hK⟩ : ∃ K, K = stdK := ⟨_, rfl⟩
  obtain ⟨M, hM⟩ : ∃ M, M = stdM := ⟨_, rfl⟩
  obtain ⟨S, hS⟩ : ∃ S, S = stdW := ⟨_, rfl⟩
  obtain ⟨V, hV⟩ : ∃ V, V = stdV := ⟨_, rfl⟩
  obtain ⟨X, hX⟩ : ∃ X, X = stdX := ⟨_, rfl⟩
  (try rw [← hF])
  (try rw [← hH])
  (try rw [← hK])
  (try rw [← hM])
  (try rw [← hS])
  (try rw [← hV])
  (try rw [← hX])
  (try rw [← hA])
  unfold gTiny at hg
  split at hg
  rotate_left
  · cases hg
  simp only [Option.some.injEq] at hg
  subst hg
  rename_i r
  have i0 : TyI r 1 := ⟨Int.le_refl 1, by decide, fun i h1 h2 => by simp at h2; omega⟩
  cbv
  refine hL _ _ _ (loop_rule (un := ⟨false, some [1, 2, 3, 4, 5, 6, 7, 9, 25, 65, 68]⟩) tok tT6OK mixed (fun k : Int => ⟨[(5, ⟨[], .c (.s (.int .i64 k))⟩), (4, ⟨[], .c (.s (.tt false))⟩), (3, ⟨[], .c (.s (.lit .i64 0))⟩), (2, ⟨[], .c (.s (.lit .i64 0))⟩), (1, ⟨[], .c (.s (.hp 0 0))⟩)], [(0, .fix true [.R r])], 1⟩)
    (fun k => TyI r k) (fun k => (32 - k).toNat) 1 i0 ?_ (fun _ i hi => by have := hWr i hi; simp at this) ?_)
  · exact ⟨⟨⟨rfl, rfl, fun _ => rfl⟩, ⟨rfl, rfl, fun _ => rfl⟩, ⟨rfl, rfl, fun _ => rfl⟩, ⟨rfl, rfl, fun _ => rfl⟩, ⟨rfl, rfl, fun _ => rfl⟩, trivial⟩, ⟨leRefl rfl, trivial⟩, rfl, rfl⟩
  clear i0
  rintro k hI A2 L2 k2 hA2 hL2 hnext hexit hret
  have st := fun hb : A2.cmp .lss k 32 = true => ty_step hI A2 hA2 K hK hb
  have en := fun hb : A2.cmp .lss k 32 = false => ty_end hI A hA F hF K hK (by rw [hA, ← hA2]; exact hb)
  clear hI
  rw [← hA2, ← hS, ← hV, ← hX, ← hM, ← hF, ← hH, ← hK]
  cbv
  repeat' first | (with_reducible intro hb; cbv) | with_reducible refine And.intro ?_ ?_
  all_goals first | exact (st hb).o1 | exact (st hb).o2 | exact imp_t hA2 (st hb).o1 | exact imp_t hA2 (st hb).o2 | skip
  · rename_i hb0
    have e := (st hb0).no hb
    apply hret
    clear hexit hnext hret st en
    cbv
    refine hk _ _ (Good.pure rfl fun ρ => ?_)
    subst hK
    exact tupLLt e.1 e.2.1 e.2.2
  · rename_i hb0
    refine hnext _ (k + 1) ((st hb0).nx hb) (st hb0).ms ?_
    have ead := (st hb0).ad
    subst hA2
    exact ⟨⟨⟨rfl, rfl, leI ead⟩, ⟨rfl, rfl, fun _ => rfl⟩, ⟨rfl, rfl, fun _ => rfl⟩, ⟨rfl, rfl, fun _ => rfl⟩, ⟨rfl, rfl, fun _ => rfl⟩, trivial⟩, ⟨leRefl rfl, trivial⟩, rfl, rfl⟩
  · apply hexit
    have em := en hb
    clear hexit hnext hret st en hb
    cbv
    repeat' first | (with_reducible intro hb; cbv) | with_reducible refine And.intro ?_ ?_
    all_goals first | exact imp_t hA em.o1 | exact imp_t hA em.o2 | skip
    · have e := em.no hb
      refine hk _ _ (Good.pure rfl fun ρ => ?_)
      subst hK
      exact tupLLt e.1 e.2.1 e.2.2
    · rename_i h0
      have e1 := em.e1 h0 hb
      have e2 := em.d h0
      have e3 := em.ok h0
      refine hk _ _ (Good.pure rfl fun ρ => ?_)
      subst hK
      exact tupIIt e1 e2 e3
    · rename_i h0
      have e1 := em.e0 h0 hb
      have e2 := em.d h0
      have e3 := em.ok h0
      refine hk _ _ (Good.pure rfl fun ρ => ?_)
      subst hK
      exact tupIIt e1 e2 e3
def tT7 (A : Alg) (S : SW) (V : SV) (X : SX) (M : SM) (F : SF) (H : SH) (K : SK) : List (Nat × Sem') := (180, heapSem [.v] A (gTiny K)) :: ((tT6 A S V X M F H K))
theorem tT7OK : COK Tryz.prog (look (tT7 stdA stdW stdV stdX stdM stdF stdH stdK)) := COK_cons ok_rtiny (tT6OK)
def gTinies (A : Alg) (K : SK) : List CV → List Blk → Option LR
  | [.g [.R a], .g [.R b]], [] => some ⟨[], .t [.s (.int .i64 (K.tyN a)), .s (.int .i64 (K.tyD a)), .s (.int .i64 (K.tyN b)), .s (.int .i64 (K.tyD b)), .s (.bool (A.ite (K.tyOK a) (K.tyOK b) false))], []⟩
  | _, _ => none
theorem ok_rtinies : CallOK Tryz.prog 125 (heapSem [.v, .v] stdA (gTinies stdA stdK)) := by
  refine callOK_heap (un := ⟨false, some [2,3,4,5,6,7,8,9,10,11,12,13,14]⟩) tok tT7OK mixed (fn := Tryz.f125) (by kernel_rfl) (by kernel_rfl) (by kernel_rfl) (by decide +kernel) ?_
  intro w Wr args bs r hg ho hWr A L k hA hL hk
  obtain ⟨F, hF⟩ : ∃ F, F = stdF := ⟨_, rfl⟩
  obtain ⟨H, hH⟩ : ∃ H, H = stdH := ⟨_, rfl⟩
  obtain ⟨K, hK⟩ : ∃ K, K = stdK := ⟨_, rfl⟩
  obtain ⟨M, hM⟩ : ∃ M, M = stdM := ⟨_, rfl⟩
  obtain ⟨S, hS⟩ : ∃ S, S = stdW := ⟨_, rfl⟩
  obtain ⟨V, hV⟩ : ∃ V, V = stdV := ⟨_, rfl⟩
  obtain ⟨X, hX⟩ : ∃ X, X = stdX := ⟨_, rfl⟩
  (try rw [← hF])
  (try rw [← hH])
  (try rw [← hK])
  (try rw [← hM])
  (try rw [← hS])
  (try rw [← hV])
  (try rw [← hX])
  (try rw [← hA])
  unfold gTinies at hg
  split at hg
  rotate_left
  · cases hg
  simp only [Option.some.injEq] at hg
  subst hg
  rename_i a b
  cbv
  refine hk _ _ (Good.pure rfl fun ρ => ?_)
  subst hA hK
  rfl
end Go.Eng
namespace Go.Eng
open Go.Proofs
set_option maxRecDepth 100000
set_option linter.all false
set_option exponentiation.threshold 3000
set_option maxHeartbeats 2000000
theorem rsg_f (r : Rt) (A : Alg) (hA : A = stdA) (M : SM) (hM : M = stdM) (F : SF) (hF : F = stdF) :
    (A.cmp .eql (A.len (M.of r.N)) 0 = true → 0 = F.sign r) ∧ (A.cmp .eql (A.len (M.of r.N)) 0 = false → (r.N.neg = true → -1 = F.sign r) ∧ (r.N.neg = false → 1 = F.sign r)) := by
  have ez := (mfs A hA stdX rfl M hM).ez r.N
  subst hA hM hF
  have ha := wval_abs r.N
  have hs : stdF.sign r = sgn (wval r.N) 0 := rfl
  constructor
  · intro h
    rw [ez, decide_eq_true_eq] at h
    have : wval r.N = 0 := by omega
    rw [hs, this]; rfl
  · intro h
    rw [ez, decide_eq_false_iff_not] at h
    constructor
    · intro hn
      have : wval r.N = -(r.N.d.n : Int) := by unfold wval; rw [hn]; rfl
      rw [hs]
      unfold sgn
      rw [if_pos (by omega)]
    · intro hn
      have : wval r.N = (r.N.d.n : Int) := by unfold wval; rw [hn]; rfl
      rw [hs]
      unfold sgn
      rw [if_neg (by omega), if_pos (by omega)]
def tI1 (A : Alg) (M : SM) : List (Nat × Sem') := (120, heapSemF [.v] A (gMof M)) :: ([])
theorem tI1OK : COK Tryz.prog (look (tI1 stdA stdM)) := COK_cons ok_mof (COK_nil)
theorem ok_rsign : CallOK Tryz.prog 67 (heapSem [.v] stdA (gSignR stdF)) := by
  refine callOK_heap (un := ⟨false, some [1,2,3,9]⟩) tok tI1OK mixed (fn := Tryz.f67) (by kernel_rfl) (by kernel_rfl) (by kernel_rfl) (by decide +kernel) ?_
  intro w Wr args bs r hg ho hWr A L k hA hL hk
  obtain ⟨F, hF⟩ : ∃ F, F = stdF := ⟨_, rfl⟩
  obtain ⟨M, hM⟩ : ∃ M, M = stdM := ⟨_, rfl⟩
  (try rw [← hF])
  (try rw [← hM])
  (try rw [← hA])
  unfold gSignR at hg
  split at hg
  rotate_left
  · cases hg
  simp only [Option.some.injEq] at hg
  subst hg
  rename_i r
  have sf := rsg_f r A hA M hM F hF
  cbv
  repeat' first | (with_reducible intro hb; cbv) | with_reducible refine And.intro ?_ ?_
  · have e := sf.1 hb
    refine hk _ _ (Good.pure rfl fun ρ => ?_)
    subst hF
    exact retL e
  · rename_i h0
    have e := (sf.2 h0).1 hb
    refine hk _ _ (Good.pure rfl fun ρ => ?_)
    subst hF
    exact retL e
  · rename_i h0
    have e := (sf.2 h0).2 hb
    refine hk _ _ (Good.pure rfl fun ρ => ?_)
    subst hF
    exact retL e
def isC (A : Alg) (S : SW) (r : Rt) : Bool := A.ite (A.ite (A.ite (S.isW r.N) (S.isW r.D) false) (A.not r.D.neg) false) (A.cmp .gtr (S.bits r.D) 0) false
structure IsrF (A : Alg) (S : SW) (M : SM) (F : SF) (K : SK) (r : Rt) : Prop where
  t : K.tyOK r = true → true = F.isR r
  o1 : M.ok (M.of r.N) = true
  o2 : M.ok (M.of r.D) = true
  o3 : M.ok (M.gcd (M.of r.N) (M.of r.D)) = true
  o4 : M.ok [1] = true
  y : isC A S r = true → A.ite true (A.cmp .eql (M.cmp (M.gcd (M.of r.N) (M.of r.D)) [1]) 0) false = F.isR r
  n : isC A S r = false → false = F.isR r
theorem isr_f (r : Rt) (A : Alg) (hA : A = stdA) (S : SW) (hS : S = stdW) (M : SM) (hM : M = stdM) (F : SF) (hF : F = stdF) (K : SK) (hK : K = stdK) : IsrF A S M F K r := by
  have mf := mfs A hA stdX rfl M hM
  subst hA hS hM hF hK
  have hb0 : decide (bitsW r.D > 0) = decide (r.D.d.n ≠ 0) := by
    have : (bitsW r.D == 0) = decide (r.D.d.n = 0) := lenOf_zero r.D.d.n
    have hnn : 0 ≤ bitsW r.D := Int.natCast_nonneg _
    by_cases h : r.D.d.n = 0
    · rw [h] at this ⊢
      rw [show decide ((0 : Nat) = 0) = true from rfl, beq_iff_eq] at this
      rw [decide_eq_false (by omega), decide_eq_false (by omega)]
    · rw [decide_eq_false h, beq_eq_false_iff_ne] at this
      rw [decide_eq_true (by omega), decide_eq_true h]
  have hc : isC stdA stdW r = (isWd r.N && (isWd r.D && decide (0 < wval r.D))) := by
    unfold isC
    show (if (if (if isWd r.N = true then isWd r.D else false) = true then !r.D.neg else false) = true then decide (bitsW r.D > 0) else false) = _
    rw [hb0]
    have gp : decide (0 < wval r.D) = (!r.D.neg && decide (r.D.d.n ≠ 0)) := by
      unfold wval
      cases r.D.neg
      · show decide (0 < ((r.D.d.n : Nat) : Int)) = (true && decide (r.D.d.n ≠ 0))
        rw [Bool.true_and, decide_eq_decide]; omega
      · show decide (0 < -((r.D.d.n : Nat) : Int)) = (false && _)
        rw [Bool.false_and]; exact decide_eq_false (by omega)
    rw [gp]
    cases isWd r.N <;> cases isWd r.D <;> cases r.D.neg <;> cases decide (r.D.d.n ≠ 0) <;> rfl
  have he : stdF.isR r = (isWd r.N && (isWd r.D && (decide (0 < wval r.D) && decide (Int.gcd (wval r.N) (wval r.D) = 1)))) := rfl
  refine ⟨fun h => ?_, mf.of _, mf.of _, mf.gcd _ _, by decide +kernel, fun h => ?_, fun h => ?_⟩
  · have h : tyB r = true := h
    exact (isRt_iff.2 (ty_is h).1.is).symm
  · rw [hc] at h
    simp only [Bool.and_eq_true] at h
    rw [he, h.1, h.2.1, h.2.2]
    show (sgn (valL (magL (Nat.gcd (valL (magL r.N.d.n)) (valL (magL r.D.d.n))))) (valL [1]) == 0) = decide (Int.gcd (wval r.N) (wval r.D) = 1)
    rw [magL_val, magL_val, magL_val]
    have : Int.gcd (wval r.N) (wval r.D) = Nat.gcd r.N.d.n r.D.d.n := by unfold Int.gcd; rw [wval_abs, wval_abs]
    rw [this]
    have h1 : ((valL [1] : Nat) : Int) = 1 := rfl
    rw [h1]
    unfold sgn
    by_cases hg : Nat.gcd r.N.d.n r.D.d.n = 1
    · rw [hg]; rfl
    · rw [decide_eq_false hg]
      split
      · rfl
      · split
        · rfl
        · omega
  · rw [hc] at h
    rw [he]
    revert h
    cases isWd r.N <;> cases isWd r.D <;> cases decide (0 < wval r.D) <;> intro h <;> first | rfl | cases h
def tI2 (A : Alg) (S : SW) (M : SM) (F : SF) (K : SK) : List (Nat × Sem') := (180, heapSem [.v] A (gTiny K)) :: (185, heapSem [.v] A (gIs S)) :: (131, heapSem [.v] A (gBits S)) :: (120, heapSemF [.v] A (gMof M)) :: (182, heapSemF [.s (.int .u32), .s (.int .u32)] A (gMgcd A M)) :: (186, heapSem [.s (.int .u32), .s (.int .u32)] A (gMcmp A M)) :: ([])
theorem tI2OK : COK Tryz.prog (look (tI2 stdA stdW stdM stdF stdK)) := COK_cons ok_rtiny (COK_cons ok_mis (COK_cons ok_mbitsW (COK_cons ok_mof (COK_cons ok_mgcd (COK_cons ok_mcmp (COK_nil))))))
theorem ok_risr : CallOK Tryz.prog 132 (heapSem [.v] stdA (gIsR stdF)) := by
  refine callOK_heap (un := ⟨false, some [1000033,1,2,5,12]⟩) tok tI2OK mixed (fn := Tryz.f132) (by kernel_rfl) (by kernel_rfl) (by kernel_rfl) (by decide +kernel) ?_
  intro w Wr args bs r hg ho hWr A L k hA hL hk
  obtain ⟨F, hF⟩ : ∃ F, F = stdF := ⟨_, rfl⟩
  obtain ⟨K, hK⟩ : ∃ K, K = stdK := ⟨_, rfl⟩
  obtain ⟨M, hM⟩ : ∃ M, M = stdM := ⟨_, rfl⟩
  obtain ⟨S, hS⟩ : ∃ S, S = stdW := ⟨_, rfl⟩
  (try rw [← hF])
  (try rw [← hK])
  (try rw [← hM])
  (try rw [← hS])
  (try rw [← hA])
  unfold gIsR at hg
  split at hg
  rotate_left
  · cases hg
  simp only [Option.some.injEq] at hg
  subst hg
  rename_i r
  have sf := isr_f r A hA S hS M hM F hF K hK
  cbv
  repeat' first | (with_reducible intro hb; cbv) | with_reducible refine And.intro ?_ ?_
  · have e := sf.t hb
    refine hk _ _ (Good.pure rfl fun ρ => ?_)
    subst hF
    exact retT e
  · have b1 : ∀ b c, b = c → A.beq b c = true := fun b c h => by subst hA h; show (b == b) = true; cases b <;> rfl
    refine by_bool (isC A S r) (fun hc => Or.inl ?_) (fun hc => Or.inr ?_)
    · repeat' first | (with_reducible intro hb; cbv) | with_reducible refine And.intro ?_ ?_
      all_goals first | exact b1 _ _ hc | exact sf.o1 | exact sf.o2 | exact sf.o3 | exact sf.o4 | skip
      refine hk _ _ (Good.pure rfl fun ρ => ?_)
      have e := sf.y hc
      subst hA hF
      exact retB e
    · repeat' first | (with_reducible intro hb; cbv) | with_reducible refine And.intro ?_ ?_
      all_goals first | exact b1 _ _ hc | skip
      refine hk _ _ (Good.pure rfl fun ρ => ?_)
      have e := sf.n hc
      subst hA hF
      exact retT e
end Go.Eng
namespace Go.Eng
open Go.Proofs
set_option maxRecDepth 100000
set_option linter.all false
set_option exponentiation.threshold 3000
set_option maxHeartbeats 2000000
section
variable {ρ : Rho} {f : Nat → Nat}
theorem tupLtt {k : IntKind} {a c : Int} {b d : Bool} (h1 : a = c) (h2 : b = d) : (XV.t [.s (.lit k a), .s (.tt b)]).den ρ = ((XV.t [.s (.int k c), .s (.bool d)]).ren f).den ρ := by subst h1 h2; rfl
end
def tI3 (A : Alg) (S : SW) (F : SF) : List (Nat × Sem') := (131, heapSem [.v] A (gBits S)) :: (132, heapSem [.v] A (gIsR F)) :: ([])
theorem tI3OK : COK Tryz.prog (look (tI3 stdA stdW stdF)) := COK_cons ok_mbitsW (COK_cons ok_risr (COK_nil))
theorem ok_rsafe : CallOK Tryz.prog 74 (heapSem [.v, .v] stdA (gSafeR stdF)) := by
  refine callOK_heap (un := ⟨false, some [1,2,4]⟩) tok tI3OK mixed (fn := Tryz.f74) (by kernel_rfl) (by kernel_rfl) (by kernel_rfl) (by decide +kernel) ?_
  intro w Wr args bs r hg ho hWr A L k hA hL hk
  obtain ⟨F, hF⟩ : ∃ F, F = stdF := ⟨_, rfl⟩
  obtain ⟨S, hS⟩ : ∃ S, S = stdW := ⟨_, rfl⟩
  (try rw [← hF])
  (try rw [← hS])
  (try rw [← hA])
  unfold gSafeR at hg
  split at hg
  rotate_left
  · cases hg
  simp only [Option.some.injEq] at hg
  subst hg
  rename_i r n
  have f : A.ite (A.ite (A.cmp .leq (S.bits r.N) n) (A.cmp .leq (S.bits r.D) n) false) (F.isR r) false = F.safe r n := by
    subst hA hS hF
    show (if (if decide (bitsW r.N ≤ n) = true then decide (bitsW r.D ≤ n) else false) = true then isRt r else false) = safeR r n
    unfold safeR
    cases decide (bitsW r.N ≤ n) <;> cases decide (bitsW r.D ≤ n) <;> rfl
  cbv
  refine hk _ _ (Good.pure rfl fun ρ => ?_)
  subst hF
  exact retB f
def gTwoR (F : SF) : List CV → List Blk → Option LR
  | [.g [.R a], .g [.R b]], [] => some ⟨[], .c (.s (.bool (F.two a b))), []⟩
  | _, _ => none
def tI4 (A : Alg) (F : SF) : List (Nat × Sem') := (74, heapSem [.v, .v] A (gSafeR F)) :: ([])
theorem tI4OK : COK Tryz.prog (look (tI4 stdA stdF)) := COK_cons ok_rsafe (COK_nil)
theorem ok_rtwo : CallOK Tryz.prog 127 (heapSem [.v, .v] stdA (gTwoR stdF)) := by
  refine callOK_heap (un := ⟨false, some [2,3,4]⟩) tok tI4OK mixed (fn := Tryz.f127) (by kernel_rfl) (by kernel_rfl) (by kernel_rfl) (by decide +kernel) ?_
  intro w Wr args bs r hg ho hWr A L k hA hL hk
  obtain ⟨F, hF⟩ : ∃ F, F = stdF := ⟨_, rfl⟩
  (try rw [← hF])
  (try rw [← hA])
  unfold gTwoR at hg
  split at hg
  rotate_left
  · cases hg
  simp only [Option.some.injEq] at hg
  subst hg
  rename_i a b
  have f : A.ite (F.safe a 500) (F.safe b 500) false = F.two a b := by
    subst hA hF
    show (if safeR a 500 = true then safeR b 500 else false) = (safeR a 500 && safeR b 500)
    cases safeR a 500 <;> rfl
  cbv
  refine hk _ _ (Good.pure rfl fun ρ => ?_)
  subst hF
  exact retB f
structure RcF (A : Alg) (S : SW) (V : SV) (F : SF) (K : SK) (a b : Rt) : Prop where
  s : A.ite (K.tyOK a) (K.tyOK b) false = true → true = F.two a b
  lt : A.ite (K.tyOK a) (K.tyOK b) false = true → A.cmp .lss (A.bin .mul .i64 (K.tyN a) (K.tyD b)) (A.bin .mul .i64 (K.tyN b) (K.tyD a)) = true → -1 = F.cmp a b
  gt : A.ite (K.tyOK a) (K.tyOK b) false = true → A.cmp .lss (A.bin .mul .i64 (K.tyN a) (K.tyD b)) (A.bin .mul .i64 (K.tyN b) (K.tyD a)) = false → A.cmp .gtr (A.bin .mul .i64 (K.tyN a) (K.tyD b)) (A.bin .mul .i64 (K.tyN b) (K.tyD a)) = true → 1 = F.cmp a b
  eq : A.ite (K.tyOK a) (K.tyOK b) false = true → A.cmp .lss (A.bin .mul .i64 (K.tyN a) (K.tyD b)) (A.bin .mul .i64 (K.tyN b) (K.tyD a)) = false → A.cmp .gtr (A.bin .mul .i64 (K.tyN a) (K.tyD b)) (A.bin .mul .i64 (K.tyN b) (K.tyD a)) = false → 0 = F.cmp a b
  no : A.not (F.two a b) = true → 0 = F.cmp a b ∧ false = F.two a b
  ok : A.not (F.two a b) = false → S.cmp (V.mul a.N b.D) (V.mul b.N a.D) = F.cmp a b ∧ true = F.two a b
theorem cmp_two {a b : Rt} (h : twoB a b = true) : stdF.cmp a b = sgnQ (rval a) (rval b) := if_pos h
theorem rc_f (a b : Rt) (A : Alg) (hA : A = stdA) (S : SW) (hS : S = stdW) (V : SV) (hV : V = stdV) (F : SF) (hF : F = stdF) (K : SK) (hK : K = stdK) : RcF A S V F K a b := by
  subst hA hS hV hF hK
  have sm : stdA.ite (stdK.tyOK a) (stdK.tyOK b) false = true → twoB a b = true ∧ SmallK stdA a b := fun h => by
    have h : (if tyB a = true then tyB b else false) = true := h
    cases ha : tyB a
    · rw [ha] at h; cases h
    · rw [ha] at h
      exact ⟨ty_two ha h, small_k ha h _ rfl⟩
  refine ⟨fun h => (sm h).1.symm, fun h h1 => ?_, fun h h1 h2 => ?_, fun h h1 h2 => ?_, fun h => ?_, fun h => ?_⟩
  · obtain ⟨t, k⟩ := sm h
    rw [k.lt, decide_eq_true_eq] at h1
    rw [cmp_two t]; unfold sgnQ; rw [if_pos h1]
  · obtain ⟨t, k⟩ := sm h
    rw [k.lt, decide_eq_false_iff_not] at h1
    rw [k.gt, decide_eq_true_eq] at h2
    rw [cmp_two t]; unfold sgnQ; rw [if_neg h1, if_pos h2]
  · obtain ⟨t, k⟩ := sm h
    rw [k.lt, decide_eq_false_iff_not] at h1
    rw [k.gt, decide_eq_false_iff_not] at h2
    rw [cmp_two t]; unfold sgnQ; rw [if_neg h1, if_neg h2]
  · have h : (!twoB a b) = true := h
    rw [Bool.not_eq_true'] at h
    refine ⟨?_, h.symm⟩
    show 0 = if twoB a b = true then _ else 0
    rw [h]; rfl
  · have h : (!twoB a b) = false := h
    rw [Bool.not_eq_false'] at h
    refine ⟨?_, h.symm⟩
    rw [cmp_two h]
    exact (big_f h).cmp
def tI5 (A : Alg) (S : SW) (V : SV) (F : SF) (K : SK) : List (Nat × Sem') := (125, heapSem [.v, .v] A (gTinies A K)) :: (127, heapSem [.v, .v] A (gTwoR F)) :: (166, heapSem [.v, .v] A (gMul V)) :: (167, heapSem [.v, .v] A (gWCmp S)) :: ([])
theorem tI5OK : COK Tryz.prog (look (tI5 stdA stdW stdV stdF stdK)) := COK_cons ok_rtinies (COK_cons ok_rtwo (COK_cons ok_mmuW (COK_cons ok_mcmpW (COK_nil))))
theorem ok_rcmpR : CallOK Tryz.prog 113 (heapSem [.v, .v] stdA (gCmpF stdF)) := by
  refine callOK_heap (un := ⟨false, some [2,3,4,5,6,7,8,9,10,11,12,13,14,24,25,33,44]⟩) tok tI5OK mixed (fn := Tryz.f113) (by kernel_rfl) (by kernel_rfl) (by kernel_rfl) (by decide +kernel) ?_
  intro w Wr args bs r hg ho hWr A L k hA hL hk
  obtain ⟨F, hF⟩ : ∃ F, F = stdF := ⟨_, rfl⟩
  obtain ⟨K, hK⟩ : ∃ K, K = stdK := ⟨_, rfl⟩
  obtain ⟨S, hS⟩ : ∃ S, S = stdW := ⟨_, rfl⟩
  obtain ⟨V, hV⟩ : ∃ V, V = stdV := ⟨_, rfl⟩
  (try rw [← hF])
  (try rw [← hK])
  (try rw [← hS])
  (try rw [← hV])
  (try rw [← hA])
  unfold gCmpF at hg
  split at hg
  rotate_left
  · cases hg
  simp only [Option.some.injEq] at hg
  subst hg
  rename_i a b
  have rc := rc_f a b A hA S hS V hV F hF K hK
  cbv
  repeat' first | (with_reducible intro hb; cbv) | with_reducible refine And.intro ?_ ?_
  · rename_i h0
    have e := rc.lt h0 hb
    have e2 := rc.s h0
    refine hk _ _ (Good.pure rfl fun ρ => ?_)
    subst hF
    exact tupLtt e e2
  · rename_i h0 h1
    have e := rc.gt h0 h1 hb
    have e2 := rc.s h0
    refine hk _ _ (Good.pure rfl fun ρ => ?_)
    subst hF
    exact tupLtt e e2
  · rename_i h0 h1
    have e := rc.eq h0 h1 hb
    have e2 := rc.s h0
    refine hk _ _ (Good.pure rfl fun ρ => ?_)
    subst hF
    exact tupLtt e e2
  · have e := rc.no hb
    refine hk _ _ (Good.pure rfl fun ρ => ?_)
    subst hF
    exact tupLtt e.1 e.2
  · have e := rc.ok hb
    refine hk _ _ (Good.pure rfl fun ρ => ?_)
    subst hF hS hV
    exact tupIbt e.1 e.2
end Go.Eng
namespace Go.Eng
open Go.Proofs
set_option maxRecDepth 100000
set_option linter.all false
set_option exponentiation.threshold 3000
set_option maxHeartbeats 2000000
theorem rat_q {s : Bool} {n d : Nat} {z : Int} {q : Rat} (hz : sgd s n = z) (hd : d ≠ 0) (hq : Rat.divInt z (d : Int) = q) (hf : FitQ q) :
    (⟨stdX.wV s (stdM.dq (magL n) (stdM.gcd (magL n) (magL d))), stdX.wV false (stdM.dq (magL d) (stdM.gcd (magL n) (magL d)))⟩ : Rt) = ofQ q ∧ stdA.ite (stdX.wOK (stdM.dq (magL n) (stdM.gcd (magL n) (magL d)))) (stdX.wOK (stdM.dq (magL d) (stdM.gcd (magL n) (magL d)))) false = true := by
  have ev : ∀ w : Nat, stdM.dq (magL w) (stdM.gcd (magL n) (magL d)) = magL (w / Nat.gcd n d) := fun w => by
    show magL (valL (magL w) / valL (magL (Nat.gcd (valL (magL n)) (valL (magL d))))) = _
    rw [magL_val, magL_val, magL_val, magL_val]
  have hg0 : Nat.gcd n d ≠ 0 := fun e => hd (Nat.eq_zero_of_gcd_eq_zero_right e)
  have hg : Int.gcd (d : Int) z = Nat.gcd n d := by
    unfold Int.gcd
    rw [← hz, sgd_abs, Int.natAbs_natCast, Nat.gcd_comm]
  have e1 : sgd s (n / Nat.gcd n d) = q.num := by
    rw [← hq, Rat.num_divInt, hg, Int.sign_eq_one_of_pos (by omega), Int.one_mul, ← hz, sgd_div _ (Nat.gcd_dvd_left ..) hg0]
  have e2 : sgd false (d / Nat.gcd n d) = (q.den : Int) := by
    rw [← hq, Rat.den_divInt, if_neg (by omega), hg, Int.natAbs_natCast]; rfl
  have w1 := wv_mag e1
  have w2 := wv_mag e2
  rw [hf.1] at w1
  rw [hf.2] at w2
  rw [ev, ev]
  constructor
  · exact congr (congrArg Rt.mk w1.1) w2.1
  · rw [w1.2, w2.2]; rfl
theorem rt_pos {r : Rt} (h : IsRt r) : wval r.D = ((r.D.d.n : Nat) : Int) ∧ r.D.d.n ≠ 0 := by
  have hp := h.p
  have ha := wval_abs r.D
  exact ⟨by omega, by omega⟩
theorem mof_val (w : Wd) : valL (stdM.of w) = w.d.n := magL_val _
theorem mag_prod (x y : Wd) : stdM.mul (stdM.of x) (stdM.of y) = magL (x.d.n * y.d.n) := by
  show magL (valL (stdM.of x) * valL (stdM.of y)) = _
  rw [mof_val, mof_val]
theorem wd_lt (w : Wd) : w.d.n < 2 ^ 1024 := w.d.lt
theorem mag_prod_ok (x y : Wd) : Mag (magL (x.d.n * y.d.n)) := Mag.lt (k := 2048) (by
  have := Nat.mul_lt_mul'' (wd_lt x) (wd_lt y)
  rw [← Nat.pow_add] at this
  exact this) (by decide)
theorem sgd_mul (s t : Bool) (a b : Nat) : sgd (!(s == t)) (a * b) = sgd s a * sgd t b := by cases s <;> cases t <;> simp [sgd, Int.neg_mul, Int.mul_neg]
theorem fit_add {a b : Rt} (h : twoB a b = true) : FitQ (rval a + rval b) := by
  obtain ⟨ha, hb⟩ := two_safe h
  exact ((Cal.of ha).add (Cal.of hb) (by decide)).2.sm.fit (by decide)
theorem fit_sub {a b : Rt} (h : twoB a b = true) : FitQ (rval a - rval b) := by
  obtain ⟨ha, hb⟩ := two_safe h
  exact ((Cal.of ha).sub (Cal.of hb) (by decide)).2.sm.fit (by decide)
theorem fit_mul {a b : Rt} (h : twoB a b = true) : FitQ (rval a * rval b) := by
  obtain ⟨ha, hb⟩ := two_safe h
  exact ((Cal.of ha).mul (Cal.of hb) (by decide)).2.sm.fit (by decide)
theorem fit_div {a b : Rt} (h : twoB a b = true) (h0 : rval b ≠ 0) : FitQ (rval a / rval b) := by
  obtain ⟨ha, hb⟩ := two_safe h
  exact ((Cal.of ha).div (Cal.of hb) (by decide) h0).2.sm.fit (by decide)
def gPlusK (F : SF) (K : SK) : List CV → List Blk → Option LR
  | [.g [.R a], .g [.R b], .s (.bool l)], [] => some ⟨[], .t [.g [.R (K.plus l a b)], .s (.bool (F.two a b))], []⟩
  | _, _ => none
structure SumK (A : Alg) (S : SW) (X : SX) (M : SM) (F : SF) (K : SK) (a b : Rt) (l : Bool) (S' D : List Int) (s : Bool) : Prop where
  o1 : M.ok S' = true
  o2 : M.ok D = true
  o3 : M.nz D = true
  eq : (⟨X.wV s (M.dq S' (M.gcd S' D)), X.wV false (M.dq D (M.gcd S' D))⟩ : Rt) = K.plus l a b
  ok : A.ite (X.wOK (M.dq S' (M.gcd S' D))) (X.wOK (M.dq D (M.gcd S' D))) false = F.two a b
structure PlF (A : Alg) (S : SW) (X : SX) (M : SM) (F : SF) (K : SK) (a b : Rt) (l : Bool) : Prop where
  s : A.ite (K.tyOK a) (K.tyOK b) false = true → SmallK stdA a b ∧ true = F.two a b
  s1 : A.ite (K.tyOK a) (K.tyOK b) false = true → l = true → F.made (A.bin .add .i64 (A.bin .mul .i64 (K.tyN a) (K.tyD b)) (A.bin .mul .i64 (A.bin .sub .i64 0 (K.tyN b)) (K.tyD a))) (A.bin .mul .i64 (K.tyD a) (K.tyD b)) = K.plus l a b
  s0 : A.ite (K.tyOK a) (K.tyOK b) false = true → l = false → F.made (A.bin .add .i64 (A.bin .mul .i64 (K.tyN a) (K.tyD b)) (A.bin .mul .i64 (K.tyN b) (K.tyD a))) (A.bin .mul .i64 (K.tyD a) (K.tyD b)) = K.plus l a b
  no : A.not (F.two a b) = true → zeroR = K.plus l a b ∧ false = F.two a b
  of : ∀ w, M.ok (M.of w) = true
  mu : ∀ x y, M.ok (M.mul (M.of x) (M.of y)) = true
  ok : A.not (F.two a b) = false → SumK A S X M F K a b l (M.sumM (S.below a.N) (M.mul (M.of a.N) (M.of b.D)) (A.not (A.beq (S.below b.N) l)) (M.mul (M.of b.N) (M.of a.D))) (M.mul (M.of a.D) (M.of b.D)) (M.sumS (S.below a.N) (M.mul (M.of a.N) (M.of b.D)) (A.not (A.beq (S.below b.N) l)) (M.mul (M.of b.N) (M.of a.D)))
theorem plus_val (l : Bool) {a b : Rt} (h : twoB a b = true) : stdK.plus l a b = ofQ (if l then rval a - rval b else rval a + rval b) := by
  show (if l = true then stdF.sub a b else stdF.add a b) = _
  cases l
  · exact val_t h _
  · exact val_t h _
theorem pl_f (a b : Rt) (l : Bool) (A : Alg) (hA : A = stdA) (S : SW) (hS : S = stdW) (X : SX) (hX : X = stdX) (M : SM) (hM : M = stdM) (F : SF) (hF : F = stdF) (K : SK) (hK : K = stdK) : PlF A S X M F K a b l := by
  have mf := mfs A hA X hX M hM
  subst hA hS hX hM hF hK
  have sm : stdA.ite (stdK.tyOK a) (stdK.tyOK b) false = true → twoB a b = true ∧ SmallK stdA a b := fun h => by
    have h : (if tyB a = true then tyB b else false) = true := h
    cases ha : tyB a
    · rw [ha] at h; cases h
    · rw [ha] at h
      exact ⟨ty_two ha h, small_k ha h _ rfl⟩
  refine ⟨fun h => ⟨(sm h).2, (sm h).1.symm⟩, fun h hl => ?_, fun h hl => ?_, fun h => ?_, mf.of, mf.mul, fun h => ?_⟩
  · rw [plus_val l (sm h).1, hl]; exact (sm h).2.sub
  · rw [plus_val l (sm h).1, hl]; exact (sm h).2.add
  · have h : (!twoB a b) = true := h
    rw [Bool.not_eq_true'] at h
    refine ⟨?_, h.symm⟩
    show zeroR = if l = true then (if twoB a b = true then _ else zeroR) else (if twoB a b = true then _ else zeroR)
    rw [h]; cases l <;> rfl
  · have h : (!twoB a b) = false := h
    rw [Bool.not_eq_false'] at h
    obtain ⟨ha, hb⟩ := two_safe h
    obtain ⟨da, na⟩ := rt_pos ha.is
    obtain ⟨db, nb⟩ := rt_pos hb.is
    have hbl : stdA.not (stdA.beq (stdW.below b.N) l) = !(wbelow b.N == l) := rfl
    rw [hbl, mag_prod, mag_prod, mag_prod]
    have eS : ∀ s t : Bool, stdM.sumS s (magL (a.N.d.n * b.D.d.n)) t (magL (b.N.d.n * a.D.d.n)) = if s = t then s else if b.N.d.n * a.D.d.n ≤ a.N.d.n * b.D.d.n then s else t := fun s t => by
      show (if s = t then s else if valL (magL (b.N.d.n * a.D.d.n)) ≤ valL (magL (a.N.d.n * b.D.d.n)) then s else t) = _
      rw [magL_val, magL_val]
    have eM : ∀ s t : Bool, stdM.sumM s (magL (a.N.d.n * b.D.d.n)) t (magL (b.N.d.n * a.D.d.n)) = magL (if s = t then a.N.d.n * b.D.d.n + b.N.d.n * a.D.d.n else if b.N.d.n * a.D.d.n ≤ a.N.d.n * b.D.d.n then a.N.d.n * b.D.d.n - b.N.d.n * a.D.d.n else b.N.d.n * a.D.d.n - a.N.d.n * b.D.d.n) := fun s t => by
      show (if s = t then magL (valL (magL (a.N.d.n * b.D.d.n)) + valL (magL (b.N.d.n * a.D.d.n))) else if valL (magL (b.N.d.n * a.D.d.n)) ≤ valL (magL (a.N.d.n * b.D.d.n)) then magL (valL (magL (a.N.d.n * b.D.d.n)) - valL (magL (b.N.d.n * a.D.d.n))) else magL (valL (magL (b.N.d.n * a.D.d.n)) - valL (magL (a.N.d.n * b.D.d.n)))) = _
      rw [magL_val, magL_val]
      split
      · rfl
      · split <;> rfl
    have hsum : ∀ s t : Bool, sgd s (a.N.d.n * b.D.d.n) + sgd t (b.N.d.n * a.D.d.n) = sgd (stdM.sumS s (magL (a.N.d.n * b.D.d.n)) t (magL (b.N.d.n * a.D.d.n))) (if s = t then a.N.d.n * b.D.d.n + b.N.d.n * a.D.d.n else if b.N.d.n * a.D.d.n ≤ a.N.d.n * b.D.d.n then a.N.d.n * b.D.d.n - b.N.d.n * a.D.d.n else b.N.d.n * a.D.d.n - a.N.d.n * b.D.d.n) := fun s t => by rw [eS]; exact add_abs
    have hs := hsum (wbelow a.N) (!(wbelow b.N == l))
    have p1 : sgd (wbelow a.N) (a.N.d.n * b.D.d.n) = wval a.N * wval b.D := by
      rw [wval_sgd a.N, db]
      cases wbelow a.N <;> simp [sgd, Int.neg_mul]
    have p2 : sgd (!(wbelow b.N == l)) (b.N.d.n * a.D.d.n) = if l then -(wval b.N * wval a.D) else wval b.N * wval a.D := by
      rw [wval_sgd b.N, da]
      cases wbelow b.N <;> cases l <;> simp [sgd, Int.neg_mul]
    rw [p1, p2] at hs
    have hq : Rat.divInt (wval a.N * wval b.D + if l then -(wval b.N * wval a.D) else wval b.N * wval a.D) ((a.D.d.n * b.D.d.n : Nat) : Int) = if l then rval a - rval b else rval a + rval b := by
      rw [Int.natCast_mul, ← da, ← db]
      cases l
      · exact rval_add ha.is hb.is
      · show Rat.divInt (wval a.N * wval b.D + -(wval b.N * wval a.D)) _ = rval a - rval b
        rw [← Int.sub_eq_add_neg]
        exact rval_sub ha.is hb.is
    have hf : FitQ (if l then rval a - rval b else rval a + rval b) := by
      cases l
      · exact fit_add h
      · exact fit_sub h
    have hn : a.D.d.n * b.D.d.n ≠ 0 := Nat.mul_ne_zero na nb
    obtain ⟨r1, r2⟩ := rat_q hs.symm hn hq hf
    rw [eM]
    refine ⟨isMag_iff.2 ?_, isMag_iff.2 (mag_prod_ok _ _), decide_eq_true (by rw [magL_val]; exact hn), ?_, ?_⟩
    · refine Mag.lt (k := 2049) ?_ (by decide)
      have q1 := Nat.mul_lt_mul'' (wd_lt a.N) (wd_lt b.D)
      have q2 := Nat.mul_lt_mul'' (wd_lt b.N) (wd_lt a.D)
      rw [← Nat.pow_add] at q1 q2
      have e : 2 ^ 2049 = 2 ^ (1024 + 1024) + 2 ^ (1024 + 1024) := by rw [show 2049 = 1024 + 1024 + 1 by rfl, Nat.pow_succ, Nat.mul_two]
      rw [e]
      generalize 2 ^ (1024 + 1024) = P at *
      split
      · omega
      · split <;> omega
    · rw [plus_val l h]; exact r1
    · exact r2.trans h.symm
def tI6 (A : Alg) (S : SW) (X : SX) (M : SM) (F : SF) (K : SK) : List (Nat × Sem') := (125, heapSem [.v, .v] A (gTinies A K)) :: (126, heapSem [.v, .v] A (gQuick A F K)) :: (127, heapSem [.v, .v] A (gTwoR F)) :: (129, heapSem [.v] A (gBelow S)) :: (120, heapSemF [.v] A (gMof M)) :: (130, heapSemF [.s (.int .u32), .s (.int .u32)] A (gMmul A M)) :: (198, heapSemF [.v, .s (.int .u32), .v, .s (.int .u32)] A (gMsum M)) :: (128, heapSem [.v, .s (.int .u32), .s (.int .u32)] A (gRat A X M)) :: ([])
theorem tI6OK : COK Tryz.prog (look (tI6 stdA stdW stdX stdM stdF stdK)) := COK_cons ok_rtinies (COK_cons ok_rquick (COK_cons ok_rtwo (COK_cons ok_mneg (COK_cons ok_mof (COK_cons ok_mmul (COK_cons ok_msum (COK_cons ok_rrat (COK_nil))))))))
theorem ok_rplus : CallOK Tryz.prog 169 (heapSem [.v, .v, .v] stdA (gPlusK stdF stdK)) := by
  refine callOK_heap (un := ⟨false, some [2,3,4,6,7,8,9,10,11,12,13,14,24,25,42]⟩) tok tI6OK mixed (fn := Tryz.f169) (by kernel_rfl) (by kernel_rfl) (by kernel_rfl) (by decide +kernel) ?_
  intro w Wr args bs r hg ho hWr A L k hA hL hk
  obtain ⟨F, hF⟩ : ∃ F, F = stdF := ⟨_, rfl⟩
  obtain ⟨K, hK⟩ : ∃ K, K = stdK := ⟨_, rfl⟩
  obtain ⟨M, hM⟩ : ∃ M, M = stdM := ⟨_, rfl⟩
  obtain ⟨S, hS⟩ : ∃ S, S = stdW := ⟨_, rfl⟩
  obtain ⟨X, hX⟩ : ∃ X, X = stdX := ⟨_, rfl⟩
  (try rw [← hF])
  (try rw [← hK])
  (try rw [← hM])
  (try rw [← hS])
  (try rw [← hX])
  (try rw [← hA])
  unfold gPlusK at hg
  split at hg
  rotate_left
  · cases hg
  simp only [Option.some.injEq] at hg
  subst hg
  rename_i a b l
  have pl := pl_f a b l A hA S hS X hX M hM F hF K hK
  cbv
  repeat' first | (with_reducible intro hb; cbv) | with_reducible refine And.intro ?_ ?_
  all_goals first | (with_reducible exact pl.of _) | (with_reducible exact pl.mu _ _) | (with_reducible exact (pl.ok (by assumption)).o1) | (with_reducible exact (pl.ok (by assumption)).o2) | (with_reducible exact (pl.ok (by assumption)).o3) | skip
  · rename_i h0; have e := (pl.s h0).1.o4; subst hA hK; exact e
  · rename_i h0; have e := (pl.s h0).1.o2; subst hA hK; exact e
  · rename_i h0; have e := (pl.s h0).1.o3; subst hA hK; exact e
  · rename_i h0
    have e := pl.s1 h0 hb
    have e2 := (pl.s h0).2
    refine hk _ _ (Good.pure rfl fun ρ => ?_)
    subst hF hA hK
    exact tupRt e e2
  · rename_i h0; have e := (pl.s h0).1.o1; subst hA hK; exact e
  · rename_i h0; have e := (pl.s h0).1.o2; subst hA hK; exact e
  · rename_i h0; have e := (pl.s h0).1.o3; subst hA hK; exact e
  · rename_i h0
    have e := pl.s0 h0 hb
    have e2 := (pl.s h0).2
    refine hk _ _ (Good.pure rfl fun ρ => ?_)
    subst hF hA hK
    exact tupRt e e2
  · have e := pl.no hb
    refine hk _ _ (Good.pure rfl fun ρ => ?_)
    subst hF hK
    exact tupRt e.1 e.2
  · have e := pl.ok hb
    refine hk _ _ (Good.pure rfl fun ρ => ?_)
    subst hA hS hX hM hF hK
    exact tupR e.eq e.ok
end Go.Eng
namespace Go.Eng
open Go.Proofs
set_option maxRecDepth 100000
set_option linter.all false
set_option exponentiation.threshold 3000
set_option maxHeartbeats 2000000
def tI7 (A : Alg) (F : SF) (K : SK) : List (Nat × Sem') := (169, heapSem [.v, .v, .v] A (gPlusK F K)) :: ([])
theorem tI7OK : COK Tryz.prog (look (tI7 stdA stdF stdK)) := COK_cons ok_rplus (COK_nil)
theorem ok_radd : CallOK Tryz.prog 119 (heapSem [.v, .v] stdA (gAddF stdF)) := by
  refine callOK_heap (un := ⟨false, some [2,3,4,5]⟩) tok tI7OK mixed (fn := Tryz.f119) (by kernel_rfl) (by kernel_rfl) (by kernel_rfl) (by decide +kernel) ?_
  intro w Wr args bs r hg ho hWr A L k hA hL hk
  obtain ⟨F, hF⟩ : ∃ F, F = stdF := ⟨_, rfl⟩
  obtain ⟨K, hK⟩ : ∃ K, K = stdK := ⟨_, rfl⟩
  (try rw [← hF])
  (try rw [← hK])
  (try rw [← hA])
  unfold gAddF at hg
  split at hg
  rotate_left
  · cases hg
  simp only [Option.some.injEq] at hg
  subst hg
  rename_i a b
  cbv
  refine hk _ _ (Good.pure rfl fun ρ => ?_)
  subst hF hK
  exact tupR rfl rfl
theorem ok_rsub : CallOK Tryz.prog 116 (heapSem [.v, .v] stdA (gSubF stdF)) := by
  refine callOK_heap (un := ⟨false, some [2,3,4,5]⟩) tok tI7OK mixed (fn := Tryz.f116) (by kernel_rfl) (by kernel_rfl) (by kernel_rfl) (by decide +kernel) ?_
  intro w Wr args bs r hg ho hWr A L k hA hL hk
  obtain ⟨F, hF⟩ : ∃ F, F = stdF := ⟨_, rfl⟩
  obtain ⟨K, hK⟩ : ∃ K, K = stdK := ⟨_, rfl⟩
  (try rw [← hF])
  (try rw [← hK])
  (try rw [← hA])
  unfold gSubF at hg
  split at hg
  rotate_left
  · cases hg
  simp only [Option.some.injEq] at hg
  subst hg
  rename_i a b
  cbv
  refine hk _ _ (Good.pure rfl fun ρ => ?_)
  subst hF hK
  exact tupR rfl rfl
structure ProK (A : Alg) (X : SX) (M : SM) (r : Rt) (c : Bool) (N D : List Int) (s : Bool) : Prop where
  o1 : M.ok N = true
  o2 : M.ok D = true
  o3 : M.nz D = true
  eq : (⟨X.wV s (M.dq N (M.gcd N D)), X.wV false (M.dq D (M.gcd N D))⟩ : Rt) = r
  ok : A.ite (X.wOK (M.dq N (M.gcd N D))) (X.wOK (M.dq D (M.gcd N D))) false = c
structure MuF (A : Alg) (S : SW) (X : SX) (M : SM) (F : SF) (K : SK) (a b : Rt) : Prop where
  s : A.ite (K.tyOK a) (K.tyOK b) false = true → SmallK stdA a b ∧ true = F.two a b ∧ F.made (A.bin .mul .i64 (K.tyN a) (K.tyN b)) (A.bin .mul .i64 (K.tyD a) (K.tyD b)) = F.mul a b
  no : A.not (F.two a b) = true → zeroR = F.mul a b ∧ false = F.two a b
  of : ∀ w, M.ok (M.of w) = true
  mu : ∀ x y, M.ok (M.mul (M.of x) (M.of y)) = true
  ok : A.not (F.two a b) = false → ProK A X M (F.mul a b) (F.two a b) (M.mul (M.of a.N) (M.of b.N)) (M.mul (M.of a.D) (M.of b.D)) (A.not (A.beq (S.below a.N) (S.below b.N)))
theorem mu_f (a b : Rt) (A : Alg) (hA : A = stdA) (S : SW) (hS : S = stdW) (X : SX) (hX : X = stdX) (M : SM) (hM : M = stdM) (F : SF) (hF : F = stdF) (K : SK) (hK : K = stdK) : MuF A S X M F K a b := by
  have mf := mfs A hA X hX M hM
  subst hA hS hX hM hF hK
  refine ⟨fun h => ?_, fun h => ?_, mf.of, mf.mul, fun h => ?_⟩
  · have h : (if tyB a = true then tyB b else false) = true := h
    cases ha : tyB a
    · rw [ha] at h; cases h
    · rw [ha] at h
      have t := ty_two ha h
      have k := small_k ha h _ rfl
      exact ⟨k, t.symm, k.mul.trans (val_t t _).symm⟩
  · have h : (!twoB a b) = true := h
    rw [Bool.not_eq_true'] at h
    exact ⟨val_f h _, h.symm⟩
  · have h : (!twoB a b) = false := h
    rw [Bool.not_eq_false'] at h
    obtain ⟨ha, hb⟩ := two_safe h
    obtain ⟨da, na⟩ := rt_pos ha.is
    obtain ⟨db, nb⟩ := rt_pos hb.is
    have hbl : stdA.not (stdA.beq (stdW.below a.N) (stdW.below b.N)) = !(wbelow a.N == wbelow b.N) := rfl
    rw [hbl, mag_prod, mag_prod]
    have hz : sgd (!(wbelow a.N == wbelow b.N)) (a.N.d.n * b.N.d.n) = wval a.N * wval b.N := by rw [sgd_mul, ← wval_sgd, ← wval_sgd]
    have hq : Rat.divInt (wval a.N * wval b.N) ((a.D.d.n * b.D.d.n : Nat) : Int) = rval a * rval b := by rw [Int.natCast_mul, ← da, ← db, rval_mul]
    obtain ⟨r1, r2⟩ := rat_q hz (Nat.mul_ne_zero na nb) hq (fit_mul h)
    exact ⟨isMag_iff.2 (mag_prod_ok _ _), isMag_iff.2 (mag_prod_ok _ _), decide_eq_true (by rw [magL_val]; exact Nat.mul_ne_zero na nb), r1.trans (val_t h _).symm, r2.trans h.symm⟩
def tI8 (A : Alg) (S : SW) (X : SX) (M : SM) (F : SF) (K : SK) : List (Nat × Sem') := (125, heapSem [.v, .v] A (gTinies A K)) :: (126, heapSem [.v, .v] A (gQuick A F K)) :: (127, heapSem [.v, .v] A (gTwoR F)) :: (129, heapSem [.v] A (gBelow S)) :: (120, heapSemF [.v] A (gMof M)) :: (130, heapSemF [.s (.int .u32), .s (.int .u32)] A (gMmul A M)) :: (128, heapSem [.v, .s (.int .u32), .s (.int .u32)] A (gRat A X M)) :: ([])
theorem tI8OK : COK Tryz.prog (look (tI8 stdA stdW stdX stdM stdF stdK)) := COK_cons ok_rtinies (COK_cons ok_rquick (COK_cons ok_rtwo (COK_cons ok_mneg (COK_cons ok_mof (COK_cons ok_mmul (COK_cons ok_rrat (COK_nil)))))))
theorem ok_rmul : CallOK Tryz.prog 117 (heapSem [.v, .v] stdA (gMulF stdF)) := by
  refine callOK_heap (un := ⟨false, some [2,3,4,5,6,7,8,9,10,11,20,31]⟩) tok tI8OK mixed (fn := Tryz.f117) (by kernel_rfl) (by kernel_rfl) (by kernel_rfl) (by decide +kernel) ?_
  intro w Wr args bs r hg ho hWr A L k hA hL hk
  obtain ⟨F, hF⟩ : ∃ F, F = stdF := ⟨_, rfl⟩
  obtain ⟨K, hK⟩ : ∃ K, K = stdK := ⟨_, rfl⟩
  obtain ⟨M, hM⟩ : ∃ M, M = stdM := ⟨_, rfl⟩
  obtain ⟨S, hS⟩ : ∃ S, S = stdW := ⟨_, rfl⟩
  obtain ⟨X, hX⟩ : ∃ X, X = stdX := ⟨_, rfl⟩
  (try rw [← hF])
  (try rw [← hK])
  (try rw [← hM])
  (try rw [← hS])
  (try rw [← hX])
  (try rw [← hA])
  unfold gMulF at hg
  split at hg
  rotate_left
  · cases hg
  simp only [Option.some.injEq] at hg
  subst hg
  rename_i a b
  have mu := mu_f a b A hA S hS X hX M hM F hF K hK
  cbv
  repeat' first | (with_reducible intro hb; cbv) | with_reducible refine And.intro ?_ ?_
  all_goals first | (with_reducible exact mu.of _) | (with_reducible exact mu.mu _ _) | (with_reducible exact (mu.ok (by assumption)).o1) | (with_reducible exact (mu.ok (by assumption)).o2) | (with_reducible exact (mu.ok (by assumption)).o3) | skip
  · have e := (mu.s hb).1.o5; subst hA hK; exact e
  · have e := (mu.s hb).1.o2; subst hA hK; exact e
  · have e := (mu.s hb).1.o3; subst hA hK; exact e
  · have e := (mu.s hb).2
    refine hk _ _ (Good.pure rfl fun ρ => ?_)
    subst hF hA hK
    exact tupRt e.2 e.1
  · have e := mu.no hb
    refine hk _ _ (Good.pure rfl fun ρ => ?_)
    subst hF
    exact tupRt e.1 e.2
  · have e := mu.ok hb
    refine hk _ _ (Good.pure rfl fun ρ => ?_)
    subst hA hS hX hM hF hK
    exact tupR e.eq e.ok
structure DiF (A : Alg) (S : SW) (X : SX) (M : SM) (F : SF) (K : SK) (a b : Rt) : Prop where
  s : A.ite (A.ite (K.tyOK a) (K.tyOK b) false) (A.cmp .neq (K.tyN b) 0) false = true → SmallK stdA a b ∧ true = F.divOK a b
  s1 : A.ite (A.ite (K.tyOK a) (K.tyOK b) false) (A.cmp .neq (K.tyN b) 0) false = true → A.cmp .lss (K.tyN b) 0 = true → K.b63 (A.bin .mul .i64 (A.bin .sub .i64 0 (K.tyN a)) (K.tyD b)) = true ∧ K.b63 (A.bin .mul .i64 (K.tyD a) (A.bin .sub .i64 0 (K.tyN b))) = true ∧ A.cmp .gtr (A.bin .mul .i64 (K.tyD a) (A.bin .sub .i64 0 (K.tyN b))) 0 = true ∧
    F.made (A.bin .mul .i64 (A.bin .sub .i64 0 (K.tyN a)) (K.tyD b)) (A.bin .mul .i64 (K.tyD a) (A.bin .sub .i64 0 (K.tyN b))) = F.div a b
  s0 : A.ite (A.ite (K.tyOK a) (K.tyOK b) false) (A.cmp .neq (K.tyN b) 0) false = true → A.cmp .lss (K.tyN b) 0 = false → K.b63 (A.bin .mul .i64 (K.tyN a) (K.tyD b)) = true ∧ K.b63 (A.bin .mul .i64 (K.tyD a) (K.tyN b)) = true ∧ A.cmp .gtr (A.bin .mul .i64 (K.tyD a) (K.tyN b)) 0 = true ∧
    F.made (A.bin .mul .i64 (K.tyN a) (K.tyD b)) (A.bin .mul .i64 (K.tyD a) (K.tyN b)) = F.div a b
  no : A.ite (A.not (F.two a b)) true (A.cmp .eql (F.sign b) 0) = true → zeroR = F.div a b ∧ false = F.divOK a b
  of : ∀ w, M.ok (M.of w) = true
  mu : ∀ x y, M.ok (M.mul (M.of x) (M.of y)) = true
  ok : A.ite (A.not (F.two a b)) true (A.cmp .eql (F.sign b) 0) = false → ProK A X M (F.div a b) (F.divOK a b) (M.mul (M.of a.N) (M.of b.D)) (M.mul (M.of a.D) (M.of b.N)) (A.not (A.beq (S.below a.N) (S.below b.N)))
theorem div_val {a b : Rt} {c : Bool} (h : (twoB a b && decide (rval b ≠ 0)) = c) : stdF.div a b = (if c = true then ofQ (rval a / rval b) else zeroR) ∧ stdF.divOK a b = c := by
  constructor
  · show (if (twoB a b && decide (rval b ≠ 0)) = true then _ else _) = _
    rw [h]
  · exact h
theorem sgn_zero {z : Int} : sgn z 0 = 0 ↔ z = 0 := by
  unfold sgn
  constructor
  · intro h
    split at h
    · omega
    · split at h
      · omega
      · omega
  · rintro rfl; rfl
theorem di_f (a b : Rt) (A : Alg) (hA : A = stdA) (S : SW) (hS : S = stdW) (X : SX) (hX : X = stdX) (M : SM) (hM : M = stdM) (F : SF) (hF : F = stdF) (K : SK) (hK : K = stdK) : DiF A S X M F K a b := by
  have mf := mfs A hA X hX M hM
  subst hA hS hX hM hF hK
  have sm : stdA.ite (stdA.ite (stdK.tyOK a) (stdK.tyOK b) false) (stdA.cmp .neq (stdK.tyN b) 0) false = true → SmallK stdA a b ∧ stdA.cmp .neq (stdK.tyN b) 0 = true ∧ (twoB a b && decide (rval b ≠ 0)) = true := fun h => by
    have h : (if (if tyB a = true then tyB b else false) = true then stdA.cmp .neq (stdK.tyN b) 0 else false) = true := h
    cases ha : tyB a
    · rw [ha] at h; cases h
    · cases hb : tyB b
      · rw [ha, hb] at h; cases h
      · rw [ha, hb] at h
        have h : stdA.cmp .neq (stdK.tyN b) 0 = true := h
        have k := small_k ha hb _ rfl
        have hz := k.z
        rw [h] at hz
        exact ⟨k, h, by rw [ty_two ha hb, ← hz]; rfl⟩
  have cc : stdA.ite (stdA.not (stdF.two a b)) true (stdA.cmp .eql (stdF.sign b) 0) = !(twoB a b && decide (rval b ≠ 0)) := by
    show (if (!twoB a b) = true then true else (sgn (wval b.N) 0 == 0)) = _
    cases ht : twoB a b
    · rfl
    · have hb := (two_safe ht).2
      show (sgn (wval b.N) 0 == 0) = !(true && decide (rval b ≠ 0))
      rw [Bool.true_and]
      by_cases hz : wval b.N = 0
      · rw [hz, decide_eq_false (by simp [(rval_zero hb.is).2 hz])]; rfl
      · rw [decide_eq_true (show rval b ≠ 0 from fun h => hz ((rval_zero hb.is).1 h)), beq_eq_false_iff_ne.2 fun h => hz (sgn_zero.1 h)]; rfl
  refine ⟨fun h => ⟨(sm h).1, (div_val (sm h).2.2).2.symm⟩, fun h hl => ?_, fun h hl => ?_, fun h => ?_, mf.of, mf.mul, fun h => ?_⟩
  · obtain ⟨k, h1, h2⟩ := sm h
    obtain ⟨p1, p2, p3, p4⟩ := k.p2 h1 hl
    exact ⟨p1, p2, p3, p4.trans (div_val h2).1.symm⟩
  · obtain ⟨k, h1, h2⟩ := sm h
    obtain ⟨p1, p2, p3, p4⟩ := k.p1 h1 hl
    exact ⟨p1, p2, p3, p4.trans (div_val h2).1.symm⟩
  · rw [cc, Bool.not_eq_true'] at h
    obtain ⟨d1, d2⟩ := div_val h
    exact ⟨d1.symm, d2.symm⟩
  · rw [cc, Bool.not_eq_false'] at h
    obtain ⟨d1, d2⟩ := div_val h
    rw [Bool.and_eq_true, decide_eq_true_eq] at h
    obtain ⟨h, h0⟩ := h
    obtain ⟨ha, hb⟩ := two_safe h
    obtain ⟨da, na⟩ := rt_pos ha.is
    obtain ⟨db, nb⟩ := rt_pos hb.is
    have hz0 : wval b.N ≠ 0 := fun h => h0 ((rval_zero hb.is).2 h)
    have hbn : b.N.d.n ≠ 0 := by have := wval_abs b.N; omega
    have hbl : stdA.not (stdA.beq (stdW.below a.N) (stdW.below b.N)) = !(wbelow a.N == wbelow b.N) := rfl
    rw [hbl, mag_prod, mag_prod]
    have hq : Rat.divInt (sgd (!(wbelow a.N == wbelow b.N)) (a.N.d.n * b.D.d.n)) ((a.D.d.n * b.N.d.n : Nat) : Int) = rval a / rval b := by
      rw [← rval_div]
      have e1 : wval a.N * wval b.D = sgd (wbelow a.N) (a.N.d.n * b.D.d.n) := by
        rw [wval_sgd a.N, db]
        cases wbelow a.N <;> simp [sgd, Int.neg_mul]
      have e2 : wval a.D * wval b.N = sgd (wbelow b.N) (a.D.d.n * b.N.d.n) := by
        rw [wval_sgd b.N, da]
        cases wbelow b.N <;> simp [sgd, Int.mul_neg]
      rw [e1, e2]
      cases wbelow a.N <;> cases wbelow b.N
      · rfl
      · show Rat.divInt (-((a.N.d.n * b.D.d.n : Nat) : Int)) ((a.D.d.n * b.N.d.n : Nat) : Int) = Rat.divInt ((a.N.d.n * b.D.d.n : Nat) : Int) (-((a.D.d.n * b.N.d.n : Nat) : Int))
        rw [← Rat.neg_divInt_neg, Int.neg_neg]
      · rfl
      · show Rat.divInt ((a.N.d.n * b.D.d.n : Nat) : Int) ((a.D.d.n * b.N.d.n : Nat) : Int) = Rat.divInt (-((a.N.d.n * b.D.d.n : Nat) : Int)) (-((a.D.d.n * b.N.d.n : Nat) : Int))
        rw [Rat.neg_divInt_neg]
    obtain ⟨r1, r2⟩ := rat_q rfl (Nat.mul_ne_zero na hbn) hq (fit_div h h0)
    exact ⟨isMag_iff.2 (mag_prod_ok _ _), isMag_iff.2 (mag_prod_ok _ _), decide_eq_true (by rw [magL_val]; exact Nat.mul_ne_zero na hbn), r1.trans d1.symm, r2.trans d2.symm⟩
def tI9 (A : Alg) (S : SW) (X : SX) (M : SM) (F : SF) (K : SK) : List (Nat × Sem') := (125, heapSem [.v, .v] A (gTinies A K)) :: (126, heapSem [.v, .v] A (gQuick A F K)) :: (127, heapSem [.v, .v] A (gTwoR F)) :: (67, heapSem [.v] A (gSignR F)) :: (129, heapSem [.v] A (gBelow S)) :: (120, heapSemF [.v] A (gMof M)) :: (130, heapSemF [.s (.int .u32), .s (.int .u32)] A (gMmul A M)) :: (128, heapSem [.v, .s (.int .u32), .s (.int .u32)] A (gRat A X M)) :: ([])
theorem tI9OK : COK Tryz.prog (look (tI9 stdA stdW stdX stdM stdF stdK)) := COK_cons ok_rtinies (COK_cons ok_rquick (COK_cons ok_rtwo (COK_cons ok_rsign (COK_cons ok_mneg (COK_cons ok_mof (COK_cons ok_mmul (COK_cons ok_rrat (COK_nil))))))))
theorem ok_rdiv : CallOK Tryz.prog 73 (heapSem [.v, .v] stdA (gDivF stdF)) := by
  refine callOK_heap (un := ⟨false, some [2,3,4,5,6,7,8,9,10,11,24,26,46]⟩) tok tI9OK mixed (fn := Tryz.f73) (by kernel_rfl) (by kernel_rfl) (by kernel_rfl) (by decide +kernel) ?_
  intro w Wr args bs r hg ho hWr A L k hA hL hk
  obtain ⟨F, hF⟩ : ∃ F, F = stdF := ⟨_, rfl⟩
  obtain ⟨K, hK⟩ : ∃ K, K = stdK := ⟨_, rfl⟩
  obtain ⟨M, hM⟩ : ∃ M, M = stdM := ⟨_, rfl⟩
  obtain ⟨S, hS⟩ : ∃ S, S = stdW := ⟨_, rfl⟩
  obtain ⟨X, hX⟩ : ∃ X, X = stdX := ⟨_, rfl⟩
  (try rw [← hF])
  (try rw [← hK])
  (try rw [← hM])
  (try rw [← hS])
  (try rw [← hX])
  (try rw [← hA])
  unfold gDivF at hg
  split at hg
  rotate_left
  · cases hg
  simp only [Option.some.injEq] at hg
  subst hg
  rename_i a b
  have di := di_f a b A hA S hS X hX M hM F hF K hK
  cbv
  repeat' first | (with_reducible intro hb; cbv) | with_reducible refine And.intro ?_ ?_
  all_goals first | (with_reducible exact di.of _) | (with_reducible exact di.mu _ _) | (with_reducible exact (di.ok (by assumption)).o1) | (with_reducible exact (di.ok (by assumption)).o2) | (with_reducible exact (di.ok (by assumption)).o3) | skip
  · rename_i h0; exact (di.s1 h0 hb).1
  · rename_i h0; exact (di.s1 h0 hb).2.1
  · rename_i h0; exact (di.s1 h0 hb).2.2.1
  · rename_i h0
    have e := (di.s1 h0 hb).2.2.2
    have e2 := (di.s h0).2
    refine hk _ _ (Good.pure rfl fun ρ => ?_)
    subst hF hA hK
    exact tupRt e e2
  · rename_i h0; exact (di.s0 h0 hb).1
  · rename_i h0; exact (di.s0 h0 hb).2.1
  · rename_i h0; exact (di.s0 h0 hb).2.2.1
  · rename_i h0
    have e := (di.s0 h0 hb).2.2.2
    have e2 := (di.s h0).2
    refine hk _ _ (Good.pure rfl fun ρ => ?_)
    subst hF hA hK
    exact tupRt e e2
  · have e := di.no hb
    refine hk _ _ (Good.pure rfl fun ρ => ?_)
    subst hF
    exact tupRt e.1 e.2
  · have e := di.ok hb
    refine hk _ _ (Good.pure rfl fun ρ => ?_)
    subst hA hS hX hM hF hK
    exact tupR e.eq e.ok
end Go.Eng

