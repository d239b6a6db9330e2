/- The law WideLaws. -/
import Derived.Test.YtmajpppjakdodaaCN17
import Derived.Test.YtmajpppjakdodaaSpecNA
namespace Go.Eng
open Go.Proofs
set_option maxRecDepth 100000
set_option linter.all false
set_option exponentiation.threshold 3000
set_option maxHeartbeats 4000000

def gLaw3 : List CV → List Blk → Option LR
  | [.g [.W _], .g [.W _], .g [.W _]], [] => some ⟨[], .c (.s (.bool true)), []⟩
  | _, _ => none

def lawsB1 (A : Alg) (S : SW) (x y z : Wd) : Bool := A.ite (A.ite (A.ite (A.ite (A.ite (A.cmp .gtr (S.bits x) 300) true (A.cmp .gtr (S.bits y) 300)) true (A.cmp .gtr (S.bits z) 300)) true (A.not (S.isW x))) true (A.not (S.isW y))) true (A.not (S.isW z))
def lawsB2 (A : Alg) (V : SV) (x y z : Wd) : Bool := A.ite (A.ite (A.ite (A.ite (A.ite (A.ite (A.ite (A.ite (A.ite (A.not (V.addOK x y)) true (A.not (V.addOK y x))) true (A.not (V.subOK (V.add x y) y))) true (A.not (V.mulOK z (V.add x y)))) true (A.not (V.mulOK z x))) true (A.not (V.mulOK z y))) true (A.not (V.addOK (V.mul z x) (V.mul z y)))) true (A.not (A.eqW (V.add x y) (V.add y x)))) true (A.not (A.eqW (V.sub (V.add x y) y) x))) true (A.not (A.eqW (V.mul z (V.add x y)) (V.add (V.mul z x) (V.mul z y))))
def lawsF (A : Alg) (V : SV) (S : SW) (x y k o : Wd) : Bool := A.ite (A.ite (A.ite (A.ite (A.ite (V.dmOK y) (V.mulOK (V.dmQ x y) y) false) (V.addOK (V.mul (V.dmQ x y) y) (V.dmR x y)) false) (A.eqW (V.add (V.mul (V.dmQ x y) y) (V.dmR x y)) x) false) (A.cmp .lss (S.cmp k o) 0) false) (A.ite (A.cmp .eql (S.cmp (V.dmR x y) (S.from64 0)) 0) true (A.cmp .eql (S.cmp (V.dmR x y) (S.from64 0)) (S.cmp x (S.from64 0)))) false

theorem orB {a b : Bool} (h : stdA.ite a true b = false) : a = false ∧ b = false := by
  have h : (if a = true then true else b) = false := h
  cases a <;> simp_all

theorem tmod_sgn0 (a b : Int) : sgn (a.tmod b) 0 = 0 ∨ sgn (a.tmod b) 0 = sgn a 0 := by
  unfold sgn
  rcases Int.le_total 0 a with h | h
  · have := Int.tmod_nonneg b h
    by_cases h0 : a.tmod b = 0
    · left; rw [h0]; rfl
    · right
      have : a ≠ 0 := fun e => by subst e; simp at h0
      rw [if_neg (by omega), if_pos (by omega), if_neg (by omega), if_pos (by omega)]
  · have h1 := Int.tmod_nonneg b (a := -a) (by omega)
    rw [Int.neg_tmod] at h1
    by_cases h0 : a.tmod b = 0
    · left; rw [h0]; rfl
    · right
      have : a ≠ 0 := fun e => by subst e; simp at h0
      rw [if_pos (by omega), if_pos (by omega)]

structure LawsOK (A : Alg) (V : SV) (S : SW) (x y z : Wd) : Prop where
  b2 : lawsB2 A V x y z = false
  z0 : A.cmp .eql (S.cmp y (S.from64 0)) 0 = true → A.not (V.dmOK y) = true
  j1 : A.cmp .leq (-9223372036854775808) 0 = true
  j2 : A.cmp .lss 0 9223372036854775808 = true
  i1 : ∀ b, A.imp b (A.cmp .leq (-9223372036854775808) 0) = true
  i2 : ∀ b, A.imp b (A.cmp .lss 0 9223372036854775808) = true
  f11 : A.cmp .eql (S.cmp y (S.from64 0)) 0 = false → A.cmp .lss (S.cmp (V.dmR x y) (S.from64 0)) 0 = true → A.cmp .lss (S.cmp y (S.from64 0)) 0 = true → lawsF A V S x y (S.neg (V.dmR x y)) (S.neg y) = true
  f10 : A.cmp .eql (S.cmp y (S.from64 0)) 0 = false → A.cmp .lss (S.cmp (V.dmR x y) (S.from64 0)) 0 = true → A.cmp .lss (S.cmp y (S.from64 0)) 0 = false → lawsF A V S x y (S.neg (V.dmR x y)) y = true
  f01 : A.cmp .eql (S.cmp y (S.from64 0)) 0 = false → A.cmp .lss (S.cmp (V.dmR x y) (S.from64 0)) 0 = false → A.cmp .lss (S.cmp y (S.from64 0)) 0 = true → lawsF A V S x y (V.dmR x y) (S.neg y) = true
  f00 : A.cmp .eql (S.cmp y (S.from64 0)) 0 = false → A.cmp .lss (S.cmp (V.dmR x y) (S.from64 0)) 0 = false → A.cmp .lss (S.cmp y (S.from64 0)) 0 = false → lawsF A V S x y (V.dmR x y) y = true

theorem laws_ok (x y z : Wd) (A : Alg) (hA : A = stdA) (V : SV) (hV : V = stdV) (S : SW) (hS : S = stdW) (hv : lawsB1 A S x y z = false) : LawsOK A V S x y z := by
  subst hA hV hS
  obtain ⟨hv, hz⟩ := orB hv
  obtain ⟨hv, hy⟩ := orB hv
  obtain ⟨hv, hx⟩ := orB hv
  obtain ⟨hv, bz⟩ := orB hv
  obtain ⟨bx, by_⟩ := orB hv
  have iw : ∀ w : Wd, stdA.not (stdW.isW w) = false → isWd w = true := fun w h => by
    have h : (!(stdW.isW w)) = false := h
    have h : stdW.isW w = true := by simpa using h
    exact h
  have ix := iw x hx
  have iy := iw y hy
  have iz := iw z hz
  have sm : ∀ w : Wd, stdA.cmp .gtr (stdW.bits w) 300 = false → Sm 300 (wval w) := fun w h => by
    have h : decide (((lenOf w.d.n : Nat) : Int) > 300) = false := h
    simp only [decide_eq_false_iff_not] at h
    exact Sm.bits (by omega)
  have sx := sm x bx
  have sy := sm y by_
  have sz := sm z bz
  clear sm iw hx hy hz bx by_ bz hv
  have c0 : wval (stdW.from64 0) = 0 := wval_from (by decide)
  have hcmp : ∀ u v : Wd, stdW.cmp u v = sgn (wval u) (wval v) := fun u v => rfl
  have e1 := v_add rfl rfl ((sx.add sy).fit (by decide))
  have e2 := v_add rfl rfl ((sy.add sx).fit (by decide))
  have e3 := v_sub e1.2.2 (rfl : wval y = wval y) (by rw [Int.add_sub_cancel]; exact sx.fit (by decide))
  have e4 := v_mul (rfl : wval z = wval z) e1.2.2 ((sz.mul (sx.add sy)).fit (by decide))
  have e5 := v_mul rfl rfl ((sz.mul sx).fit (by decide))
  have e6 := v_mul rfl rfl ((sz.mul sy).fit (by decide))
  have e7 := v_add e5.2.2 e6.2.2 (((sz.mul sx).add (sz.mul sy)).fit (by decide))
  have q1 : stdA.eqW (stdV.add x y) (stdV.add y x) = true := eqW_of (by rw [e1.1, e2.1, Int.add_comm])
  have q2 : stdA.eqW (stdV.sub (stdV.add x y) y) x = true := eqW_of (by rw [e3.1, Int.add_sub_cancel]; exact ofZ_wval ix)
  have q3 : stdA.eqW (stdV.mul z (stdV.add x y)) (stdV.add (stdV.mul z x) (stdV.mul z y)) = true := eqW_of (by rw [e4.1, e7.1, Int.mul_add])
  have hyb : ∀ b, stdA.cmp .eql (stdW.cmp y (stdW.from64 0)) 0 = b → decide (wval y = 0) = b := fun b h => by
    rw [← h, hcmp, c0]
    show _ = (sgn (wval y) 0 == 0)
    unfold sgn
    by_cases h1 : wval y < 0
    · rw [if_pos h1, decide_eq_false (by omega)]; rfl
    · rw [if_neg h1]
      by_cases h2 : 0 < wval y
      · rw [if_pos h2, decide_eq_false (by omega)]; rfl
      · rw [if_neg h2, decide_eq_true (by omega)]; rfl
  have hlt : ∀ (w : Wd) b, stdA.cmp .lss (stdW.cmp w (stdW.from64 0)) 0 = b → decide (wval w < 0) = b := fun w b h => by
    rw [← h, hcmp, c0]
    show _ = decide (sgn (wval w) 0 < 0)
    unfold sgn
    by_cases h1 : wval w < 0
    · rw [if_pos h1, decide_eq_true h1]; rfl
    · rw [if_neg h1, decide_eq_false h1]
      by_cases h2 : 0 < wval w
      · rw [if_pos h2]; rfl
      · rw [if_neg h2]; rfl
  have key : wval y ≠ 0 → ∀ k o, wval k < wval o → lawsF stdA stdV stdW x y k o = true := fun hy k o hk => by
    obtain ⟨d1, d2, d3, d4, d5⟩ := v_dm (x := x) (y := y) rfl rfl hy
    have hle : ((wval x).tdiv (wval y) * wval y).natAbs ≤ (wval x).natAbs := by rw [Int.natAbs_mul, Int.natAbs_tdiv]; exact Nat.div_mul_le_self _ _
    have g1 := v_mul d2 (rfl : wval y = wval y) ((sx.of_le hle).fit (by decide))
    have hsum : (wval x).tdiv (wval y) * wval y + (wval x).tmod (wval y) = wval x := Int.tdiv_mul_add_tmod _ _
    have g2 := v_add g1.2.2 d3 (by rw [hsum]; exact sx.fit (by decide))
    have g3 : stdA.eqW (stdV.add (stdV.mul (stdV.dmQ x y) y) (stdV.dmR x y)) x = true := eqW_of (by rw [g2.1, hsum]; exact ofZ_wval ix)
    have g4 : stdA.cmp .lss (stdW.cmp k o) 0 = true := by
      rw [hcmp]
      show decide (sgn (wval k) (wval o) < 0) = true
      unfold sgn
      rw [if_pos hk]; rfl
    have g5 : stdA.ite (stdA.cmp .eql (stdW.cmp (stdV.dmR x y) (stdW.from64 0)) 0) true (stdA.cmp .eql (stdW.cmp (stdV.dmR x y) (stdW.from64 0)) (stdW.cmp x (stdW.from64 0))) = true := by
      rw [hcmp, hcmp, c0, d3]
      rcases tmod_sgn0 (wval x) (wval y) with h | h
      · rw [h]; rfl
      · rw [h]
        show (if (sgn (wval x) 0 == 0) = true then true else (sgn (wval x) 0 == sgn (wval x) 0)) = true
        simp
    unfold lawsF
    rw [d1, g1.2.1, g2.2.1, g3, g4, g5]
    rfl
  have hrem : wval y ≠ 0 → (wval (stdV.dmR x y)).natAbs < (wval y).natAbs := fun hy => by
    obtain ⟨d1, d2, d3, d4, d5⟩ := v_dm (x := x) (y := y) rfl rfl hy
    rw [d3, Int.natAbs_tmod]
    exact Nat.mod_lt _ (by omega)
  refine { b2 := ?_, z0 := fun h => ?_, j1 := rfl, j2 := rfl, i1 := fun b => imp_of rfl, i2 := fun b => imp_of rfl, f11 := fun h1 h2 h3 => ?_, f10 := fun h1 h2 h3 => ?_, f01 := fun h1 h2 h3 => ?_, f00 := fun h1 h2 h3 => ?_ }
  · unfold lawsB2
    rw [e1.2.1, e2.2.1, e3.2.1, e4.2.1, e5.2.1, e6.2.1, e7.2.1, q1, q2, q3]
    rfl
  · have h := of_decide_eq_true (hyb _ h)
    show (!decide (wval y ≠ 0)) = true
    simp [h]
  all_goals
    have h1 := of_decide_eq_false (hyb _ h1)
    have hr := hrem h1
    refine key h1 _ _ ?_
    try rw [wval_neg]
    try rw [wval_neg]
  · have h2 := of_decide_eq_true (hlt _ _ h2)
    have h3 := of_decide_eq_true (hlt _ _ h3)
    omega
  · have h2 := of_decide_eq_true (hlt _ _ h2)
    have h3 := of_decide_eq_false (hlt _ _ h3)
    omega
  · have h2 := of_decide_eq_false (hlt _ _ h2)
    have h3 := of_decide_eq_true (hlt _ _ h3)
    omega
  · have h2 := of_decide_eq_false (hlt _ _ h2)
    have h3 := of_decide_eq_false (hlt _ _ h3)
    omega

theorem ok_wideLaws : CallOK Try.prog 7 (heapSem [.v, .v, .v] stdA (gLaw3)) := by
  refine callOK_heap (un := ⟨false, some [3,4,5,6,7,8,9,10,11,12,13,14,15,16,17,18,19,20,21,22,23,24,25,26,27,28,29,31,59,142,153,172,179]⟩) tok tN21OK mixed (fn := Try.f7) (by kernel_rfl) (by kernel_rfl) (by kernel_rfl) (by decide +kernel) ?_
  intro w Wr args bs r hg ho hWr A L k hA hL hk
  obtain ⟨S, hS⟩ : ∃ S, S = stdW := ⟨_, rfl⟩
  obtain ⟨T, hT⟩ : ∃ T, T = stdT := ⟨_, rfl⟩
  obtain ⟨V, hV⟩ : ∃ V, V = stdV := ⟨_, rfl⟩
  (try rw [← hS])
  (try rw [← hT])
  (try rw [← hV])
  (try rw [← hA])
  unfold gLaw3 at hg
  split at hg
  rotate_left
  · cases hg
  simp only [Option.some.injEq] at hg
  subst hg
  rename_i x y z
  have go := laws_ok x y z A hA V hV S hS
  cbv
  repeat' first | (with_reducible intro hb; cbv) | with_reducible refine And.intro ?_ ?_
  · subst hA
    cases hb
  · exact hk _ _ (Good.pure rfl fun ρ => rfl)
  · rename_i h1 h2
    have := (go h2).b2
    rw [show lawsB2 A V x y z = true from hb] at this
    cases this
  · rename_i h1 h2
    exact (go h2).j1
  · rename_i h1 h2
    exact (go h2).j2
  · rename_i h1 h2 h3
    refine hk _ _ (Good.pure rfl fun ρ => ?_)
    exact retB ((go h2).z0 hb)
  · rename_i h1 h2 h3
    exact (go h2).j1
  · rename_i h1 h2 h3
    exact (go h2).j2
  · rename_i h1 h2 h3 h4
    exact (go h2).j1
  · rename_i h1 h2 h3 h4
    exact (go h2).j2
  · (intro hb)
    rename_i h1 h2 h3 h4 h5
    cbv
    repeat' first | (with_reducible intro hb; cbv) | with_reducible refine And.intro ?_ ?_
    all_goals first | exact (go h2).i1 _ | exact (go h2).i2 _ | skip
    refine hk _ _ (Good.pure rfl fun ρ => ?_)
    exact retB ((go h2).f11 h4 h5 hb)
  · (intro hb)
    rename_i h1 h2 h3 h4 h5
    cbv
    repeat' first | (with_reducible intro hb; cbv) | with_reducible refine And.intro ?_ ?_
    all_goals first | exact (go h2).i1 _ | exact (go h2).i2 _ | skip
    refine hk _ _ (Good.pure rfl fun ρ => ?_)
    exact retB ((go h2).f10 h4 h5 hb)
  · rename_i h1 h2 h3 h4
    exact (go h2).j1
  · rename_i h1 h2 h3 h4
    exact (go h2).j2
  · (intro hb)
    rename_i h1 h2 h3 h4 h5
    cbv
    repeat' first | (with_reducible intro hb; cbv) | with_reducible refine And.intro ?_ ?_
    all_goals first | exact (go h2).i1 _ | exact (go h2).i2 _ | skip
    refine hk _ _ (Good.pure rfl fun ρ => ?_)
    exact retB ((go h2).f01 h4 h5 hb)
  · (intro hb)
    rename_i h1 h2 h3 h4 h5
    cbv
    repeat' first | (with_reducible intro hb; cbv) | with_reducible refine And.intro ?_ ?_
    all_goals first | exact (go h2).i1 _ | exact (go h2).i2 _ | skip
    refine hk _ _ (Good.pure rfl fun ρ => ?_)
    exact retB ((go h2).f00 h4 h5 hb)

def tW4 (A : Alg) (S : SW) (V : SV) (T : ST) : List (Nat × Sem') := (7, heapSem [.v, .v, .v] A (gLaw3)) :: ((tN21 A S V T))
theorem tW4OK : COK Try.prog (look (tW4 stdA stdW stdV stdT)) := COK_cons ok_wideLaws (tN21OK)
end Go.Eng
