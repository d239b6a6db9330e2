/- Of whole numbers: a step of the long division as the program takes it. -/
import Derived.Test.YtmajpppjakdodaaCN6
import Derived.Test.YtmajpppjakdodaaSpecNA
namespace Go.Eng
open Go.Proofs
set_option maxRecDepth 100000
set_option linter.all false
set_option exponentiation.threshold 3000

structure DivStep (A : Alg) (V : SV) (Vl : List Int) (n m Vn U0 : Nat) (me i j1 j2 m2 : Int) (M W : List Int) (q : Dg) (g : Int) : Prop where
  a1 : A.cmp .leq 0 j1 = true
  a2 : A.cmp .leq j1 (A.len M) = true
  a3 : A.cmp .leq (A.len M) (A.len M) = true
  a4 : A.cmp .leq 0 0 = true
  a5 : A.cmp .leq me (A.len Vl) = true
  a6 : A.cmp .leq 0 m2 = true
  a7 : A.cmp .leq m2 (A.isub me 0) = true
  a8 : A.cmp .leq (A.iadd 0 (A.isub me 0)) me = true
  a9 : A.cmp .lss (A.iadd 0 m2) (A.len Vl) = true
  a10 : A.cmp .leq 0 (A.iadd 0 m2) = true
  a11 : A.cmp .leq (A.iadd 0 m2) (A.iadd 0 (A.isub me 0)) = true
  a12 : A.cmp .leq (A.iadd 0 (A.isub me 0)) (A.len Vl) = true
  a13 : V.guessOK (A.sub M j1 (A.len M)) (A.sub Vl (A.iadd 0 m2) (A.iadd 0 (A.isub me 0))) = true
  b1 : A.cmp .leq 0 i = true
  b2 : A.cmp .leq i j2 = true
  b3 : A.cmp .leq j2 (A.len M) = true
  b4 : A.cmp .leq 0 me = true
  b5 : A.cmp .eql (A.isub j2 i) (A.iadd (A.len W) 1) = true
  b6 : A.all32 M = true
  b7 : A.all32 W = true
  b8 : A.cmp .leq (A.len M) 1000 = true
  b9 : A.cmp .leq 0 g = true
  b10 : A.cmp .leq g 4294967295 = true
  c3 : A.cmp .leq j2 (A.len (V.takesL M i j2 W g)) = true
  c6 : A.all32 (V.takesL M i j2 W g) = true
  c8 : A.cmp .leq (A.len (V.takesL M i j2 W g)) 1000 = true
  d1 : A.cmp .lss i 32 = true
  e1 : A.cmp .leq 0 (A.wrap .u32 g) = true
  e2 : A.cmp .lss (A.wrap .u32 g) 4294967296 = true
  e3 : A.cmp .leq 0 (A.wrap .u32 (A.bin .sub .u64 g 1)) = true
  e4 : A.cmp .lss (A.wrap .u32 (A.bin .sub .u64 g 1)) 4294967296 = true
  n1 : A.not (V.takesB M i j2 W g) = false → DvI Vl n m Vn U0 (i - 1) (V.takesL M i j2 W g) (A.setD q i (A.wrap .u32 g))
  n2 : A.not (V.takesB M i j2 W g) = true → DvI Vl n m Vn U0 (i - 1) (V.givesL (V.takesL M i j2 W g) i j2 W) (A.setD q i (A.wrap .u32 (A.bin .sub .u64 g 1)))
  ad : A.bin .sub .i64 i 1 = i - 1
  ms : (i - 1 + 1).toNat < (i + 1).toNat

theorem div_step {Vl : List Int} {n m Vn U0 : Nat} {i : Int} {M : List Int} {q : Dg} (h : DivOK Vl n m Vn) (hI : DvI Vl n m Vn U0 i M q) (A : Alg) (hA : A = stdA) (V : SV) (hV : V = stdV) (me : Int) (hme : me = m) (hb : A.cmp .geq i 0 = true)
    (j1 j2 m2 : Int) (W : List Int) (g : Int) (hj1 : j1 = A.bin .sub .i64 (A.bin .add .i64 i me) 2) (hj2 : j2 = A.bin .add .i64 (A.bin .add .i64 i me) 1) (hm2 : m2 = A.bin .sub .i64 me 2) (hW : W = A.sub Vl 0 me)
    (hg : g = V.guess (A.sub M j1 (A.len M)) (A.sub Vl (A.iadd 0 m2) (A.iadd 0 (A.isub me 0)))) : DivStep A V Vl n m Vn U0 me i j1 j2 m2 M W q g := by
  subst hA hV hme
  have hi : 0 ≤ i := of_decide_eq_true hb
  obtain ⟨w1, w2, w3, w4, g1, g2, gok⟩ := hI.win h hi
  have hnext := @DvI.next Vl n m Vn U0 i M q h hI hi
  have hVt := valL_wtake h
  obtain ⟨k2, kmn, kn32, wv, lv, vv, lt, ge⟩ := h
  have hi1 := hI.i1
  have lm := hI.lm
  have wm := hI.wm
  clear hI
  have ej1 : j1 = i + m - 2 := by rw [hj1]; show stdBin .sub .i64 (stdBin .add .i64 i m) 2 = _; simp only [stdBin, IntKind.wrap_i64]; omega
  have ej2 : j2 = i + m + 1 := by rw [hj2]; show stdBin .add .i64 (stdBin .add .i64 i m) 1 = _; simp only [stdBin, IntKind.wrap_i64]; omega
  have em2 : m2 = (m : Int) - 2 := by rw [hm2]; show stdBin .sub .i64 (m : Int) 2 = _; simp only [stdBin, IntKind.wrap_i64]; omega
  clear hj1 hj2 hm2
  have eW : W = Vl.take m := by rw [hW]; show (Vl.take (m : Int).toNat).drop 0 = _; rw [Int.toNat_natCast, List.drop_zero]
  have eU : stdA.sub M j1 (stdA.len M) = M.drop (i.toNat + m - 2) := by
    show (M.take (M.length : Int).toNat).drop j1.toNat = _
    rw [Int.toNat_natCast, List.take_length]; congr 1; omega
  have eV : stdA.sub Vl (stdA.iadd 0 m2) (stdA.iadd 0 (stdA.isub (m : Int) 0)) = (Vl.take m).drop (m - 2) := by
    show (Vl.take (0 + ((m : Int) - 0)).toNat).drop (0 + m2).toNat = _
    rw [show (0 + ((m : Int) - 0)).toNat = m by omega, show (0 + m2).toNat = m - 2 by omega]
  rw [eU, eV] at hg
  have eg : g = ((kGuess (M.drop (i.toNat + m - 2)) ((Vl.take m).drop (m - 2)) : Nat) : Int) := hg
  obtain ⟨T, hT⟩ : ∃ T, T = kGuess (M.drop (i.toNat + m - 2)) ((Vl.take m).drop (m - 2)) := ⟨_, rfl⟩
  have hTB : T ≤ 4294967295 := by rw [hT]; exact Nat.min_le_left _ _
  rw [← hT] at eg g1 g2
  clear hg hT
  have hml : stdA.len M = (n : Int) + 1 := by show (M.length : Int) = _; rw [lm]; simp
  have hvl : stdA.len Vl = (m : Int) + 1 := by show (Vl.length : Int) = _; rw [lv]; simp
  have hwl : W.length = m := by rw [eW, List.length_take]; omega
  have hwl' : stdA.len W = (m : Int) := by show (W.length : Int) = _; rw [hwl]
  have hVv : valL W = Vn := by rw [eW]; exact hVt
  have hj2n : j2.toNat = i.toNat + m + 1 := by omega
  have hj2i : j2.toNat - i.toNat = m + 1 := by omega
  have hV0 : 0 < Vn := Nat.lt_of_lt_of_le (Nat.two_pow_pos _) ge
  have hle : i.toNat ≤ j2.toNat := by omega
  have hjl : j2.toNat ≤ M.length := by omega
  rw [← hj2n] at w1 w4
  have hBV : Vn < 2 ^ (32 * (m + 1)) := Nat.lt_of_lt_of_le (Nat.lt_of_lt_of_le (by omega : Vn < Vn * 2 ^ 32) w3) (Nat.le_refl _)
  obtain ⟨w, hw⟩ : ∃ w, w = valL M / 2 ^ (32 * i.toNat) := ⟨_, rfl⟩
  rw [← hw] at w1 w2 g1 g2 hnext
  have hwB : w < 2 ^ (32 * (m + 1)) := Nat.lt_of_lt_of_le w2 w3
  obtain ⟨X1, hX1⟩ : ∃ X, X = (2 ^ (32 * (m + 1)) * 2 ^ 64 + w - T * Vn) % 2 ^ (32 * (m + 1)) := ⟨_, rfl⟩
  have hX1lt : X1 < 2 ^ (32 * (j2.toNat - i.toNat)) := by rw [hj2i, hX1]; exact Nat.mod_lt _ (Nat.two_pow_pos _)
  have eT : stdV.takesL M i j2 W g = winS M i.toNat j2.toNat (digL X1 (j2.toNat - i.toNat)) := by
    show winS M i.toNat j2.toNat (digL ((2 ^ (32 * (W.length + 1)) * 2 ^ 64 + winV M i.toNat j2.toNat - g.toNat * valL W) % 2 ^ (32 * (W.length + 1))) (W.length + 1)) = _
    rw [hwl, w1, hVv, eg, Int.toNat_natCast, ← hX1, hj2i]
  have eB : stdV.takesB M i j2 W g = decide (T * Vn ≤ w) := by
    show decide (g.toNat * valL W ≤ winV M i.toNat j2.toNat) = _
    rw [hVv, w1, eg, Int.toNat_natCast]
  have hl1 := winS_len M i.toNat j2.toNat X1 hle hjl
  have hw1 := winS_W32 wm i.toNat j2.toNat X1 (j2.toNat - i.toNat)
  have hv1 := valL_winS wm i.toNat j2.toNat X1 hle hjl hX1lt
  rw [w4, Nat.mul_zero, Nat.add_zero] at hv1
  have hlM1 : stdA.len (stdV.takesL M i j2 W g) = (n : Int) + 1 := by rw [eT]; show ((winS M i.toNat j2.toNat (digL X1 (j2.toNat - i.toNat))).length : Int) = _; rw [hl1, lm]; simp
  have ewg : stdA.wrap .u32 g = g := by show IntKind.u32.wrap g = g; rw [IntKind.wrap_u32]; omega
  have hw32 : 0 ≤ stdA.wrap .u32 (stdA.bin .sub .u64 g 1) ∧ stdA.wrap .u32 (stdA.bin .sub .u64 g 1) < 4294967296 := by
    show 0 ≤ IntKind.u32.wrap (stdBin .sub .u64 g 1) ∧ IntKind.u32.wrap (stdBin .sub .u64 g 1) < 4294967296
    rw [IntKind.wrap_u32]; omega
  have dv1 := Nat.div_mul_le_self w Vn
  have dv2 : w < (w / Vn + 1) * Vn := by
    have := Nat.mod_lt w hV0
    have e := Nat.div_add_mod w Vn
    rw [Nat.add_mul, Nat.one_mul, Nat.mul_comm (w / Vn)]
    omega
  exact {
    a1 := decide_eq_true (show 0 ≤ j1 by omega)
    a2 := by rw [hml]; exact decide_eq_true (show j1 ≤ (n : Int) + 1 by omega)
    a3 := by rw [hml]; exact decide_eq_true (Int.le_refl _)
    a4 := decide_eq_true (Int.le_refl 0)
    a5 := by rw [hvl]; exact decide_eq_true (show (m : Int) ≤ m + 1 by omega)
    a6 := decide_eq_true (show 0 ≤ m2 by omega)
    a7 := decide_eq_true (show m2 ≤ (m : Int) - 0 by omega)
    a8 := decide_eq_true (show 0 + ((m : Int) - 0) ≤ m by omega)
    a9 := by rw [hvl]; exact decide_eq_true (show 0 + m2 < (m : Int) + 1 by omega)
    a10 := decide_eq_true (show 0 ≤ 0 + m2 by omega)
    a11 := decide_eq_true (show 0 + m2 ≤ 0 + ((m : Int) - 0) by omega)
    a12 := by rw [hvl]; exact decide_eq_true (show 0 + ((m : Int) - 0) ≤ (m : Int) + 1 by omega)
    a13 := by
      rw [eU, eV]
      simp only [stdV, Bool.and_eq_true, decide_eq_true_eq]
      exact ⟨⟨⟨⟨⟨gok.lu, gok.lv⟩, gok.v1⟩, gok.uv⟩, gok.wu.all'⟩, gok.wv.all'⟩
    b1 := decide_eq_true hi
    b2 := decide_eq_true (show i ≤ j2 by omega)
    b3 := by rw [hml]; exact decide_eq_true (show j2 ≤ (n : Int) + 1 by omega)
    b4 := decide_eq_true (show (0 : Int) ≤ m by omega)
    b5 := by
      show (j2 - i == stdA.len W + 1) = true
      rw [hwl', beq_iff_eq]; omega
    b6 := wm.all'
    b7 := by rw [eW]; exact (wv.take m).all'
    b8 := by rw [hml]; exact decide_eq_true (show (n : Int) + 1 ≤ 1000 by omega)
    b9 := decide_eq_true (show 0 ≤ g by omega)
    b10 := decide_eq_true (show g ≤ 4294967295 by omega)
    c3 := by rw [hlM1]; exact decide_eq_true (show j2 ≤ (n : Int) + 1 by omega)
    c6 := by rw [eT]; exact hw1.all'
    c8 := by rw [hlM1]; exact decide_eq_true (show (n : Int) + 1 ≤ 1000 by omega)
    d1 := decide_eq_true (show i < 32 by omega)
    e1 := by rw [ewg]; exact decide_eq_true (show 0 ≤ g by omega)
    e2 := by rw [ewg]; exact decide_eq_true (show g < 4294967296 by omega)
    e3 := decide_eq_true hw32.1
    e4 := decide_eq_true hw32.2
    n1 := fun hn => by
      have hn : (!stdV.takesB M i j2 W g) = false := hn
      rw [eB, Bool.not_eq_false', decide_eq_true_eq] at hn
      have hTq : T = w / Vn := by
        rcases Nat.lt_or_ge (w / Vn) T with hlt | hge
        · exfalso
          have : (w / Vn + 1) * Vn ≤ T * Vn := Nat.mul_le_mul_right _ hlt
          omega
        · omega
      have hX : X1 = w - w / Vn * Vn := by
        rw [hX1, hTq, show 2 ^ (32 * (m + 1)) * 2 ^ 64 + w - w / Vn * Vn = (w - w / Vn * Vn) + 2 ^ (32 * (m + 1)) * 2 ^ 64 by omega, Nat.add_mul_mod_self_left]
        exact Nat.mod_eq_of_lt (by omega)
      rw [hX] at hv1 hl1 hw1
      obtain ⟨r1, r2⟩ := hnext hl1 hw1 hv1
      rw [eT, hX, ewg]
      have : stdA.setD q i g = q.set i.toNat (w / Vn) := by
        show q.set i.toNat g.toNat = _
        rw [eg, Int.toNat_natCast, hTq]
      rw [this]
      exact r1
    n2 := fun hn => by
      have hn : (!stdV.takesB M i j2 W g) = true := hn
      rw [eB, Bool.not_eq_true', decide_eq_false_iff_not] at hn
      have hTq : T = w / Vn + 1 := by
        rcases Nat.lt_or_ge (w / Vn) T with hlt | hge
        · omega
        · exfalso
          have : T * Vn ≤ w / Vn * Vn := Nat.mul_le_mul_right _ hge
          omega
      have e1 : (w / Vn + 1) * Vn = w / Vn * Vn + Vn := by rw [Nat.add_mul, Nat.one_mul]
      have hX : X1 = 2 ^ (32 * (m + 1)) + w - T * Vn := by
        rw [hX1]
        have : 2 ^ (32 * (m + 1)) * 2 ^ 64 + w - T * Vn = (2 ^ (32 * (m + 1)) + w - T * Vn) + 2 ^ (32 * (m + 1)) * (2 ^ 64 - 1) := by
          rw [hTq, e1] at hn ⊢
          generalize 2 ^ (32 * (m + 1)) = B at *
          omega
        rw [this, Nat.add_mul_mod_self_left]
        exact Nat.mod_eq_of_lt (by rw [hTq, e1] at hn ⊢; omega)
      obtain ⟨M1, hM1⟩ : ∃ M1, M1 = winS M i.toNat j2.toNat (digL X1 (j2.toNat - i.toNat)) := ⟨_, rfl⟩
      rw [← hM1] at hl1 hw1 hv1 eT
      have hP := Nat.two_pow_pos (32 * i.toNat)
      have hM1d : valL M1 / 2 ^ (32 * i.toNat) = X1 := by
        rw [hv1, Nat.add_mul_div_left _ _ hP, Nat.div_eq_of_lt (Nat.mod_lt _ hP), Nat.zero_add]
      have hM1m : valL M1 % 2 ^ (32 * i.toNat) = valL M % 2 ^ (32 * i.toNat) := by
        rw [hv1, Nat.add_mul_mod_self_left, Nat.mod_mod]
      have hM1h : valL M1 / 2 ^ (32 * j2.toNat) = 0 := by
        have : 2 ^ (32 * j2.toNat) = 2 ^ (32 * i.toNat) * 2 ^ (32 * (j2.toNat - i.toNat)) := by rw [← Nat.pow_add]; congr 1; omega
        rw [this, ← Nat.div_div_eq_div_mul, hM1d]
        exact Nat.div_eq_of_lt hX1lt
      have wM1 : winV M1 i.toNat j2.toNat = X1 := by
        rw [winV_eq hw1 _ _ hle (by omega), hM1d, Nat.mod_eq_of_lt hX1lt]
      have hX2 : (X1 + Vn) % 2 ^ (32 * (m + 1)) = w - w / Vn * Vn := by
        have : X1 + Vn = (w - w / Vn * Vn) + 2 ^ (32 * (m + 1)) * 1 := by
          rw [hX, hTq, e1] at *
          generalize 2 ^ (32 * (m + 1)) = B at *
          omega
        rw [this, Nat.add_mul_mod_self_left]
        exact Nat.mod_eq_of_lt (by omega)
      have eG : stdV.givesL (stdV.takesL M i j2 W g) i j2 W = winS M1 i.toNat j2.toNat (digL (w - w / Vn * Vn) (j2.toNat - i.toNat)) := by
        rw [eT]
        show winS M1 i.toNat j2.toNat (digL ((winV M1 i.toNat j2.toNat + valL W) % 2 ^ (32 * (W.length + 1))) (W.length + 1)) = _
        rw [hwl, wM1, hVv, hX2, hj2i]
      have hlt2 : w - w / Vn * Vn < 2 ^ (32 * (j2.toNat - i.toNat)) := by rw [hj2i]; omega
      have hv2 := valL_winS hw1 i.toNat j2.toNat _ hle (by omega) hlt2
      rw [hM1h, Nat.mul_zero, Nat.add_zero, hM1m] at hv2
      have hl2 := winS_len M1 i.toNat j2.toNat (w - w / Vn * Vn) hle (by omega)
      obtain ⟨r1, r2⟩ := hnext (hl2.trans hl1) (winS_W32 hw1 _ _ _ _) hv2
      rw [eG]
      have : stdA.setD q i (stdA.wrap .u32 (stdA.bin .sub .u64 g 1)) = q.set i.toNat (w / Vn) := by
        show q.set i.toNat (IntKind.u32.wrap (IntKind.u64.wrap (g - 1))).toNat = _
        rw [eg, hTq]
        congr 1
        generalize w / Vn = c at *
        rw [IntKind.wrap_u32, w_u64]
        omega
      rw [this]
      exact r1
    ad := by show stdBin .sub .i64 i 1 = i - 1; simp only [stdBin, IntKind.wrap_i64]; omega
    ms := by omega }

structure DivInit (A : Alg) (V : SV) (d e : Dg) (ne me s : Int) : Prop where
  o1 : A.cmp .leq 0 (A.bin .sub .i64 me 1) = true
  o2 : A.cmp .lss (A.bin .sub .i64 me 1) 32 = true
  o3 : A.cmp .leq 0 (A.dig e (A.bin .sub .i64 me 1)) = true
  o4 : A.cmp .lss (A.dig e (A.bin .sub .i64 me 1)) 4294967296 = true
  o5 : A.cmp .leq 0 0 = true
  o6 : A.cmp .leq 0 ne = true
  o7 : A.cmp .leq ne 32 = true
  o8 : A.cmp .leq 0 s = true
  o9 : A.cmp .lss s 32 = true
  o10 : A.all32 (A.digs d 0 ne) = true
  o11 : A.cmp .leq (A.len (A.digs d 0 ne)) 64 = true
  o12 : A.cmp .leq 0 me = true
  o13 : A.cmp .leq me 32 = true
  o14 : A.all32 (A.digs e 0 me) = true
  o15 : A.cmp .leq (A.len (A.digs e 0 me)) 64 = true
  o16 : A.cmp .leq me (A.len (V.shl (A.digs e 0 me) s)) = true
  ok : DivOK (V.shl (A.digs e 0 me) s) (dSize d) (dSize e) (2 ^ s.toNat * e.n)
  inv : DvI (V.shl (A.digs e 0 me) s) (dSize d) (dSize e) (2 ^ s.toNat * e.n) (2 ^ s.toNat * d.n) (A.bin .sub .i64 ne me) (V.shl (A.digs d 0 ne) s) Dg.zero
  s0 : 0 ≤ s
  s1 : s < 32

theorem word_ok (z : Int) (h1 : 0 ≤ z) (h2 : z < 4294967296) : stdA.cmp .leq 0 z = true ∧ stdA.cmp .lss z 4294967296 = true := ⟨decide_eq_true h1, decide_eq_true h2⟩

theorem shl_digs (d : Dg) (k : Nat) (s : Int) (hk : d.n < 2 ^ (32 * k)) (hs : s.toNat ≤ 32) : stdV.shl (stdA.digs d 0 k) s = digL (2 ^ s.toNat * d.n) (k + 1) ∧ 2 ^ s.toNat * d.n < 2 ^ (32 * (k + 1)) := by
  constructor
  · show digL (2 ^ s.toNat * valL (stdA.digs d 0 k)) ((stdA.digs d 0 k).length + 1) = _
    rw [digs_zero, Int.toNat_natCast, digL_length, valL_digL _ _ hk]
  · rw [show 32 * (k + 1) = 32 + 32 * k by omega, Nat.pow_add]
    exact Nat.lt_of_le_of_lt (Nat.mul_le_mul_right _ (Nat.pow_le_pow_right (by decide) hs)) (Nat.mul_lt_mul_of_pos_left hk (by decide))

theorem div_init (d e : Dg) (h2 : 2 ^ 32 ≤ e.n) (hle : e.n ≤ d.n) (A : Alg) (hA : A = stdA) (V : SV) (hV : V = stdV) (ne me s : Int) (hne : ne = dSize d) (hme : me = dSize e) (hs : s = V.lz (A.dig e (A.bin .sub .i64 me 1))) : DivInit A V d e ne me s := by
  subst hA hV hne hme
  obtain ⟨p1, p2, p3, p4⟩ := dSize_spec e (by omega)
  obtain ⟨q1, q2, q3, q4⟩ := dSize_spec d (by omega)
  have hm2 : 2 ≤ dSize e := by
    have := dSize_le e 1
    rcases Nat.lt_or_ge (dSize e) 2 with h | h
    · have h1 := this.1 (by omega)
      rw [show 32 * 1 = 32 from rfl] at h1
      omega
    · exact h
  have hmn : dSize e ≤ dSize d := (dSize_le e (dSize d)).2 (Nat.lt_of_le_of_lt hle q3)
  generalize hm : dSize e = m at *
  generalize hn : dSize d = n at *
  have e1 : stdA.bin .sub .i64 (m : Int) 1 = (m : Int) - 1 := by show stdBin .sub .i64 (m : Int) 1 = _; simp only [stdBin, IntKind.wrap_i64]; omega
  have etop : stdA.dig e (stdA.bin .sub .i64 (m : Int) 1) = ((e.n / 2 ^ (32 * (m - 1)) : Nat) : Int) := by
    rw [e1]
    show ((e.dig ((m : Int) - 1).toNat : Nat) : Int) = _
    rw [show ((m : Int) - 1).toNat = m - 1 by omega]
    unfold Dg.dig
    rw [Nat.mod_eq_of_lt]
    rw [Nat.div_lt_iff_lt_mul (Nat.two_pow_pos _), ← Nat.pow_add, show 32 + 32 * (m - 1) = 32 * m by omega]
    exact p3
  obtain ⟨t, ht⟩ : ∃ t, t = e.n / 2 ^ (32 * (m - 1)) := ⟨_, rfl⟩
  have ht1 : 1 ≤ t := by rw [ht]; exact Nat.div_pos p4 (Nat.two_pow_pos _)
  have ht2 : t < 2 ^ 32 := by
    rw [ht, Nat.div_lt_iff_lt_mul (Nat.two_pow_pos _), ← Nat.pow_add, show 32 + 32 * (m - 1) = 32 * m by omega]
    exact p3
  rw [← ht] at etop
  rw [etop] at hs
  have hs' : s = 32 - ((lenOf t : Nat) : Int) := by rw [hs]; show 32 - ((lenOf (t : Int).toNat : Nat) : Int) = _; rw [Int.toNat_natCast]
  have hl1 : lenOf t ≤ 32 := lenOf_le t 32 ht2
  have hl0 : 1 ≤ lenOf t := by unfold lenOf; rw [if_neg (by omega)]; omega
  have hlt : t < 2 ^ lenOf t := by
    unfold lenOf; rw [if_neg (by omega)]
    exact Nat.lt_log2_self
  have hs0 : s.toNat = 32 - lenOf t := by omega
  have heB : 2 ^ s.toNat * e.n < 2 ^ (32 * m) := by
    have hh : e.n < (t + 1) * 2 ^ (32 * (m - 1)) := by
      have := Nat.div_add_mod e.n (2 ^ (32 * (m - 1)))
      have h3 := Nat.mod_lt e.n (Nat.two_pow_pos (32 * (m - 1)))
      rw [← ht, Nat.mul_comm] at this
      rw [Nat.add_mul, Nat.one_mul]; omega
    have h5 : (t + 1) * 2 ^ (32 * (m - 1)) ≤ 2 ^ lenOf t * 2 ^ (32 * (m - 1)) := Nat.mul_le_mul_right _ hlt
    have h6 : 2 ^ s.toNat * e.n < 2 ^ s.toNat * (2 ^ lenOf t * 2 ^ (32 * (m - 1))) := Nat.mul_lt_mul_of_pos_left (Nat.lt_of_lt_of_le hh h5) (Nat.two_pow_pos _)
    rw [← Nat.pow_add, ← Nat.pow_add, hs0, show 32 - lenOf t + (lenOf t + 32 * (m - 1)) = 32 * m by omega, ← hs0] at h6
    exact h6
  obtain ⟨sd1, sd2⟩ := shl_digs d n s q3 (by omega)
  obtain ⟨se1, se2⟩ := shl_digs e m s p3 (by omega)
  have hge : 2 ^ (32 * (m - 1)) ≤ 2 ^ s.toNat * e.n := Nat.le_trans p4 (Nat.le_mul_of_pos_left _ (Nat.two_pow_pos _))
  have elen : ∀ (x : Dg) (k : Nat), stdA.len (stdA.digs x 0 (k : Int)) = (k : Int) := fun x k => by
    show ((stdA.digs x 0 (k : Int)).length : Int) = _
    rw [digs_zero, Int.toNat_natCast, digL_length]
  have eall : ∀ (x : Dg) (k : Nat), stdA.all32 (stdA.digs x 0 (k : Int)) = true := fun x k => by
    rw [digs_zero]; exact (digL_W32 _ _).all'
  have enm : stdA.bin .sub .i64 (n : Int) (m : Int) = (n : Int) - m := by show stdBin .sub .i64 (n : Int) (m : Int) = _; simp only [stdBin, IntKind.wrap_i64]; omega
  rw [← hs] at *
  exact {
    o1 := by rw [e1]; exact decide_eq_true (show (0 : Int) ≤ m - 1 by omega)
    o2 := by rw [e1]; exact decide_eq_true (show (m : Int) - 1 < 32 by omega)
    o3 := by rw [etop]; exact decide_eq_true (show (0 : Int) ≤ t by omega)
    o4 := by rw [etop]; exact (word_ok _ (by omega) (by omega)).2
    o5 := decide_eq_true (Int.le_refl 0)
    o6 := decide_eq_true (show (0 : Int) ≤ n by omega)
    o7 := decide_eq_true (show (n : Int) ≤ 32 by omega)
    o8 := decide_eq_true (show 0 ≤ s by omega)
    o9 := decide_eq_true (show s < 32 by omega)
    o10 := eall d n
    o11 := by rw [elen]; exact decide_eq_true (show (n : Int) ≤ 64 by omega)
    o12 := decide_eq_true (show (0 : Int) ≤ m by omega)
    o13 := decide_eq_true (show (m : Int) ≤ 32 by omega)
    o14 := eall e m
    o15 := by rw [elen]; exact decide_eq_true (show (m : Int) ≤ 64 by omega)
    o16 := by
      rw [se1]
      show decide ((m : Int) ≤ ((digL (2 ^ s.toNat * e.n) (m + 1)).length : Int)) = true
      rw [digL_length]; exact decide_eq_true (by omega)
    ok := by
      rw [hm, hn, se1]
      exact ⟨hm2, hmn, q2, digL_W32 _ _, digL_length _ _, valL_digL _ _ se2, heB, hge⟩
    inv := by
      rw [hm, hn, se1, sd1, enm]
      refine ⟨by omega, by omega, digL_length _ _, digL_W32 _ _, ?_, ?_, ?_⟩
      · rw [valL_digL _ _ sd2]; simp [Dg.zero]
      · simp [Dg.zero]
      · rw [valL_digL _ _ sd2, Nat.div_lt_iff_lt_mul (Nat.two_pow_pos _), show ((n : Int) - m + 1).toNat = n - m + 1 by omega]
        have h1 : 2 ^ s.toNat * d.n < 2 ^ s.toNat * 2 ^ (32 * n) := Nat.mul_lt_mul_of_pos_left q3 (Nat.two_pow_pos _)
        have h2 : 2 ^ s.toNat * 2 ^ (32 * (m - 1)) ≤ 2 ^ s.toNat * e.n := Nat.mul_le_mul_left _ p4
        have h3 := Nat.mul_le_mul_right (2 ^ (32 * (n - m + 1))) h2
        rw [Nat.mul_assoc, ← Nat.pow_add, show 32 * (m - 1) + 32 * (n - m + 1) = 32 * n by omega] at h3
        exact Nat.lt_of_lt_of_le h1 h3
    s0 := by omega
    s1 := by omega }

/-- what the division tells at its end -/
theorem div_fin {Vl : List Int} {n m : Nat} {s : Int} {d e : Dg} {i : Int} {M : List Int} {q : Dg} (h : DivOK Vl n m (2 ^ s.toNat * e.n)) (hI : DvI Vl n m (2 ^ s.toNat * e.n) (2 ^ s.toNat * d.n) i M q) (hi : ¬ 0 ≤ i) :
    q.n = d.n / e.n ∧ valL M / 2 ^ s.toNat = d.n % e.n ∧ d.n % e.n < 2 ^ (32 * m) := by
  obtain ⟨i0, i1, lm, wm, sum, low, top⟩ := hI
  have hi1 : i = -1 := by omega
  subst hi1
  have ht : valL M < 2 ^ s.toNat * e.n := by simpa using top
  have hP := Nat.two_pow_pos s.toNat
  have hd : d.n = valL M / 2 ^ s.toNat + q.n * e.n := by
    have e1 : q.n * (2 ^ s.toNat * e.n) = 2 ^ s.toNat * (q.n * e.n) := by rw [← Nat.mul_assoc, Nat.mul_comm q.n, Nat.mul_assoc]
    rw [e1] at sum
    have := Nat.add_mul_div_left (valL M) (q.n * e.n) hP
    rw [sum, Nat.mul_div_cancel_left _ hP] at this
    exact this
  have hr : valL M / 2 ^ s.toNat < e.n := by rw [Nat.div_lt_iff_lt_mul hP, Nat.mul_comm]; exact ht
  have he : 0 < e.n := Nat.lt_of_le_of_lt (Nat.zero_le _) hr
  have hlt := h.lt
  have hm : e.n < 2 ^ (32 * m) := Nat.lt_of_le_of_lt (Nat.le_mul_of_pos_left _ hP) hlt
  generalize valL M / 2 ^ s.toNat = r at *
  have hdm : d.n / e.n = q.n ∧ d.n % e.n = r := by
    rw [hd, Nat.add_mul_div_right _ _ he, Nat.add_mul_mod_self_right, Nat.div_eq_of_lt hr, Nat.mod_eq_of_lt hr]
    exact ⟨by omega, rfl⟩
  exact ⟨hdm.1.symm, hdm.2.symm, by rw [hdm.2]; omega⟩

/-- the rest, shifted back, word by word -/
def RmI (M : List Int) (m : Nat) (s : Int) (j : Int) (r : Dg) : Prop := 0 ≤ j ∧ j ≤ m ∧ r.n = valL M / 2 ^ s.toNat % 2 ^ (32 * j.toNat)

structure RmStep (A : Alg) (M : List Int) (m : Nat) (s j : Int) (r : Dg) : Prop where
  o1 : A.cmp .leq 0 j = true
  o2 : A.cmp .lss j (A.len M) = true
  o3 : A.cmp .leq 0 (A.bin .add .i64 j 1) = true
  o4 : A.cmp .lss (A.bin .add .i64 j 1) (A.len M) = true
  o5 : A.cmp .geq s 0 = true
  o6 : A.cmp .lss j 32 = true
  o7 : A.cmp .leq 0 (A.wrap .u32 (A.bin .and .u64 (A.bin .shr .u64 (A.bin .or .u64 (A.bin .shl .u64 (A.wrap .u64 (A.get M (A.bin .add .i64 j 1) 0)) 32) (A.wrap .u64 (A.get M j 0))) s) 4294967295)) = true
  o8 : A.cmp .lss (A.wrap .u32 (A.bin .and .u64 (A.bin .shr .u64 (A.bin .or .u64 (A.bin .shl .u64 (A.wrap .u64 (A.get M (A.bin .add .i64 j 1) 0)) 32) (A.wrap .u64 (A.get M j 0))) s) 4294967295)) 4294967296 = true
  nx : RmI M m s (j + 1) (A.setD r j (A.wrap .u32 (A.bin .and .u64 (A.bin .shr .u64 (A.bin .or .u64 (A.bin .shl .u64 (A.wrap .u64 (A.get M (A.bin .add .i64 j 1) 0)) 32) (A.wrap .u64 (A.get M j 0))) s) 4294967295)))
  ad : A.bin .add .i64 j 1 = j + 1
  ms : ((m : Int) - (j + 1)).toNat < ((m : Int) - j).toNat

theorem rm_step {M : List Int} {n m : Nat} {s j : Int} {r : Dg} (hM : M.length = n + 1) (hmn : m ≤ n) (hn : n ≤ 32) (hW : W32 M) (s0 : 0 ≤ s) (s1 : s < 32) (hI : RmI M m s j r) (A : Alg) (hA : A = stdA) (me : Int) (hme : me = m) (hb : A.cmp .lss j me = true) : RmStep A M m s j r := by
  subst hA hme
  have hb : j < (m : Int) := of_decide_eq_true hb
  obtain ⟨j0, j1, hr⟩ := hI
  have hml : stdA.len M = (n : Int) + 1 := by show (M.length : Int) = _; rw [hM]; simp
  have e1 : stdA.bin .add .i64 j 1 = j + 1 := by show stdBin .add .i64 j 1 = j + 1; simp only [stdBin, IntKind.wrap_i64]; omega
  have hj1 : (j + 1).toNat = j.toNat + 1 := by omega
  obtain ⟨a0, a1⟩ := hW.getD (j.toNat + 1)
  obtain ⟨b0, b1⟩ := hW.getD j.toNat
  obtain ⟨Y, hY⟩ : ∃ Y, Y = valL M / 2 ^ (32 * j.toNat) := ⟨_, rfl⟩
  have g0 : M.getD j.toNat 0 = ((Y % 2 ^ 32 : Nat) : Int) := by rw [hY]; exact getD_W32 hW (by omega)
  have g1 : M.getD (j.toNat + 1) 0 = ((Y / 2 ^ 32 % 2 ^ 32 : Nat) : Int) := by
    rw [getD_W32 hW (by omega), hY, Nat.div_div_eq_div_mul, ← Nat.pow_add]
    rfl
  have ej : M.getD (j.toNat + 1) 0 * 4294967296 + M.getD j.toNat 0 = ((Y % 2 ^ 64 : Nat) : Int) := by rw [g0, g1]; omega
  have ev : stdA.wrap .u32 (stdA.bin .and .u64 (stdA.bin .shr .u64 (stdA.bin .or .u64 (stdA.bin .shl .u64 (stdA.wrap .u64 (stdA.get M (stdA.bin .add .i64 j 1) 0)) 32) (stdA.wrap .u64 (stdA.get M j 0))) s) 4294967295) = ((Y / 2 ^ s.toNat % 2 ^ 32 : Nat) : Int) := by
    rw [e1]
    show IntKind.u32.wrap (stdBin .and .u64 (stdBin .shr .u64 (stdBin .or .u64 (stdBin .shl .u64 (IntKind.u64.wrap (M.getD (j + 1).toNat 0)) 32) (IntKind.u64.wrap (M.getD j.toNat 0))) s) 4294967295) = _
    rw [hj1, u64_id _ a0 (by omega), u64_id _ b0 (by omega), shl32 _ a0 a1, join32 _ _ a0 a1 b0 b1, ej]
    have esh : stdBin .shr .u64 ((Y % 2 ^ 64 : Nat) : Int) s = ((Y % 2 ^ 64 / 2 ^ s.toNat : Nat) : Int) := by
      show ((Y % 2 ^ 64 : Nat) : Int).fdiv (2 ^ min s.toNat 64) = _
      rw [Nat.min_eq_left (by omega), Int.natCast_ediv, Int.fdiv_eq_ediv_of_nonneg _ (Int.pow_nonneg (by decide))]
      simp
    have hlt : Y % 2 ^ 64 / 2 ^ s.toNat < 2 ^ 64 := Nat.lt_of_le_of_lt (Nat.div_le_self _ _) (Nat.mod_lt _ (by decide))
    rw [esh, low_word _ (Int.natCast_nonneg _) (by omega)]
    have e2 : Y % 2 ^ 64 / 2 ^ s.toNat % 2 ^ 32 = Y / 2 ^ s.toNat % 2 ^ 32 := by
      have : (2 : Nat) ^ 64 = 2 ^ s.toNat * 2 ^ (64 - s.toNat) := by rw [← Nat.pow_add]; congr 1; omega
      rw [this, Nat.mod_mul_right_div_self, Nat.mod_mod_of_dvd _ (Nat.pow_dvd_pow 2 (by omega))]
    rw [← e2]
    omega
  have hdg : Y / 2 ^ s.toNat = valL M / 2 ^ s.toNat / 2 ^ (32 * j.toNat) := by rw [hY, Nat.div_div_eq_div_mul, Nat.div_div_eq_div_mul, Nat.mul_comm]
  have hrl : r.n < 2 ^ (32 * j.toNat) := by rw [hr]; exact Nat.mod_lt _ (Nat.two_pow_pos _)
  exact {
    o1 := decide_eq_true j0
    o2 := by rw [hml]; exact decide_eq_true (show j < (n : Int) + 1 by omega)
    o3 := by rw [e1]; exact decide_eq_true (show 0 ≤ j + 1 by omega)
    o4 := by rw [hml, e1]; exact decide_eq_true (show j + 1 < (n : Int) + 1 by omega)
    o5 := decide_eq_true s0
    o6 := decide_eq_true (show j < 32 by omega)
    o7 := by rw [ev]; exact @decide_eq_true (0 ≤ ((Y / 2 ^ s.toNat % 2 ^ 32 : Nat) : Int)) _ (Int.natCast_nonneg _)
    o8 := by rw [ev]; exact (word_ok _ (Int.natCast_nonneg _) (by omega)).2
    nx := by
      refine ⟨by omega, by omega, ?_⟩
      rw [ev, hj1]
      show (r.set j.toNat ((Y / 2 ^ s.toNat % 2 ^ 32 : Nat) : Int).toNat).n = _
      rw [Int.toNat_natCast, Dg.set_top r j.toNat _ (by omega) (Nat.mod_lt _ (by decide)) hrl, hr, hdg, pow_step, Nat.mod_mul]
    ad := e1
    ms := by omega }

theorem rm_end {M : List Int} {m : Nat} {s j : Int} {r : Dg} {x : Nat} (hI : RmI M m s j r) (A : Alg) (hA : A = stdA) (me : Int) (hme : me = m) (hb : A.cmp .lss j me = false) (hx : valL M / 2 ^ s.toNat = x) (hlt : x < 2 ^ (32 * m)) : r.n = x := by
  subst hA hme
  have hb : ¬ j < (m : Int) := of_decide_eq_false hb
  obtain ⟨j0, j1, hr⟩ := hI
  rw [hr, hx, show j.toNat = m by omega, Nat.mod_eq_of_lt hlt]
end Go.Eng
