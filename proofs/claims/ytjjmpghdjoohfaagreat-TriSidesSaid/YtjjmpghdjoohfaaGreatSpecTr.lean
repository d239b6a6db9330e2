
import Derived.Test.YtjjmpghdjoohfaaGreatSpecFA
set_option linter.all false
set_option exponentiation.threshold 3000
namespace Go.Eng
set_option maxRecDepth 100000
set_option maxHeartbeats 2000000
theorem sgn_pos {q : Rat} (h : 0 < q) : sgnQ q 0 = 1 := by
  rcases sgnQ_cases q 0 with ⟨g, e, _⟩ | ⟨g, e, _⟩ | ⟨g, e, _⟩
  · exfalso; grind
  · exfalso; grind
  · exact e
theorem sgn_zer {q : Rat} (h : q = 0) : sgnQ q 0 = 0 := sgnQ_zero.2 h
theorem sgn_neg {q : Rat} (h : q < 0) : sgnQ q 0 = -1 := by
  rcases sgnQ_cases q 0 with ⟨g, e, _⟩ | ⟨g, e, _⟩ | ⟨g, e, _⟩
  · exact e
  · exfalso; grind
  · exfalso; grind
theorem pos_of_sgn {q : Rat} (h : sgnQ q 0 = 1) : 0 < q := by
  rcases sgnQ_cases q 0 with ⟨g, e, _⟩ | ⟨g, e, _⟩ | ⟨g, e, _⟩
  · rw [e] at h; cases h
  · rw [e] at h; cases h
  · exact g
theorem plOK_mk {a b c p : Pt} (h : allP [a, b, c] = true) (hp : ptOK p = true) (hD : 0 < crossQ a b c) : plOKP a b c p = true := by
  unfold plOKP
  rw [h, hp, sgn_pos hD]; rfl
theorem place_val {a b c p : Pt} (h : plOKP a b c p = true) : stdE.place a b c p = min3 (sgnQ (crossQ a b p) 0) (sgnQ (crossQ b c p) 0) (sgnQ (crossQ c a p) 0) := if_pos h
theorem place_corner {a b c : Pt} (h : allP [a, b, c] = true) (ha : ptOK a = true) (hD : 0 < crossQ a b c) : stdE.plOK a b c a = true ∧ stdE.place a b c a = 0 := by
  have hp := plOK_mk h ha hD
  refine ⟨hp, ?_⟩
  rw [place_val hp, sgn_zer (cross_aba a b), sgn_zer (cross_abb c a), sgn_pos (by rw [cross_rot]; exact hD)]
  rfl
theorem place_mid {a b c m : Pt} (h : allP [a, b, c] = true) (hm : ptOK m = true) (hD : 0 < crossQ a b c) (hx : px m * 3 = px a + px b + px c) (hy : py m * 3 = py a + py b + py c) : stdE.plOK a b c m = true ∧ stdE.place a b c m = 1 := by
  have hp := plOK_mk h hm hD
  refine ⟨hp, ?_⟩
  have e1 : crossQ a b m * 3 = crossQ a b c := by
    have : crossQ a b m * 3 = (px b - px a) * (py m * 3 - 3 * py a) - (py b - py a) * (px m * 3 - 3 * px a) := by unfold crossQ; grind
    rw [this, hx, hy]; unfold crossQ; grind
  have e2 : crossQ b c m * 3 = crossQ a b c := by
    have : crossQ b c m * 3 = (px c - px b) * (py m * 3 - 3 * py b) - (py c - py b) * (px m * 3 - 3 * px b) := by unfold crossQ; grind
    rw [this, hx, hy]; unfold crossQ; grind
  have e3 : crossQ c a m * 3 = crossQ a b c := by
    have : crossQ c a m * 3 = (px a - px c) * (py m * 3 - 3 * py c) - (py a - py c) * (px m * 3 - 3 * px c) := by unfold crossQ; grind
    rw [this, hx, hy]; unfold crossQ; grind
  rw [place_val hp, sgn_pos (by grind), sgn_pos (by grind), sgn_pos (by grind)]
  rfl
theorem place_half {a b c m : Pt} (h : allP [a, b, c] = true) (hm : ptOK m = true) (hD : 0 < crossQ a b c) (hx : px m * 2 = px a + px b) (hy : py m * 2 = py a + py b) : stdE.plOK a b c m = true ∧ stdE.place a b c m = 0 := by
  have hp := plOK_mk h hm hD
  refine ⟨hp, ?_⟩
  have e1 : crossQ a b m * 2 = 0 := by
    have : crossQ a b m * 2 = (px b - px a) * (py m * 2 - 2 * py a) - (py b - py a) * (px m * 2 - 2 * px a) := by unfold crossQ; grind
    rw [this, hx, hy]; grind
  have e2 : crossQ b c m * 2 = crossQ a b c := by
    have : crossQ b c m * 2 = (px c - px b) * (py m * 2 - 2 * py b) - (py c - py b) * (px m * 2 - 2 * px b) := by unfold crossQ; grind
    rw [this, hx, hy]; unfold crossQ; grind
  have e3 : crossQ c a m * 2 = crossQ a b c := by
    have : crossQ c a m * 2 = (px a - px c) * (py m * 2 - 2 * py c) - (py a - py c) * (px m * 2 - 2 * px c) := by unfold crossQ; grind
    rw [this, hx, hy]; unfold crossQ; grind
  rw [place_val hp, sgn_zer (by grind), sgn_pos (by grind), sgn_pos (by grind)]
  rfl
theorem place_back {a b c m : Pt} (hD : 0 < crossQ a b c) : stdE.plOK a c b m = false := by
  show plOKP a c b m = false
  have e : crossQ a c b = -crossQ a b c := by unfold crossQ; grind
  unfold plOKP
  rw [e, sgn_neg (by grind)]
  cases allP [a, c, b] <;> cases ptOK m <;> rfl
theorem dot_two (a b c : Pt) : dotQ a b c + dotQ b c a = (px b - px a) * (px b - px a) + (py b - py a) * (py b - py a) := by unfold dotQ; grind
theorem dots_pos {a b c : Pt} (hD : 0 < crossQ a b c) : 0 < dotQ a b c + dotQ b c a := by
  rw [dot_two]
  refine sq2_pos ?_
  by_cases h1 : px b - px a = 0
  · right
    intro h2
    unfold crossQ at hD
    rw [h1, h2] at hD
    grind
  · exact .inl h1
theorem sharp_size {a b c : Pt} (ha : IsPt a) (hb : IsPt b) (hc : IsPt c) (hd : dotQ a b c ≠ 0) : SmQ 490 (crossQ a b c / dotQ a b c) := by
  obtain ⟨an, ad⟩ := rval_num ha.x.is
  obtain ⟨bn, bd⟩ := rval_num hb.x.is
  obtain ⟨cn, cd⟩ := rval_num hc.x.is
  obtain ⟨an', ad'⟩ := rval_num ha.y.is
  obtain ⟨bn', bd'⟩ := rval_num hb.y.is
  obtain ⟨cn', cd'⟩ := rval_num hc.y.is
  have sa := ha.x.q
  have sb := hb.x.q
  have sc := hc.x.q
  have sa' := ha.y.q
  have sb' := hb.y.q
  have sc' := hc.y.q
  have key : ∀ r : Rat, r * ((r.den : Int) : Rat) = ((r.num : Int) : Rat) := fun r => by
    have h := Rat.num_divInt_den r
    rw [Rat.divInt_eq_div] at h
    have h0 : (((r.den : Nat) : Int) : Rat) ≠ 0 := fun h => by
      have := Rat.intCast_eq_zero_iff.1 h
      have := r.den_pos
      omega
    calc r * ((r.den : Int) : Rat) = ((r.num : Rat) / ((r.den : Int) : Rat)) * ((r.den : Int) : Rat) := by rw [h]
      _ = (r.num : Rat) := Rat.div_mul_cancel h0
  have ax := key (px a)
  have bx := key (px b)
  have cx := key (px c)
  have ay := key (py a)
  have by_ := key (py b)
  have cy := key (py c)
  have dpos : ∀ r : Rat, ((r.den : Int)) ≠ 0 := fun r => by have := r.den_pos; omega
  have d1 := dpos (px a)
  have d2 := dpos (px b)
  have d3 := dpos (px c)
  have d4 := dpos (py a)
  have d5 := dpos (py b)
  have d6 := dpos (py c)
  have s1 : Sm 60 ((px a).num) := sa.1
  have s2 : Sm 60 (((px a).den : Int)) := sa.2
  have s3 : Sm 60 ((px b).num) := sb.1
  have s4 : Sm 60 (((px b).den : Int)) := sb.2
  have s5 : Sm 60 ((px c).num) := sc.1
  have s6 : Sm 60 (((px c).den : Int)) := sc.2
  have s7 : Sm 60 ((py a).num) := sa'.1
  have s8 : Sm 60 (((py a).den : Int)) := sa'.2
  have s9 : Sm 60 ((py b).num) := sb'.1
  have s10 : Sm 60 (((py b).den : Int)) := sb'.2
  have s11 : Sm 60 ((py c).num) := sc'.1
  have s12 : Sm 60 (((py c).den : Int)) := sc'.2
  obtain ⟨X, hX⟩ : ∃ X, X = crossQ a b c := ⟨_, rfl⟩
  obtain ⟨D, hD⟩ : ∃ D, D = dotQ a b c := ⟨_, rfl⟩
  rw [← hX, ← hD]
  rw [← hD] at hd
  unfold crossQ at hX
  unfold dotQ at hD
  generalize px a = xa at *
  generalize px b = xb at *
  generalize px c = xc at *
  generalize py a = ya at *
  generalize py b = yb at *
  generalize py c = yc at *
  generalize xa.num = n1 at *
  generalize ((xa.den : Nat) : Int) = e1 at *
  generalize xb.num = n2 at *
  generalize ((xb.den : Nat) : Int) = e2 at *
  generalize xc.num = n3 at *
  generalize ((xc.den : Nat) : Int) = e3 at *
  generalize ya.num = n4 at *
  generalize ((ya.den : Nat) : Int) = e4 at *
  generalize yb.num = n5 at *
  generalize ((yb.den : Nat) : Int) = e5 at *
  generalize yc.num = n6 at *
  generalize ((yc.den : Nat) : Int) = e6 at *
  have hP : X * ((e1 * e4 * e2 * e5 * e3 * e6 : Int) : Rat) = (((n2 * n6 * e1 * e4 * e5 * e3 - n2 * n4 * e1 * e5 * e3 * e6 - n1 * n6 * e4 * e2 * e5 * e3) - (n5 * n3 * e1 * e4 * e2 * e6 - n5 * n1 * e4 * e2 * e3 * e6 - n4 * n3 * e1 * e2 * e5 * e6) : Int) : Rat) := by
    rw [hX]
    simp only [Rat.intCast_sub, Rat.intCast_mul]
    rw [← ax, ← bx, ← cx, ← ay, ← by_, ← cy]
    grind
  have hQ : D * ((e1 * e4 * e2 * e5 * e3 * e6 * e1 * e4 : Int) : Rat) = (((n2 * e1 - n1 * e2) * (n3 * e1 - n1 * e3) * e4 * e4 * e5 * e6 + (n5 * e4 - n4 * e5) * (n6 * e4 - n4 * e6) * e1 * e1 * e2 * e3 : Int) : Rat) := by
    rw [hD]
    simp only [Rat.intCast_sub, Rat.intCast_mul, Rat.intCast_add]
    rw [← ax, ← bx, ← cx, ← ay, ← by_, ← cy]
    grind
  have hE : ((e1 * e4 * e2 * e5 * e3 * e6 * e1 * e4 : Int) : Rat) ≠ 0 := fun h => by
    have := Rat.intCast_eq_zero_iff.1 h
    simp only [Int.mul_eq_zero] at this
    omega
  have hP' : X * ((e1 * e4 * e2 * e5 * e3 * e6 * e1 * e4 : Int) : Rat) = (((n2 * n6 * e1 * e4 * e5 * e3 - n2 * n4 * e1 * e5 * e3 * e6 - n1 * n6 * e4 * e2 * e5 * e3) - (n5 * n3 * e1 * e4 * e2 * e6 - n5 * n1 * e4 * e2 * e3 * e6 - n4 * n3 * e1 * e2 * e5 * e6)) * (e1 * e4) : Int) := by
    have e : X * ((e1 * e4 * e2 * e5 * e3 * e6 * e1 * e4 : Int) : Rat) = X * ((e1 * e4 * e2 * e5 * e3 * e6 : Int) : Rat) * ((e1 * e4 : Int) : Rat) := by
      simp only [Rat.intCast_mul]; grind
    rw [e, hP]; exact (Rat.intCast_mul _ _).symm
  generalize hN : ((n2 * n6 * e1 * e4 * e5 * e3 - n2 * n4 * e1 * e5 * e3 * e6 - n1 * n6 * e4 * e2 * e5 * e3) - (n5 * n3 * e1 * e4 * e2 * e6 - n5 * n1 * e4 * e2 * e3 * e6 - n4 * n3 * e1 * e2 * e5 * e6)) * (e1 * e4) = N at hP'
  generalize hM : (n2 * e1 - n1 * e2) * (n3 * e1 - n1 * e3) * e4 * e4 * e5 * e6 + (n5 * e4 - n4 * e5) * (n6 * e4 - n4 * e6) * e1 * e1 * e2 * e3 = M at hQ
  generalize hW : ((e1 * e4 * e2 * e5 * e3 * e6 * e1 * e4 : Int) : Rat) = W at *
  have hM0 : (M : Rat) ≠ 0 := by
    rw [← hQ]
    intro h
    rcases Rat.mul_eq_zero.1 h with h | h
    · exact hd h
    · exact hE h
  have hM1 : M ≠ 0 := fun h => hM0 (by rw [h]; rfl)
  have e : X / D = Rat.divInt N M := by
    rw [Rat.divInt_eq_div, ← hP', ← hQ]
    have h1 : X / D * (D * W) = X * W := by
      have : X / D * D = X := Rat.div_mul_cancel hd
      grind
    rw [← h1]
    exact (Rat.mul_div_cancel (by rw [hQ]; exact hM0)).symm
  rw [e]
  have t : ∀ a b c d e f : Int, Sm 60 a → Sm 60 b → Sm 60 c → Sm 60 d → Sm 60 e → Sm 60 f → Sm 360 (a * b * c * d * e * f) := fun a b c d e f ha hb hc hd he hf => ((((ha.mul hb).mul hc).mul hd).mul he).mul hf
  have u : ∀ a b c d : Int, Sm 60 a → Sm 60 b → Sm 60 c → Sm 60 d → Sm 121 (a * b - c * d) := fun a b c d ha hb hc hd => (ha.mul hb).sub (hc.mul hd)
  refine SmQ.div ?_ ?_ hM1
  · rw [← hN]
    have p1 := t _ _ _ _ _ _ s3 s11 s2 s8 s10 s6
    have p2 := t _ _ _ _ _ _ s3 s7 s2 s10 s6 s12
    have p3 := t _ _ _ _ _ _ s1 s11 s8 s4 s10 s6
    have p4 := t _ _ _ _ _ _ s9 s5 s2 s8 s4 s12
    have p5 := t _ _ _ _ _ _ s9 s1 s8 s4 s6 s12
    have p6 := t _ _ _ _ _ _ s7 s5 s2 s4 s10 s12
    have q1 := (p1.sub p2).sub (p3.mono (by decide))
    have q2 := (p4.sub p5).sub (p6.mono (by decide))
    exact ((q1.sub q2).mul (s2.mul s8)).mono (by decide)
  · rw [← hM]
    have q1 := (((((u _ _ _ _ s3 s2 s1 s4).mul (u _ _ _ _ s5 s2 s1 s6)).mul s8).mul s8).mul s10).mul s12
    have q2 := (((((u _ _ _ _ s9 s8 s7 s10).mul (u _ _ _ _ s11 s8 s7 s12)).mul s2).mul s2).mul s4).mul s6
    exact (q1.add q2).mono (by decide)
structure TcF (A : Alg) (F : SF) (H : SH) (E : SE) (a b c : Pt) : Prop where
  p1 : H.all [a, b, c] = true
  p2 : H.all [b, c, a] = true
  p3 : H.all [c, a, b] = true
  p4 : H.all [a, c, b] = true
  w1 : E.acute a b c = true → A.cmp .lss (F.cmp (E.sharp a b c) (H.whole 1)) 0 = A.not (E.wide a b c)
  w2 : E.acute b c a = true → A.cmp .lss (F.cmp (E.sharp b c a) (H.whole 1)) 0 = A.not (E.wide b c a)
  w3 : E.acute c a b = true → A.cmp .lss (F.cmp (E.sharp c a b) (H.whole 1)) 0 = A.not (E.wide c a b)
  v1 : E.acute a b c = false → E.wide a b c = true
  v2 : E.acute b c a = false → E.wide b c a = true
  v3 : E.acute c a b = false → E.wide c a b = true
  g : E.good a b c = A.ite (A.ite (E.wide a b c) (E.wide b c a) false) (E.wide c a b) false
  h : E.good b c a = E.good a b c
  o : E.good a c b = false
  n12 : E.acute a b c = false → E.acute b c a = true
  n23 : E.acute b c a = false → E.acute c a b = true
  n31 : E.acute c a b = false → E.acute a b c = true
theorem cmp_one {a b c : Pt} (h : allP [a, b, c] = true) (hD : 0 < crossQ a b c) (ht : stdE.acute a b c = true) : stdA.cmp .lss (stdF.cmp (stdE.sharp a b c) (stdH.whole 1)) 0 = stdA.not (stdE.wide a b c) := by
  have hall : (ptOK a && (ptOK b && (ptOK c && true))) = true := h
  simp only [Bool.and_true, Bool.and_eq_true] at hall
  have ht' : (allP [a, b, c] && decide (0 < dotQ a b c)) = true := ht
  rw [h, Bool.true_and, decide_eq_true_eq] at ht'
  have es : stdE.sharp a b c = ofQ (crossQ a b c / dotQ a b c) := by
    show (if allP [a, b, c] = true then (if 0 < dotQ a b c then _ else _) else _) = _
    rw [if_pos h, if_pos ht']
  have hd : dotQ a b c ≠ 0 := fun e => by rw [e] at ht'; exact absurd ht' (by decide)
  have cs : Cal (ofQ (crossQ a b c / dotQ a b c)) (crossQ a b c / dotQ a b c) 490 := Cal.q (sharp_size (isPt_of hall.1) (isPt_of hall.2.1) (isPt_of hall.2.2) hd) (by decide)
  have c1 : Cal (ofQ ((1 : Int) : Rat)) ((1 : Int) : Rat) 490 := (Cal.int (k := 2) (by show (1 : Int).natAbs < 2 ^ 2; decide) (by decide) (by decide)).mono (by decide)
  have hc := (cs.cmp c1 (by decide)).2
  rw [es]
  show decide (stdF.cmp (ofQ (crossQ a b c / dotQ a b c)) (ofQ ((1 : Int) : Rat)) < 0) = !decide (dotQ a b c ≤ crossQ a b c)
  rw [hc]
  have hm : crossQ a b c / dotQ a b c * dotQ a b c = crossQ a b c := Rat.div_mul_cancel hd
  generalize crossQ a b c / dotQ a b c = s at hm ⊢
  have h1 : ((1 : Int) : Rat) = 1 := rfl
  rw [h1]
  rcases sgnQ_cases s 1 with ⟨g, e, _⟩ | ⟨g, e, _⟩ | ⟨g, e, _⟩ <;> rw [e]
  · have := Rat.mul_pos ht' (by grind : 0 < 1 - s)
    rw [decide_eq_false (Rat.not_le.2 (by grind : crossQ a b c < dotQ a b c))]; rfl
  · rw [decide_eq_true (by grind : dotQ a b c ≤ crossQ a b c)]; rfl
  · have := Rat.mul_pos ht' (by grind : 0 < s - 1)
    rw [decide_eq_true (by grind : dotQ a b c ≤ crossQ a b c)]; rfl
theorem tc_f {a b c : Pt} (A : Alg) (hA : A = stdA) (F : SF) (hF : F = stdF) (H : SH) (hH : H = stdH) (E : SE) (hE : E = stdE) (h : A.ite (A.not (H.all [a, b, c])) true (A.cmp .neq (H.turn a b c) 1) = false) : TcF A F H E a b c := by
  subst hA hF hH hE
  have h : (if (!allP [a, b, c]) = true then true else (stdH.turn a b c != 1)) = false := h
  cases hp : allP [a, b, c]
  · rw [hp] at h; cases h
  rw [hp] at h
  have h : (stdH.turn a b c != 1) = false := h
  rw [bne_eq_false_iff_eq, turn_ok hp] at h
  have hD := pos_of_sgn h
  have hall : (ptOK a && (ptOK b && (ptOK c && true))) = true := hp
  simp only [Bool.and_true, Bool.and_eq_true] at hall
  obtain ⟨ga, gb, gc⟩ := hall
  have p2 : allP [b, c, a] = true := all3 gb gc ga
  have p3 : allP [c, a, b] = true := all3 gc ga gb
  have p4 : allP [a, c, b] = true := all3 ga gc gb
  have D2 : 0 < crossQ b c a := by rw [cross_rot]; exact hD
  have D3 : 0 < crossQ c a b := by rw [cross_rot, cross_rot]; exact hD
  have ac : ∀ x y z : Pt, allP [x, y, z] = true → stdE.acute x y z = decide (0 < dotQ x y z) := fun x y z h => by
    show (allP [x, y, z] && _) = _
    rw [h, Bool.true_and]
  have wd : ∀ x y z : Pt, allP [x, y, z] = true → 0 < crossQ x y z → stdE.acute x y z = false → stdE.wide x y z = true := fun x y z h hx h2 => by
    rw [ac _ _ _ h, decide_eq_false_iff_not] at h2
    have := Rat.not_lt.1 h2
    exact decide_eq_true (by grind : dotQ x y z ≤ crossQ x y z)
  have nn : ∀ x y z : Pt, allP [x, y, z] = true → allP [y, z, x] = true → 0 < crossQ x y z → stdE.acute x y z = false → stdE.acute y z x = true := fun x y z h h' hx h2 => by
    rw [ac _ _ _ h, decide_eq_false_iff_not] at h2
    rw [ac _ _ _ h', decide_eq_true_eq]
    have := Rat.not_lt.1 h2
    have := dots_pos hx
    grind
  have s1 : sgnQ (crossQ a b c) 0 = 1 := h
  refine ⟨hp, p2, p3, p4, cmp_one hp hD, cmp_one p2 D2, cmp_one p3 D3, wd _ _ _ hp hD, wd _ _ _ p2 D2, wd _ _ _ p3 D3, ?_, ?_, ?_, nn _ _ _ hp p2 hD, nn _ _ _ p2 p3 D2, nn _ _ _ p3 hp D3⟩
  · show (allP [a, b, c] && (decide (sgnQ (crossQ a b c) 0 = 1) && (wideP a b c && (wideP b c a && wideP c a b)))) = (if (if wideP a b c = true then wideP b c a else false) = true then wideP c a b else false)
    rw [hp, decide_eq_true s1]
    cases wideP a b c <;> cases wideP b c a <;> cases wideP c a b <;> rfl
  · show (allP [b, c, a] && (decide (sgnQ (crossQ b c a) 0 = 1) && (wideP b c a && (wideP c a b && wideP a b c)))) = (allP [a, b, c] && (decide (sgnQ (crossQ a b c) 0 = 1) && (wideP a b c && (wideP b c a && wideP c a b))))
    rw [hp, p2, cross_rot]
    cases decide (sgnQ (crossQ a b c) 0 = 1) <;> cases wideP a b c <;> cases wideP b c a <;> cases wideP c a b <;> rfl
  · show (allP [a, c, b] && (decide (sgnQ (crossQ a c b) 0 = 1) && _)) = false
    have e : crossQ a c b = -crossQ a b c := by unfold crossQ; grind
    rw [e, sgn_neg (by grind), Bool.and_comm]; rfl
structure TsF (A : Alg) (F : SF) (H : SH) (E : SE) (w h bx by_ : Int) : Prop where
  p1 : H.all [H.at_ 0 0, H.at_ w 0, H.at_ 0 h] = true
  p2 : H.all [H.at_ w 0, H.at_ 0 h, H.at_ 0 0] = true
  p3 : H.all [H.at_ 0 0, H.at_ bx by_, H.at_ 0 0] = true
  n : F.two (E.side (H.at_ 0 0) (H.at_ w 0) (H.at_ 0 h) (H.at_ 0 0) (H.at_ w 0)) (E.side (H.at_ 0 0) (H.at_ w 0) (H.at_ 0 h) (H.at_ 0 h) (H.at_ 0 0)) = true
  q1 : A.eqR (E.side (H.at_ 0 0) (H.at_ w 0) (H.at_ 0 h) (H.at_ w 0) (H.at_ 0 h)) (F.add (E.side (H.at_ 0 0) (H.at_ w 0) (H.at_ 0 h) (H.at_ 0 0) (H.at_ w 0)) (E.side (H.at_ 0 0) (H.at_ w 0) (H.at_ 0 h) (H.at_ 0 h) (H.at_ 0 0))) = true
  q2 : A.eqR (E.side (H.at_ w 0) (H.at_ 0 h) (H.at_ 0 0) (H.at_ w 0) (H.at_ 0 h)) (E.side (H.at_ 0 0) (H.at_ w 0) (H.at_ 0 h) (H.at_ w 0) (H.at_ 0 h)) = true
  q3 : A.eqR (E.side (H.at_ w 0) (H.at_ 0 h) (H.at_ 0 0) (H.at_ 0 h) (H.at_ 0 0)) (E.side (H.at_ 0 0) (H.at_ w 0) (H.at_ 0 h) (H.at_ 0 h) (H.at_ 0 0)) = true
  q4 : A.eqR (E.side (H.at_ w 0) (H.at_ 0 h) (H.at_ 0 0) (H.at_ 0 0) (H.at_ w 0)) (E.side (H.at_ 0 0) (H.at_ w 0) (H.at_ 0 h) (H.at_ 0 0) (H.at_ w 0)) = true
  q5 : A.eqR (E.side (H.at_ 0 0) (H.at_ bx by_) (H.at_ 0 0) (H.at_ 0 0) (H.at_ bx by_)) (E.side (H.at_ 0 0) (H.at_ bx by_) (H.at_ 0 0) (H.at_ bx by_) (H.at_ 0 0)) = true
  q6 : A.eqR (E.side (H.at_ 0 0) (H.at_ bx by_) (H.at_ 0 0) (H.at_ 0 0) (H.at_ 0 0)) (H.whole 0) = true
theorem ts_f {w h bx by_ : Int} (hw : 0 ≤ w ∧ w < 256) (hh : 0 ≤ h ∧ h < 256) (hx : -128 ≤ bx ∧ bx < 128) (hy : -128 ≤ by_ ∧ by_ < 128) (A : Alg) (hA : A = stdA) (F : SF) (hF : F = stdF) (H : SH) (hH : H = stdH) (E : SE) (hE : E = stdE) : TsF A F H E w h bx by_ := by
  subst hA hF hH hE
  have z : Sm 60 0 := by show (0 : Int).natAbs < 2 ^ 60; decide
  have a := atP z z
  have b := atP (x := w) (y := 0) (by show w.natAbs < 2 ^ 60; omega) z
  have c := atP (x := 0) (y := h) z (by show h.natAbs < 2 ^ 60; omega)
  have e := atP (x := bx) (y := by_) (by show bx.natAbs < 2 ^ 60; omega) (by show by_.natAbs < 2 ^ 60; omega)
  have p1 := all3 a.is b.is c.is
  have p2 := all3 b.is c.is a.is
  have p3 := all3 a.is e.is a.is
  have sd : ∀ (x y u v t : Pt) , allP [x, y, u] = true → stdE.side x y u v t = ofQ (dotQ v t t) := fun x y u v t h => if_pos h
  have sq : ∀ n : Int, -256 < n → n < 256 → Sm 20 (n * n) := fun n h1 h2 => by
    show (n * n).natAbs < 2 ^ 20
    rw [Int.natAbs_mul]
    calc n.natAbs * n.natAbs < 2 ^ 10 * 2 ^ 10 := Nat.mul_lt_mul'' (by omega) (by omega)
      _ = 2 ^ 20 := rfl
  have d1 : dotQ (stdH.at_ 0 0) (stdH.at_ w 0) (stdH.at_ w 0) = ((w * w : Int) : Rat) := by
    rw [dot_int a b b]; congr 1; simp [Int.neg_mul_neg]
  have d2 : dotQ (stdH.at_ 0 h) (stdH.at_ 0 0) (stdH.at_ 0 0) = ((h * h : Int) : Rat) := by
    rw [dot_int c a a]; congr 1; simp [Int.neg_mul_neg]
  have d3 : dotQ (stdH.at_ w 0) (stdH.at_ 0 h) (stdH.at_ 0 h) = ((w * w : Int) : Rat) + ((h * h : Int) : Rat) := by
    rw [dot_int b c c, ← Rat.intCast_add]; congr 1; simp [Int.neg_mul_neg]
  have c1 : Cal (ofQ ((w * w : Int) : Rat)) ((w * w : Int) : Rat) 20 := Cal.int (sq w (by omega) (by omega)) (by decide) (by decide)
  have c2 : Cal (ofQ ((h * h : Int) : Rat)) ((h * h : Int) : Rat) 20 := Cal.int (sq h (by omega) (by omega)) (by decide) (by decide)
  have ad := c1.add c2 (by decide)
  refine ⟨p1, p2, p3, ?_, ?_, ?_, ?_, ?_, ?_, ?_⟩
  · rw [sd _ _ _ _ _ p1, sd _ _ _ _ _ p1, d1, d2]; exact ad.1
  · refine eqR_of ?_
    rw [sd _ _ _ _ _ p1, sd _ _ _ _ _ p1, sd _ _ _ _ _ p1, d1, d2, d3]
    exact ad.2.eq.symm
  · exact eqR_of (by rw [sd _ _ _ _ _ p1, sd _ _ _ _ _ p2])
  · exact eqR_of (by rw [sd _ _ _ _ _ p1, sd _ _ _ _ _ p2])
  · exact eqR_of (by rw [sd _ _ _ _ _ p1, sd _ _ _ _ _ p2])
  · refine eqR_of ?_
    rw [sd _ _ _ _ _ p3, sd _ _ _ _ _ p3]
    congr 1
    unfold dotQ; grind
  · refine eqR_of ?_
    rw [sd _ _ _ _ _ p3]
    show ofQ _ = ofQ ((0 : Int) : Rat)
    congr 1
    unfold dotQ
    have : ((0 : Int) : Rat) = 0 := rfl
    rw [this]; grind
end Go.Eng

