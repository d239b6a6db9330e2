
import Derived.Test.YtjjmpghdjoohfaaGreatZLR0
import Derived.Test.YtjjmpghdjoohfaaGreatZCU2
import Derived.Test.YtjjmpghdjoohfaaGreatSpecFA
import Derived.Test.YtjjmpghdjoohfaaGreatSpecTr
set_option linter.all false
set_option exponentiation.threshold 3000
namespace Go.Eng
open Go.Proofs
set_option maxRecDepth 100000
set_option linter.all false
set_option exponentiation.threshold 3000
set_option maxHeartbeats 2000000
theorem mid_smT {l : List Pt} (h : midB l = true) : SmQ 490 (sumQ (l.map px) / ((l.length : Int) : Rat)) ∧ SmQ 490 (sumQ (l.map py) / ((l.length : Int) : Rat)) := by
  have hc' := h
  unfold midB at hc'
  simp only [Bool.and_eq_true, decide_eq_true_eq] at hc'
  obtain ⟨c1, c2, c3⟩ := hc'
  obtain ⟨x1, x2⟩ := sum_ok (l := l.map Pt.X) (by rw [List.length_map]; omega) (fun r hr => by obtain ⟨p, hp, rfl⟩ := List.mem_map.1 hr; exact (allP_mem c3 hp).x)
  obtain ⟨y1, y2⟩ := sum_ok (l := l.map Pt.Y) (by rw [List.length_map]; omega) (fun r hr => by obtain ⟨p, hp, rfl⟩ := List.mem_map.1 hr; exact (allP_mem c3 hp).y)
  have hz : Sm 3 (l.length : Int) := by show (l.length : Int).natAbs < 2 ^ 3; omega
  have cn : Cal (ofQ (((l.length : Int)) : Rat)) (((l.length : Int)) : Rat) 245 := (Cal.int hz (by decide) (by decide)).mono (by decide)
  have n0 : (((l.length : Int)) : Rat) ≠ 0 := fun h => by
    have := Rat.intCast_eq_zero_iff.1 h
    omega
  have mx : (l.map Pt.X).map rval = l.map px := by rw [List.map_map]; rfl
  have my : (l.map Pt.Y).map rval = l.map py := by rw [List.map_map]; rfl
  rw [mx] at x2
  rw [my] at y2
  exact ⟨(x2.div cn (by decide) n0).2.sm, (y2.div cn (by decide) n0).2.sm⟩
theorem mid_valT {l : List Pt} (h : midB l = true) : px (stdH.mid l) = sumQ (l.map px) / ((l.length : Int) : Rat) ∧ py (stdH.mid l) = sumQ (l.map py) / ((l.length : Int) : Rat) := by
  rw [mid_ok h]
  obtain ⟨h1, h2⟩ := mid_smT h
  exact ⟨rval_ofQ (h1.fit (by decide)), rval_ofQ (h2.fit (by decide))⟩
def tpC (A : Alg) (H : SH) (a b c : Pt) : Bool := A.ite (A.ite (A.ite (A.not (H.all [a, b, c])) true (A.cmp .neq (H.turn a b c) 1)) true (A.not (H.midOK [a, b, c]))) true (A.not (H.all [H.mid [a, b, c]]))
def tpD (A : Alg) (H : SH) (a b : Pt) : Bool := A.ite (A.not (H.midOK [a, b])) true (A.not (H.all [H.mid [a, b]]))
structure TpF (A : Alg) (H : SH) (E : SE) (a b c : Pt) : Prop where
  l3 : A.cmp .lss (A.len [a, b, c]) 1000000 = true
  l2 : A.cmp .lss (A.len [a, b]) 1000000 = true
  x : tpC A H a b c = false → E.plOK a b c a = true ∧ E.place a b c a = 0
  y : tpC A H a b c = false → E.plOK a b c (H.mid [a, b, c]) = true ∧ E.place a b c (H.mid [a, b, c]) = 1
  z : tpC A H a b c = false → tpD A H a b = false → E.plOK a b c (H.mid [a, b]) = true ∧ E.place a b c (H.mid [a, b]) = 0
  o : tpC A H a b c = false → E.plOK a c b (H.mid [a, b, c]) = false
theorem tp_f (a b c : Pt) (A : Alg) (hA : A = stdA) (H : SH) (hH : H = stdH) (E : SE) (hE : E = stdE) : TpF A H E a b c := by
  subst hA hH hE
  have un : tpC stdA stdH a b c = false → allP [a, b, c] = true ∧ 0 < crossQ a b c ∧ midB [a, b, c] = true ∧ ptOK (stdH.mid [a, b, c]) = true := fun h => by
    have h : (if (if (if (!allP [a, b, c]) = true then true else (stdH.turn a b c != 1)) = true then true else !midB [a, b, c]) = true then true else !(ptOK (stdH.mid [a, b, c]) && true)) = false := h
    cases h1 : allP [a, b, c]
    · rw [h1] at h; cases h
    rw [h1] at h
    cases h2 : (stdH.turn a b c != 1)
    · rw [h2] at h
      cases h3 : midB [a, b, c]
      · rw [h3] at h; cases h
      rw [h3] at h
      have h : (!(ptOK (stdH.mid [a, b, c]) && true)) = false := h
      rw [Bool.and_true, Bool.not_eq_false'] at h
      rw [bne_eq_false_iff_eq, turn_ok h1] at h2
      exact ⟨rfl, pos_of_sgn h2, rfl, h⟩
    · rw [h2] at h; cases h
  have un2 : tpD stdA stdH a b = false → midB [a, b] = true ∧ ptOK (stdH.mid [a, b]) = true := fun h => by
    have h : (if (!midB [a, b]) = true then true else !(ptOK (stdH.mid [a, b]) && true)) = false := h
    cases h3 : midB [a, b]
    · rw [h3] at h; cases h
    rw [h3] at h
    have h : (!(ptOK (stdH.mid [a, b]) && true)) = false := h
    rw [Bool.and_true, Bool.not_eq_false'] at h
    exact ⟨rfl, h⟩
  have hp : allP [a, b, c] = true → ptOK a = true := fun h => by
    have h : (ptOK a && _) = true := h
    rw [Bool.and_eq_true] at h; exact h.1
  refine ⟨len_lt rfl _ (by show 3 < 1000000; decide), len_lt rfl _ (by show 2 < 1000000; decide), fun h => ?_, fun h => ?_, fun h h2 => ?_, fun h => ?_⟩
  · obtain ⟨u1, u2, u3, u4⟩ := un h
    exact place_corner u1 (hp u1) u2
  · obtain ⟨u1, u2, u3, u4⟩ := un h
    obtain ⟨v1, v2⟩ := mid_valT u3
    refine place_mid u1 u4 u2 ?_ ?_
    · rw [v1]
      show (px a + (px b + (px c + 0))) / ((3 : Int) : Rat) * 3 = _
      rw [show ((3 : Int) : Rat) = 3 from rfl, Rat.div_mul_cancel (by decide)]; grind
    · rw [v2]
      show (py a + (py b + (py c + 0))) / ((3 : Int) : Rat) * 3 = _
      rw [show ((3 : Int) : Rat) = 3 from rfl, Rat.div_mul_cancel (by decide)]; grind
  · obtain ⟨u1, u2, u3, u4⟩ := un h
    obtain ⟨u5, u6⟩ := un2 h2
    obtain ⟨v1, v2⟩ := mid_valT u5
    refine place_half u1 u6 u2 ?_ ?_
    · rw [v1]
      show (px a + (px b + 0)) / ((2 : Int) : Rat) * 2 = _
      rw [show ((2 : Int) : Rat) = 2 from rfl, Rat.div_mul_cancel (by decide)]; grind
    · rw [v2]
      show (py a + (py b + 0)) / ((2 : Int) : Rat) * 2 = _
      rw [show ((2 : Int) : Rat) = 2 from rfl, Rat.div_mul_cancel (by decide)]; grind
  · obtain ⟨u1, u2, u3, u4⟩ := un h
    exact place_back u2
def gT3' : List CV → List Blk → Option LR
  | [.g [.P a], .g [.P b], .g [.P c]], [] => some ⟨[], .c (.s (.bool true)), []⟩
  | _, _ => none
def tS7 (A : Alg) (H : SH) (E : SE) : List (Nat × Sem') := (21, heapSem [] A (gKnown)) :: (32, heapSem [.v, .v, .v] A (gTurnP H)) :: (34, heapSem [.s .pt] A (gMid A H)) :: (35, heapSem [.v] A (gIsP H)) :: (24, heapSem [.v, .v, .v, .v] A (gPlace E)) :: ([])
theorem tS7OK : COK Tryz.prog (look (tS7 stdA stdH stdE)) := COK_cons ok_known5 (COK_cons ok_qturn (COK_cons ok_qmid (COK_cons ok_qis (COK_cons ok_tplace (COK_nil)))))
theorem ok_triPlaces : CallOK Tryz.prog 7 (heapSem [.v, .v, .v] stdA (gT3')) := by
  refine callOK_heap (un := ⟨false, some [3,4,5,6,7,8,9,10,11,12,13,14,15,16,17,18,19,20,22,52,82]⟩) tok tS7OK mixed (fn := Tryz.f7) (by kernel_rfl) (by kernel_rfl) (by kernel_rfl) (by decide +kernel) ?_
  intro w Wr args bs r hg ho hWr A L k hA hL hk
  obtain ⟨E, hE⟩ : ∃ E, E = stdE := ⟨_, rfl⟩
  obtain ⟨H, hH⟩ : ∃ H, H = stdH := ⟨_, rfl⟩
  (try rw [← hE])
  (try rw [← hH])
  (try rw [← hA])
  unfold gT3' at hg
  split at hg
  rotate_left
  · cases hg
  simp only [Option.some.injEq] at hg
  subst hg
  rename_i a b c
  have tp := tp_f a b c A hA H hH E hE
  have eq := eq_a A hA
  cbv
  repeat' first | ((with_reducible intro hb); cbv) | with_reducible refine And.intro ?_ ?_
  · exfalso; subst hA; cases hb
  · exact tp.l3
  · exact hk _ _ (Good.pure rfl fun ρ => retT rfl)
  · exact tp.l2
  · exact hk _ _ (Good.pure rfl fun ρ => retT rfl)
  · rename_i h0
    have e1 := tp.x h0
    have e2 := tp.y h0
    have e3 := tp.z h0 hb
    have e4 := tp.o h0
    refine hk _ _ (Good.pure rfl fun ρ => ?_)
    refine retB ?_
    simp only [e1.1, e1.2, e2.1, e2.2, e3.1, e3.2, e4]
    subst hA
    rfl
end Go.Eng

