
import Derived.Test.YtjjmpghdjoohfaaGreatZCU1
set_option linter.all false
set_option exponentiation.threshold 3000
namespace Go.Eng
open Go.Proofs
set_option maxRecDepth 100000
set_option linter.all false
set_option exponentiation.threshold 3000
set_option maxHeartbeats 2000000
theorem sumQ_snoc : ∀ (l : List Rat) (q : Rat), sumQ (l ++ [q]) = sumQ l + q
  | [], q => by show q + 0 = 0 + q; grind
  | a :: r, q => by
    show a + sumQ (r ++ [q]) = (a + sumQ r) + q
    rw [sumQ_snoc r q]; grind
structure QmI (l : List Pt) (k : Int) (x y : Rt) : Prop where
  k0 : 0 ≤ k
  k1 : k ≤ l.length
  x : Cal x (sumQ ((l.take k.toNat).map px)) (1 + 61 * k.toNat)
  y : Cal y (sumQ ((l.take k.toNat).map py)) (1 + 61 * k.toNat)
structure QmStep (A : Alg) (F : SF) (l : List Pt) (k : Int) (x y : Rt) (w : Pt) : Prop where
  o1 : A.cmp .leq 0 k = true
  nx : QmI l (k + 1) (F.add x w.X) (F.add y w.Y)
  ad : A.bin .add .i64 k 1 = k + 1
  ms : ((l.length : Int) - (k + 1)).toNat < ((l.length : Int) - k).toNat
theorem qm_step {l : List Pt} (hn : l.length ≤ 4) (hl : allP l = true) {k : Int} {x y : Rt} (hI : QmI l k x y) (A : Alg) (hA : A = stdA) (F : SF) (hF : F = stdF) (hb : A.cmp .lss k (A.len l) = true) (w : Pt) (hw : w = A.get l k ⟨⟨⟨false, A.zD⟩, ⟨false, A.zD⟩⟩, ⟨⟨false, A.zD⟩, ⟨false, A.zD⟩⟩⟩) : QmStep A F l k x y w := by
  subst hA hF
  have hb : k < (l.length : Int) := of_decide_eq_true hb
  obtain ⟨k0, k1, hx, hy⟩ := hI
  have hlt : k.toNat < l.length := by omega
  have er : w = l[k.toNat] := by
    rw [hw]
    show (l[k.toNat]?).getD _ = _
    rw [List.getElem?_eq_getElem hlt]; rfl
  have hp : IsPt w := by rw [er]; exact allP_mem hl (List.getElem_mem hlt)
  have ht : l.take (k + 1).toNat = l.take k.toNat ++ [w] := by
    rw [show (k + 1).toNat = k.toNat + 1 by omega, List.take_succ_eq_append_getElem hlt, er]
  have ax := hx.add2 (Cal.of hp.x) (by omega) (by decide)
  have ay := hy.add2 (Cal.of hp.y) (by omega) (by decide)
  exact {
    o1 := leq_of _ rfl _ _ k0
    nx := by
      refine ⟨by omega, by omega, ?_, ?_⟩
      · rw [ht, List.map_append]
        show Cal _ (sumQ (_ ++ [px w])) _
        rw [sumQ_snoc]
        exact ax.2.mono (by omega)
      · rw [ht, List.map_append]
        show Cal _ (sumQ (_ ++ [py w])) _
        rw [sumQ_snoc]
        exact ay.2.mono (by omega)
    ad := by show stdBin .add .i64 k 1 = k + 1; simp only [stdBin, IntKind.wrap_i64]; omega
    ms := by omega }
structure QmEnd (A : Alg) (F : SF) (H : SH) (l : List Pt) (x y : Rt) : Prop where
  o1 : A.cmp .leq (-9223372036854775808) (A.len l) = true
  o2 : A.cmp .lss (A.len l) 9223372036854775808 = true
  r : (⟨F.div x (H.whole (A.len l)), F.div y (H.whole (A.len l))⟩ : Pt) = H.mid l ∧ true = H.midOK l
theorem qm_end {l : List Pt} {k : Int} {x y : Rt} (hI : QmI l k x y) (A : Alg) (hA : A = stdA) (F : SF) (hF : F = stdF) (H : SH) (hH : H = stdH) (hc : midB l = true) (hb : A.cmp .lss k (A.len l) = false) : QmEnd A F H l x y := by
  subst hA hF hH
  have hb : ¬ k < (l.length : Int) := of_decide_eq_false hb
  obtain ⟨k0, k1, hx, hy⟩ := hI
  rw [List.take_of_length_le (by omega)] at hx hy
  have hc' := hc
  unfold midB at hc'
  simp only [Bool.and_eq_true, decide_eq_true_eq] at hc'
  obtain ⟨c1, c2, c3⟩ := hc'
  have e0 : stdA.len l = (l.length : Int) := rfl
  have hz : Sm 3 (l.length : Int) := by show (l.length : Int).natAbs < 2 ^ 3; omega
  have cn : Cal (ofQ (((l.length : Int)) : Rat)) (((l.length : Int)) : Rat) 245 := (Cal.int hz (by decide) (by decide)).mono (by decide)
  have n0 : (((l.length : Int)) : Rat) ≠ 0 := fun h => by
    have := Rat.intCast_eq_zero_iff.1 h
    omega
  obtain ⟨dx1, dx2⟩ := (hx.mono (k := 245) (by omega)).div cn (by decide) n0
  obtain ⟨dy1, dy2⟩ := (hy.mono (k := 245) (by omega)).div cn (by decide) n0
  refine ⟨leq_of _ rfl _ _ (by rw [e0]; omega), lss_of _ rfl _ _ (by rw [e0]; omega), ?_, hc.symm⟩
  show _ = (if midB l = true then midP l else zeroP)
  rw [if_pos hc]
  show (⟨stdF.div x (ofQ (((l.length : Int)) : Rat)), stdF.div y (ofQ (((l.length : Int)) : Rat))⟩ : Pt) = ⟨ofQ _, ofQ _⟩
  rw [dx2.eq, dy2.eq]
theorem qm_init (H : SH) (hH : H = stdH) (l : List Pt) : QmI l 0 (H.whole 0) (H.whole 0) := by
  subst hH
  have c : Cal (ofQ ((0 : Int) : Rat)) ((0 : Int) : Rat) 1 := Cal.int (by show (0 : Int).natAbs < 2 ^ 1; decide) (by decide) (by decide)
  exact ⟨Int.le_refl 0, Int.natCast_nonneg _, c, c⟩
def tJ8 (A : Alg) (F : SF) (H : SH) : List (Nat × Sem') := (75, heapSem [.s .pt] A (gAllP A H)) :: (33, heapSem [.v] A (gWholeH A H)) :: (53, heapSem [.v, .v] A (gPlusR F)) :: (50, heapSem [.v, .v] A (gDivF F)) :: ([])
theorem tJ8OK : COK Tryz.prog (look (tJ8 stdA stdF stdH)) := COK_cons ok_qall (COK_cons ok_rwhole (COK_cons ok_qplus (COK_cons ok_rdiv (COK_nil))))
theorem ok_qmid : CallOK Tryz.prog 34 (heapSem [.s .pt] stdA (gMid stdA stdH)) := by
  refine callOK_heap (un := ⟨false, some [0,2,3,4,5,6,7,8,9,10,11,24,31]⟩) tok tJ8OK mixed (fn := Tryz.f34) (by kernel_rfl) (by kernel_rfl) (by kernel_rfl) (by decide +kernel) ?_
  intro w Wr args bs r hg ho hWr A L k hA hL hk
  obtain ⟨F, hF⟩ : ∃ F, F = stdF := ⟨_, rfl⟩
  obtain ⟨H, hH⟩ : ∃ H, H = stdH := ⟨_, rfl⟩
  (try rw [← hF])
  (try rw [← hH])
  (try rw [← hA])
  unfold gMid at hg
  split at hg
  rotate_left
  · cases hg
  simp only [Option.some.injEq] at hg
  subst hg
  rename_i l
  have hlen := (ho_cons ho).1
  simp only [stdA, stdCmp, decide_eq_true_eq] at hlen
  have hlen : l.length < 1000000 := by omega
  have hl0 : A.cmp .lss (A.len l) 1000000 = true := lss_of A hA _ _ (by subst hA; show (l.length : Int) < 1000000; omega)
  have hno : midC A H l = true → (zeroP = H.mid l ∧ false = H.midOK l) := fun h => by
    subst hA hH
    rw [mid_c, Bool.not_eq_true'] at h
    refine ⟨?_, h.symm⟩
    show _ = (if midB l = true then midP l else zeroP)
    rw [h]; rfl
  have hyes : midC A H l = false → midB l = true := fun h => by
    subst hA hH
    rw [mid_c, Bool.not_eq_false'] at h
    exact h
  have i0 := qm_init H hH l
  clear ho
  have him : ∀ b, A.imp b (A.cmp .lss (A.len l) 1000000) = true := fun b => by rw [hl0]; subst hA; cases b <;> rfl
  cbv
  repeat' first | (with_reducible intro hb; cbv) | with_reducible refine And.intro ?_ ?_
  · exact him _
  · refine hk _ _ (Good.pure rfl fun ρ => ?_)
    have e := hno hb
    subst hA hH
    exact tupPt e.1 e.2
  · exact leq_of A hA _ _ (by decide)
  · exact lss_of A hA _ _ (by decide)
  · exact leq_of A hA _ _ (by decide)
  · exact lss_of A hA _ _ (by decide)
  clear hno him hl0
  have hc := hyes hb
  clear hyes
  have hall : allP l = true := by
    have h := hc
    unfold midB at h
    simp only [Bool.and_eq_true] at h
    exact h.2.2
  have hn4 : l.length ≤ 4 := by
    have h := hc
    unfold midB at h
    simp only [Bool.and_eq_true, decide_eq_true_eq] at h
    omega
  refine hL _ _ _ (loop_rule (un := ⟨false, some [0,2,3,4,5,6,7,8,9,10,11,24,31]⟩) tok tJ8OK mixed (fun p : Int × Rt × Rt => ⟨[(6, ⟨[], .c (.s (.int .i64 p.1))⟩), (5, ⟨[], .c (.s (.hp 3 0))⟩), (4, ⟨[], .c (.s (.hp 2 0))⟩), (3, ⟨[], .c (.s (.tt false))⟩), (2, ⟨[], .c (.s (.hp 1 0))⟩), (0, ⟨[], .c (.s (.hs 0))⟩)], [(3, .fix true [.R p.2.2]), (2, .fix true [.R p.2.1]), (1, .fix true [.P ⟨⟨⟨false, Dg.zero⟩, ⟨false, Dg.zero⟩⟩, ⟨⟨false, Dg.zero⟩, ⟨false, Dg.zero⟩⟩⟩]), (0, .vec false .pt l)], 4⟩)
    (fun p => QmI l p.1 p.2.1 p.2.2) (fun p => ((l.length : Int) - p.1).toNat) (0, H.whole 0, H.whole 0) i0 ?_ (fun _ i hi => by have := hWr i hi; simp at this; show i < 4; omega) ?_)
  · subst hA hH
    exact ⟨⟨⟨rfl, rfl, fun _ => rfl⟩, ⟨rfl, rfl, fun _ => rfl⟩, ⟨rfl, rfl, fun _ => rfl⟩, ⟨rfl, rfl, fun _ => rfl⟩, ⟨rfl, rfl, fun _ => rfl⟩, ⟨rfl, rfl, fun _ => rfl⟩, trivial⟩, ⟨⟨rfl, rfl, fun _ => rfl⟩, ⟨rfl, rfl, fun _ => rfl⟩, ⟨rfl, rfl, fun _ => rfl⟩, ⟨rfl, rfl, rfl, rfl, fun h => h⟩, trivial⟩, rfl, rfl⟩
  clear i0
  rintro ⟨k, x, y⟩ hI A2 L2 k2 hA2 hL2 hnext hexit hret
  have st := fun hb : A2.cmp .lss k (A2.len l) = true => qm_step hn4 hall hI A2 hA2 F hF hb _ rfl
  have en := fun hb : A2.cmp .lss k (A2.len l) = false => qm_end hI A2 hA2 F hF H hH hc hb
  clear hI
  rw [← hA2, ← hF, ← hH]
  cbv
  repeat' first | (with_reducible intro hb; cbv) | with_reducible refine And.intro ?_ ?_
  all_goals first | exact (st hb).o1 | exact hb | skip
  · refine hnext _ (k + 1, _, _) (st hb).nx (st hb).ms ?_
    have ead := (st hb).ad
    subst hA2
    exact ⟨⟨⟨rfl, rfl, leI ead⟩, ⟨rfl, rfl, fun _ => rfl⟩, ⟨rfl, rfl, fun _ => rfl⟩, ⟨rfl, rfl, fun _ => rfl⟩, ⟨rfl, rfl, fun _ => rfl⟩, ⟨rfl, rfl, fun _ => rfl⟩, trivial⟩, ⟨⟨rfl, rfl, fun _ => rfl⟩, ⟨rfl, rfl, fun _ => rfl⟩, ⟨rfl, rfl, fun _ => rfl⟩, ⟨rfl, rfl, rfl, rfl, fun h => h⟩, trivial⟩, rfl, rfl⟩
  · apply hexit
    have em := en hb
    clear hexit hnext hret st en hb
    rw [hA2, ← hA] at em
    cbv
    repeat' first | (with_reducible intro hb; cbv) | with_reducible refine And.intro ?_ ?_
    all_goals first | exact em.o1 | exact em.o2 | skip
    refine hk _ _ (Good.pure rfl fun ρ => ?_)
    have e := em.r
    subst hH hF hA
    exact tupPt e.1 e.2
end Go.Eng

