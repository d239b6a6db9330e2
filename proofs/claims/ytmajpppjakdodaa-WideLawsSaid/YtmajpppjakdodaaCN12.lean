/- Contracts: whole numbers, Mul. -/
import Derived.Test.YtmajpppjakdodaaCN10
import Derived.Test.YtmajpppjakdodaaSpecNA
namespace Go.Eng
open Go.Proofs
set_option maxRecDepth 100000
set_option linter.all false
set_option exponentiation.threshold 3000
set_option maxHeartbeats 4000000

theorem leq_of (A : Alg) (hA : A = stdA) (z w : Int) (h : z ≤ w) : A.cmp .leq z w = true := by subst hA; exact decide_eq_true h
theorem lss_of (A : Alg) (hA : A = stdA) (z w : Int) (h : z < w) : A.cmp .lss z w = true := by subst hA; exact decide_eq_true h

theorem dig2_of (lo hi : Dg) (k : Int) (k0 : 0 ≤ k) (k1 : k < 64) : stdA.dig2 lo hi k = ((N2 lo hi / 2 ^ (32 * k.toNat) % 2 ^ 32 : Nat) : Int) := by
  rw [← N2_dig lo hi k.toNat (by omega)]
  show (if k < 32 then ((lo.dig k.toNat : Nat) : Int) else ((hi.dig (k.toNat - 32) : Nat) : Int)) = _
  by_cases h : k < 32
  · rw [if_pos h, if_pos (by omega)]
  · rw [if_neg h, if_neg (by omega)]

theorem set2_of (lo hi : Dg) (k v : Int) (k0 : 0 ≤ k) (k1 : k < 64) (v1 : v < 4294967296) :
    N2 (stdA.setLo lo k v) (stdA.setHi hi k v) + 2 ^ (32 * k.toNat) * (N2 lo hi / 2 ^ (32 * k.toNat) % 2 ^ 32) = N2 lo hi + 2 ^ (32 * k.toNat) * v.toNat := by
  have := N2_set lo hi k.toNat v.toNat (by omega) (by omega)
  show N2 (if k < 32 then lo.set k.toNat v.toNat else lo) (if k < 32 then hi else hi.set (k.toNat - 32) v.toNat) + _ = _
  by_cases h : k < 32
  · rw [if_pos h, if_pos h]; rw [if_pos (by omega), if_pos (by omega)] at this; exact this
  · rw [if_neg h, if_neg h]; rw [if_neg (by omega), if_neg (by omega)] at this; exact this

/-- the outer loop's and the inner loop's invariants -/
def MoI (d e : Dg) (i : Int) (lo hi : Dg) : Prop := 0 ≤ i ∧ i ≤ dSize d ∧ N2 lo hi = d.n % 2 ^ (32 * i.toNat) * e.n
def MiI (d e : Dg) (i j c : Int) (lo hi : Dg) : Prop := 0 ≤ i ∧ i < dSize d ∧ 0 ≤ j ∧ j ≤ dSize e ∧ 0 ≤ c ∧ InI d e i.toNat j.toNat (N2 lo hi) c.toNat

structure MiStep (A : Alg) (d e : Dg) (i j c : Int) (lo hi : Dg) (k w v : Int) : Prop where
  o1 : A.cmp .leq 0 i = true
  o2 : A.cmp .lss i 32 = true
  o3 : A.cmp .leq 0 j = true
  o4 : A.cmp .lss j 32 = true
  o5 : A.cmp .leq 0 k = true
  o6 : A.cmp .lss k 64 = true
  o7 : A.cmp .leq 0 v = true
  o8 : A.cmp .lss v 4294967296 = true
  nx : MiI d e i (j + 1) (A.bin .shr .u64 w 32) (A.setLo lo k v) (A.setHi hi k v)
  ad : A.bin .add .i64 j 1 = j + 1
  ms : ((dSize e : Int) - (j + 1)).toNat < ((dSize e : Int) - j).toNat

theorem mi_step {d e : Dg} {i j c : Int} {lo hi : Dg} (hI : MiI d e i j c lo hi) (A : Alg) (hA : A = stdA) (me : Int) (hme : me = dSize e) (hb : A.cmp .lss j me = true) (k w v : Int) (hk : k = A.bin .add .i64 i j)
    (hw : w = A.bin .add .u64 (A.bin .add .u64 (A.bin .mul .u64 (A.wrap .u64 (A.dig d i)) (A.wrap .u64 (A.dig e j))) (A.wrap .u64 (A.dig2 lo hi k))) c) (hv : v = A.wrap .u32 (A.bin .and .u64 w 4294967295)) : MiStep A d e i j c lo hi k w v := by
  subst hA hme
  have hb : j < (dSize e : Int) := of_decide_eq_true hb
  obtain ⟨i0, i1, j0, j1, c0, hI⟩ := hI
  have hd32 := (dSize_le d 32).2 d.lt
  have he32 := (dSize_le e 32).2 e.lt
  have hk' : k = i + j := by rw [hk]; show stdBin .add .i64 i j = _; simp only [stdBin, IntKind.wrap_i64]; omega
  have hkt : k.toNat = i.toNat + j.toNat := by omega
  have hx := dig_lt d i.toNat
  have hy := dig_lt e j.toNat
  have hc := hI.2.2
  obtain ⟨s, hs⟩ : ∃ s, s = N2 lo hi / 2 ^ (32 * (i.toNat + j.toNat)) % 2 ^ 32 := ⟨_, rfl⟩
  have hs32 : s < 2 ^ 32 := by rw [hs]; exact Nat.mod_lt _ (by decide)
  have e2 : stdA.dig2 lo hi k = (s : Int) := by rw [dig2_of lo hi k (by omega) (by omega), hkt, hs]
  obtain ⟨p, hp⟩ : ∃ p, p = d.dig i.toNat * e.dig j.toNat := ⟨_, rfl⟩
  have hp1 : p ≤ 4294967295 * 4294967295 := by rw [hp]; exact Nat.mul_le_mul (by omega) (by omega)
  have ep : stdA.bin .mul .u64 (stdA.wrap .u64 (stdA.dig d i)) (stdA.wrap .u64 (stdA.dig e j)) = (p : Int) := by
    show IntKind.u64.wrap (IntKind.u64.wrap ((d.dig i.toNat : Nat) : Int) * IntKind.u64.wrap ((e.dig j.toNat : Nat) : Int)) = _
    rw [u64_id ((d.dig i.toNat : Nat) : Int) (by omega) (by omega), u64_id ((e.dig j.toNat : Nat) : Int) (by omega) (by omega), ← Int.natCast_mul, ← hp, u64_id _ (by omega) (by omega)]
  have ew : w = ((p + s + c.toNat : Nat) : Int) := by
    rw [hw, ep, e2]
    show IntKind.u64.wrap (IntKind.u64.wrap ((p : Int) + IntKind.u64.wrap (s : Int)) + c) = _
    rw [u64_id (s : Int) (by omega) (by omega), u64_id ((p : Int) + (s : Int)) (by omega) (by omega), u64_id ((p : Int) + (s : Int) + c) (by omega) (by omega)]
    omega
  have ev : v = (((p + s + c.toNat) % 2 ^ 32 : Nat) : Int) := by
    rw [hv]
    show IntKind.u32.wrap (stdBin .and .u64 w 4294967295) = _
    rw [low_word w (by omega) (by omega), ew]; omega
  clear hw hv hk
  have hset := set2_of lo hi k v (by omega) (by omega) (by omega)
  rw [hkt, ← hs, show v.toNat = (p + s + c.toNat) % 2 ^ 32 by omega] at hset
  obtain ⟨n1, n2⟩ := hI.step (by omega) (w := p + s + c.toNat) (by rw [hp, hs]) (N' := N2 (stdA.setLo lo k v) (stdA.setHi hi k v)) (by rw [← hs]; exact hset)
  have esh : stdA.bin .shr .u64 w 32 = (((p + s + c.toNat) / 2 ^ 32 : Nat) : Int) := by
    show stdBin .shr .u64 w 32 = _
    rw [u64_high w (by omega), ew]; omega
  exact {
    o1 := leq_of _ rfl _ _ i0
    o2 := lss_of _ rfl _ _ (by omega)
    o3 := leq_of _ rfl _ _ j0
    o4 := lss_of _ rfl _ _ (by omega)
    o5 := leq_of _ rfl _ _ (by omega)
    o6 := lss_of _ rfl _ _ (by omega)
    o7 := leq_of _ rfl _ _ (by omega)
    o8 := lss_of _ rfl _ _ (by omega)
    nx := by
      refine ⟨i0, i1, by omega, by omega, by rw [esh]; exact Int.natCast_nonneg _, ?_⟩
      rw [esh, Int.toNat_natCast, show (j + 1).toNat = j.toNat + 1 by omega]
      exact n1
    ad := by show stdBin .add .i64 j 1 = j + 1; simp only [stdBin, IntKind.wrap_i64]; omega
    ms := by omega }

theorem mi_first {d e : Dg} {i : Int} {lo hi : Dg} (hI : MoI d e i lo hi) (A : Alg) (hA : A = stdA) (ne : Int) (hne : ne = dSize d) (hb : A.cmp .lss i ne = true) : MiI d e i 0 0 lo hi := by
  subst hA hne
  have hb : i < (dSize d : Int) := of_decide_eq_true hb
  exact ⟨hI.1, hb, Int.le_refl 0, Int.natCast_nonneg _, Int.le_refl 0, InI.first hI.2.2⟩

structure MiEnd (A : Alg) (d e : Dg) (i c : Int) (lo hi : Dg) (k v : Int) : Prop where
  o1 : A.cmp .leq 0 k = true
  o2 : A.cmp .lss k 64 = true
  o3 : A.cmp .leq 0 v = true
  o4 : A.cmp .lss v 4294967296 = true
  nx : MoI d e (i + 1) (A.setLo lo k v) (A.setHi hi k v)
  ad : A.bin .add .i64 i 1 = i + 1
  ms : ((dSize d : Int) - (i + 1)).toNat < ((dSize d : Int) - i).toNat

theorem mi_end {d e : Dg} {i j c : Int} {lo hi : Dg} (hI : MiI d e i j c lo hi) (A : Alg) (hA : A = stdA) (me : Int) (hme : me = dSize e) (hb : A.cmp .lss j me = false) (k v : Int) (hk : k = A.bin .add .i64 i me) (hv : v = A.wrap .u32 c) : MiEnd A d e i c lo hi k v := by
  subst hA hme
  have hb : ¬ j < (dSize e : Int) := of_decide_eq_false hb
  obtain ⟨i0, i1, j0, j1, c0, hI⟩ := hI
  have hj : j.toNat = dSize e := by omega
  rw [hj] at hI
  have hc := hI.2.2
  have hd32 := (dSize_le d 32).2 d.lt
  have he32 := (dSize_le e 32).2 e.lt
  have hk' : k = i + dSize e := by rw [hk]; show stdBin .add .i64 i (dSize e : Int) = _; simp only [stdBin, IntKind.wrap_i64]; omega
  have hv' : v = c := by rw [hv]; show IntKind.u32.wrap c = c; rw [IntKind.wrap_u32]; omega
  have hkt : k.toNat = i.toNat + dSize e := by omega
  have hset := set2_of lo hi k v (by omega) (by omega) (by omega)
  rw [hkt, show v.toNat = c.toNat by omega] at hset
  have := hI.last hset
  exact {
    o1 := leq_of _ rfl _ _ (by omega)
    o2 := lss_of _ rfl _ _ (by omega)
    o3 := leq_of _ rfl _ _ (by omega)
    o4 := lss_of _ rfl _ _ (by omega)
    nx := ⟨by omega, by omega, by rw [show (i + 1).toNat = i.toNat + 1 by omega]; exact this⟩
    ad := by show stdBin .add .i64 i 1 = i + 1; simp only [stdBin, IntKind.wrap_i64]; omega
    ms := by omega }

theorem mo_end {d e : Dg} {i : Int} {lo hi : Dg} (hI : MoI d e i lo hi) (A : Alg) (hA : A = stdA) (ne : Int) (hne : ne = dSize d) (hb : A.cmp .lss i ne = false) : N2 lo hi = d.n * e.n := by
  subst hA hne
  have hb : ¬ i < (dSize d : Int) := of_decide_eq_false hb
  obtain ⟨i0, i1, h⟩ := hI
  rw [h, show i.toNat = dSize d by omega, Nat.mod_eq_of_lt ((dSize_le d (dSize d)).1 (Nat.le_refl _))]

/-- the words above: are they 0 -/
def OvI (hi : Dg) (k : Int) : Prop := 0 ≤ k ∧ k ≤ 32 ∧ hi.n % 2 ^ (32 * k.toNat) = 0

structure OvStep (A : Alg) (lo hi : Dg) (k : Int) : Prop where
  o1 : A.cmp .leq 0 k = true
  o2 : A.cmp .lss (A.iadd 32 k) 64 = true
  o3 : A.cmp .leq 0 (A.iadd 32 k) = true
  o4 : A.cmp .lss k 32 = true
  nz : A.cmp .neq (A.dig2 lo hi (A.iadd 32 k)) 0 = true → hi.n ≠ 0
  nx : A.cmp .neq (A.dig2 lo hi (A.iadd 32 k)) 0 = false → OvI hi (k + 1)
  ad : A.bin .add .i64 k 1 = k + 1
  ms : (32 - (k + 1)).toNat < (32 - k).toNat

theorem ov_step {lo hi : Dg} {k : Int} (hI : OvI hi k) (A : Alg) (hA : A = stdA) (hb : A.cmp .lss k (A.isub 64 32) = true) : OvStep A lo hi k := by
  subst hA
  have hb : k < 64 - 32 := of_decide_eq_true hb
  obtain ⟨k0, k1, h⟩ := hI
  have e : stdA.dig2 lo hi (stdA.iadd 32 k) = ((hi.dig k.toNat : Nat) : Int) := by
    show (if 32 + k < 32 then ((lo.dig (32 + k).toNat : Nat) : Int) else ((hi.dig ((32 + k).toNat - 32) : Nat) : Int)) = _
    rw [if_neg (by omega), show (32 + k).toNat - 32 = k.toNat by omega]
  exact {
    o1 := leq_of _ rfl _ _ k0
    o2 := lss_of _ rfl _ _ (show 32 + k < 64 by omega)
    o3 := leq_of _ rfl _ _ (show 0 ≤ 32 + k by omega)
    o4 := lss_of _ rfl _ _ (by omega)
    nz := fun h => by
      rw [e] at h
      intro h0
      have hz : hi.dig k.toNat = 0 := by unfold Dg.dig; rw [h0]; simp
      rw [hz] at h
      exact absurd h (by decide)
    nx := fun h' => by
      rw [e] at h'
      have hz : (((hi.dig k.toNat : Nat) : Int) != 0) = false := h'
      rw [bne_eq_false_iff_eq] at hz
      refine ⟨by omega, by omega, ?_⟩
      rw [show (k + 1).toNat = k.toNat + 1 by omega, low_dig, h, show hi.dig k.toNat = 0 by omega, Nat.mul_zero]
    ad := by show stdBin .add .i64 k 1 = k + 1; simp only [stdBin, IntKind.wrap_i64]; omega
    ms := by omega }

theorem ov_end {hi : Dg} {k : Int} (hI : OvI hi k) (A : Alg) (hA : A = stdA) (hb : A.cmp .lss k (A.isub 64 32) = false) : hi.n = 0 := by
  subst hA
  have hb : ¬ k < 64 - 32 := of_decide_eq_false hb
  obtain ⟨k0, k1, h⟩ := hI
  have := ext_low hi
  rw [show k.toNat = 32 by omega, this] at h
  exact h

def gMul (V : SV) : List CV → List Blk → Option LR
  | [.g [.W x], .g [.W y]], [] => some ⟨[], .t [.g [.W (V.mul x y)], .s (.bool (V.mulOK x y))], []⟩
  | _, _ => none

theorem ok_wmul : CallOK Try.prog 27 (heapSem [.v, .v] stdA (gMul stdV)) := by
  refine callOK_heap (un := ⟨false, some [2,3,4,5,6,7,8,9,10,25,26,72,73,74]⟩) tok tN15OK mixed (fn := Try.f27) (by kernel_rfl) (by kernel_rfl) (by kernel_rfl) (by decide +kernel) ?_
  intro w Wr args bs r hg ho hWr A L k hA hL hk
  obtain ⟨S, hS⟩ : ∃ S, S = stdW := ⟨_, rfl⟩
  obtain ⟨V, hV⟩ : ∃ V, V = stdV := ⟨_, rfl⟩
  (try rw [← hS])
  (try rw [← hV])
  (try rw [← hA])
  unfold gMul at hg
  split at hg
  rotate_left
  · cases hg
  simp only [Option.some.injEq] at hg
  subst hg
  rename_i x y
  have i0 : MoI x.d y.d 0 Dg.zero Dg.zero := ⟨Int.le_refl 0, Int.natCast_nonneg _, by simp [N2, Dg.zero, Nat.mod_one]⟩
  cbv
  refine hL _ _ _ (loop_rule (un := ⟨false, some [2, 3, 4, 6, 7, 8, 9, 10, 25, 26, 11, 12, 27, 29, 30]⟩) tok tN15OK mixed (fun p : Int × Dg × Dg => ⟨[(26, ⟨[], .c (.s (.int .i64 p.1))⟩), (25, ⟨[], .c (.s (.int .i64 (stdW.size x.d)))⟩), (9, ⟨[], .c (.s (.int .i64 (stdW.size y.d)))⟩), (2, ⟨[], .c (.s (.hp 0 0))⟩), (3, ⟨[], .c (.s (.hp 1 0))⟩), (4, ⟨[], .c (.s (.hp 2 0))⟩), (6, ⟨[], .c (.s (.hp 3 0))⟩), (7, ⟨[], .c (.s (.hp 4 0))⟩), (10, ⟨[], .c (.s (.hp 5 0))⟩)], [(0, .fix true [.W x]), (1, .fix true [.W y]), (2, .fix true [.W ⟨false, Dg.zero⟩]), (3, .fix true [.D x.d]), (4, .fix true [.D y.d]), (5, .fix true [.D p.2.1, .D p.2.2])], 6⟩)
    (fun p => MoI x.d y.d p.1 p.2.1 p.2.2) (fun p => ((dSize x.d : Int) - p.1).toNat) (0, Dg.zero, Dg.zero) i0 ?_ (fun _ i hi => by have := hWr i hi; simp at this ⊢) ?_)
  · subst hS
    exact ⟨⟨⟨rfl, rfl, fun _ => rfl⟩, ⟨rfl, rfl, fun _ => rfl⟩, ⟨rfl, rfl, fun _ => rfl⟩, ⟨rfl, rfl, fun _ => rfl⟩, ⟨rfl, rfl, fun _ => rfl⟩, ⟨rfl, rfl, fun _ => rfl⟩, ⟨rfl, rfl, fun _ => rfl⟩, ⟨rfl, rfl, fun _ => rfl⟩, ⟨rfl, rfl, fun _ => rfl⟩, trivial⟩, ⟨leRefl rfl, leRefl rfl, leRefl rfl, leRefl rfl, leRefl rfl, leRefl rfl, trivial⟩, rfl, rfl⟩
  clear i0
  rintro ⟨i, lo, hi⟩ hI A2 L2 k2 hA2 hL2 hnext hexit hret
  have m0 := fun hb : A2.cmp .lss i (S.size x.d) = true => mi_first hI A2 hA2 (S.size x.d) (by subst hS; rfl) hb
  have me : A2.cmp .lss i (S.size x.d) = false → N2 lo hi = x.d.n * y.d.n := fun hb => mo_end hI A2 hA2 (S.size x.d) (by subst hS; rfl) hb
  clear hI
  rw [← hA2, ← hS, ← hV]
  cbv
  with_reducible refine And.intro ?_ ?_
  · intro hb
    have m0 := m0 hb
    clear me hexit hret
    cbv
    refine hL2 _ _ _ (loop_rule (un := ⟨false, some [2, 3, 4, 6, 7, 9, 10, 25, 26, 11, 12, 27, 29, 30, 31, 13, 14]⟩) tok tN15OK mixed (fun p : Int × Int × Dg × Dg => ⟨[(30, ⟨[], .c (.s (.int .i64 p.1))⟩), (12, ⟨[], .c (.s (.int .u64 p.2.1))⟩), (29, ⟨[], .c (.s (.int .i64 (stdW.size y.d)))⟩), (11, ⟨[], .c (.s (.int .i64 i))⟩), (26, ⟨[], .c (.s (.int .i64 i))⟩), (25, ⟨[], .c (.s (.int .i64 (stdW.size x.d)))⟩), (9, ⟨[], .c (.s (.int .i64 (stdW.size y.d)))⟩), (2, ⟨[], .c (.s (.hp 0 0))⟩), (3, ⟨[], .c (.s (.hp 1 0))⟩), (4, ⟨[], .c (.s (.hp 2 0))⟩), (6, ⟨[], .c (.s (.hp 3 0))⟩), (7, ⟨[], .c (.s (.hp 4 0))⟩), (10, ⟨[], .c (.s (.hp 5 0))⟩)], [(0, .fix true [.W x]), (1, .fix true [.W y]), (2, .fix true [.W ⟨false, Dg.zero⟩]), (3, .fix true [.D x.d]), (4, .fix true [.D y.d]), (5, .fix true [.D p.2.2.1, .D p.2.2.2])], 6⟩)
      (fun p => MiI x.d y.d i p.1 p.2.1 p.2.2.1 p.2.2.2) (fun p => ((dSize y.d : Int) - p.1).toNat) (0, 0, lo, hi) m0 ?_ (fun _ i hi => by have := hWr i hi; simp at this ⊢) ?_)
    · subst hS
      exact ⟨⟨⟨rfl, rfl, fun _ => rfl⟩, ⟨rfl, rfl, fun _ => rfl⟩, ⟨rfl, rfl, fun _ => rfl⟩, ⟨rfl, rfl, fun _ => rfl⟩, ⟨rfl, rfl, fun _ => rfl⟩, ⟨rfl, rfl, fun _ => rfl⟩, ⟨rfl, rfl, fun _ => rfl⟩, ⟨rfl, rfl, fun _ => rfl⟩, ⟨rfl, rfl, fun _ => rfl⟩, ⟨rfl, rfl, fun _ => rfl⟩, ⟨rfl, rfl, fun _ => rfl⟩, ⟨rfl, rfl, fun _ => rfl⟩, ⟨rfl, rfl, fun _ => rfl⟩, trivial⟩, ⟨leRefl rfl, leRefl rfl, leRefl rfl, leRefl rfl, leRefl rfl, leRefl rfl, trivial⟩, rfl, rfl⟩
    clear m0
    rintro ⟨j, c, lo, hi⟩ hI A3 L3 k3 hA3 hL3 hnext3 hexit3 hret3
    have st := fun hb : A3.cmp .lss j (S.size y.d) = true => mi_step hI A3 hA3 (S.size y.d) (by subst hS; rfl) hb _ _ _ rfl rfl rfl
    have en := fun hb : A3.cmp .lss j (S.size y.d) = false => mi_end hI A3 hA3 (S.size y.d) (by subst hS; rfl) hb _ _ rfl rfl
    clear hI
    rw [← hA3, ← hS, ← hV]
    cbv
    repeat' first | (with_reducible intro hb; cbv) | with_reducible refine And.intro ?_ ?_
    all_goals first | replace st := st hb | skip
    all_goals first | exact st.o1 | exact st.o2 | exact st.o3 | exact st.o4 | exact st.o5 | exact st.o6 | exact st.o7 | exact st.o8 | skip
    · refine hnext3 _ (j + 1, _, _, _) st.nx st.ms ?_
      replace st := st.ad
      subst hS
      exact ⟨⟨⟨rfl, rfl, leI st⟩, ⟨rfl, rfl, fun _ => rfl⟩, ⟨rfl, rfl, fun _ => rfl⟩, ⟨rfl, rfl, fun _ => rfl⟩, ⟨rfl, rfl, fun _ => rfl⟩, ⟨rfl, rfl, fun _ => rfl⟩, ⟨rfl, rfl, fun _ => rfl⟩, ⟨rfl, rfl, fun _ => rfl⟩, ⟨rfl, rfl, fun _ => rfl⟩, ⟨rfl, rfl, fun _ => rfl⟩, ⟨rfl, rfl, fun _ => rfl⟩, ⟨rfl, rfl, fun _ => rfl⟩, ⟨rfl, rfl, fun _ => rfl⟩, trivial⟩, ⟨leRefl rfl, leRefl rfl, leRefl rfl, leRefl rfl, leRefl rfl, leRefl rfl, trivial⟩, rfl, rfl⟩
    · apply hexit3
      have em := en hb
      have eA : A3 = A2 := hA3.trans hA2.symm
      rw [eA] at em
      clear hexit3 hnext3 hret3 st en
      cbv
      repeat' first | (with_reducible intro hb; cbv) | with_reducible refine And.intro ?_ ?_
      all_goals first | exact em.o1 | exact em.o2 | exact em.o3 | exact em.o4 | skip
      refine hnext _ (i + 1, _, _) em.nx em.ms ?_
      have ead := em.ad
      clear em
      subst hS
      exact ⟨⟨⟨rfl, rfl, leI ead⟩, ⟨rfl, rfl, fun _ => rfl⟩, ⟨rfl, rfl, fun _ => rfl⟩, ⟨rfl, rfl, fun _ => rfl⟩, ⟨rfl, rfl, fun _ => rfl⟩, ⟨rfl, rfl, fun _ => rfl⟩, ⟨rfl, rfl, fun _ => rfl⟩, ⟨rfl, rfl, fun _ => rfl⟩, ⟨rfl, rfl, fun _ => rfl⟩, trivial⟩, ⟨leRefl rfl, leRefl rfl, leRefl rfl, leRefl rfl, leRefl rfl, leRefl rfl, trivial⟩, rfl, rfl⟩
  · intro hb
    apply hexit
    have me := me hb
    clear hexit hnext hret m0 hb
    have fz := leq_of A hA
    cbv
    repeat' first | (with_reducible intro hb; cbv) | with_reducible refine And.intro ?_ ?_
    all_goals try (exact fz _ _ (by decide))
    have r0 : OvI hi 0 := ⟨Int.le_refl 0, by decide, by simp [Nat.mod_one]⟩
    have mo := mul_over x y
    have mf := mul_fit x y
    refine hL _ _ _ (loop_rule (un := ⟨false, some [2, 3, 4, 5, 10, 72, 73, 74, 16, 75, 79]⟩) tok tN15OK mixed (fun k : Int => ⟨[(74, ⟨[], .c (.s (.int .i64 k))⟩), (73, ⟨[], .c (.s (.int .i64 (stdA.isub 64 32)))⟩), (72, ⟨[], .c (.s (.ha 5 0 1 32 64 64))⟩), (2, ⟨[], .c (.s (.hp 0 0))⟩), (3, ⟨[], .c (.s (.hp 1 0))⟩), (4, ⟨[], .c (.s (.hp 2 0))⟩), (10, ⟨[], .c (.s (.hp 5 0))⟩)], [(0, .fix true [.W x]), (1, .fix true [.W y]), (2, .fix true [.W ⟨false, Dg.zero⟩]), (5, .fix true [.D lo, .D hi])], 6⟩)
      (fun k => OvI hi k) (fun k => (32 - k).toNat) 0 r0 ?_ (fun _ i hi => by have := hWr i hi; simp at this ⊢) ?_)
    · subst hA
      exact ⟨⟨⟨rfl, rfl, fun _ => rfl⟩, ⟨rfl, rfl, fun _ => rfl⟩, ⟨rfl, rfl, fun _ => rfl⟩, ⟨rfl, rfl, fun _ => rfl⟩, ⟨rfl, rfl, fun _ => rfl⟩, ⟨rfl, rfl, fun _ => rfl⟩, ⟨rfl, rfl, fun _ => rfl⟩, trivial⟩, ⟨leRefl rfl, leRefl rfl, leRefl rfl, leRefl rfl, trivial⟩, rfl, rfl⟩
    clear r0
    rintro k hI A3 L3 k3 hA3 hL3 hnext3 hexit3 hret3
    have st := fun hb : A3.cmp .lss k (A3.isub 64 32) = true => ov_step (lo := lo) hI A3 hA3 hb
    have en := fun hb : A3.cmp .lss k (A3.isub 64 32) = false => ov_end hI A3 hA3 hb
    clear hI
    have fz := leq_of A3 hA3
    rw [← hA3, ← hS, ← hV]
    cbv
    repeat' first | (with_reducible intro hb; cbv) | with_reducible refine And.intro ?_ ?_
    all_goals try (exact fz _ _ (by decide))
    all_goals first | exact (st hb).o1 | exact (st hb).o2 | exact (st hb).o3 | exact (st hb).o4 | skip
    · rename_i hb0
      have hn := (st hb0).nz hb
      have hov : 2 ^ 1024 ≤ x.d.n * y.d.n := by
        rw [← me]
        unfold N2
        have : 2 ^ 1024 * 1 ≤ 2 ^ 1024 * hi.n := Nat.mul_le_mul_left _ (by omega)
        omega
      have mo := mo hov
      apply hret3
      clear hexit3 hnext3 hret3 st en
      cbv
      refine hk _ _ (Good.pure rfl fun ρ => ?_)
      subst hV
      exact tupWt mo.1.symm mo.2.symm
    · rename_i hb0
      refine hnext3 _ (k + 1) ((st hb0).nx hb) (st hb0).ms ?_
      have ead := (st hb0).ad
      subst hA3
      exact ⟨⟨⟨rfl, rfl, leI ead⟩, ⟨rfl, rfl, fun _ => rfl⟩, ⟨rfl, rfl, fun _ => rfl⟩, ⟨rfl, rfl, fun _ => rfl⟩, ⟨rfl, rfl, fun _ => rfl⟩, ⟨rfl, rfl, fun _ => rfl⟩, ⟨rfl, rfl, fun _ => rfl⟩, trivial⟩, ⟨leRefl rfl, leRefl rfl, leRefl rfl, leRefl rfl, trivial⟩, rfl, rfl⟩
    · have h0 := en hb
      have hlo : lo.n = x.d.n * y.d.n := by rw [← me]; unfold N2; rw [h0]; rfl
      have mf := mf lo hlo
      apply hexit3
      have fz := leq_of A hA
      clear hexit3 hnext3 hret3 st en
      cbv
      repeat' first | (with_reducible intro hb; cbv) | with_reducible refine And.intro ?_ ?_
      all_goals try (exact fz _ _ (by decide))
      refine hk _ _ (Good.pure rfl fun ρ => ?_)
      subst hV hS hA
      exact tupWt mf.1.symm mf.2.symm

def tN16 (A : Alg) (S : SW) (V : SV) : List (Nat × Sem') := (27, heapSem [.v, .v] A (gMul V)) :: ((tN15 A S V))
theorem tN16OK : COK Try.prog (look (tN16 stdA stdW stdV)) := COK_cons ok_wmul (tN15OK)
end Go.Eng
