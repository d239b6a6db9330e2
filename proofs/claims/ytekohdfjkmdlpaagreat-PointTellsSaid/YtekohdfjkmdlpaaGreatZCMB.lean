
import Derived.Test.YtekohdfjkmdlpaaGreatZCMA
import Derived.Test.YtekohdfjkmdlpaaGreatZSpecMA
set_option linter.all false
set_option exponentiation.threshold 3000
namespace Go.Eng
open Go.Proofs
set_option maxRecDepth 100000
set_option linter.all false
set_option exponentiation.threshold 3000
def gMshl (A : Alg) (M : SM) : List CV → List Blk → Option LR
  | [.s (.hs 0), .s (.int .i64 n)], [.vec false (.int .u32) l] => some ⟨[M.ok l, M.sOK l n], .c (.s (.hs 1)), [.vec false (.int .u32) (M.shl l n)]⟩
  | _, _ => none
theorem u32_or' (a b : Int) (h0 : 0 ≤ a) (h1 : a < 4294967296) (h2 : 0 ≤ b) (h3 : b < 4294967296) : stdBin .or .u32 a b = ((a.toNat ||| b.toNat : Nat) : Int) := by
  have e1 := ofInt_toNat 32 a h0 (by omega)
  have e2 := ofInt_toNat 32 b h2 (by omega)
  have h4 : a.toNat ||| b.toNat < 2 ^ 32 := Nat.or_lt_two_pow (by omega) (by omega)
  show IntKind.u32.wrap ((BitVec.ofInt 32 a ||| BitVec.ofInt 32 b).toNat : Int) = _
  rw [BitVec.toNat_or, e1, e2, IntKind.wrap_u32]
  omega
structure ShM (l : List Int) (n i : Int) (R : List Int) : Prop where
  i0 : 0 ≤ i
  i1 : i ≤ (l.length : Int)
  len : R.length = l.length + n.toNat / 32 + 1
  w : W32 R
  eq : valL R = valL (l.take i.toNat) * 2 ^ n.toNat
structure ShmHead (A : Alg) (M : SM) (l : List Int) (n q : Int) : Prop where
  z : A.cmp .eql (A.len l) 0 = true → M.shl l n = []
  o1 : A.cmp .leq 0 q = true
  o2 : A.cmp .eql q q = true
  o3 : A.cmp .leq q 1000000 = true
  i0 : ShM l n 0 (A.rep q 0)
theorem shm_quo {n : Int} (n0 : 0 ≤ n) (n1 : n ≤ 32000) : stdA.bin .quo .i64 n 32 = ((n.toNat / 32 : Nat) : Int) ∧ stdA.bin .rem .i64 n 32 = ((n.toNat % 32 : Nat) : Int) := by
  constructor
  · show IntKind.i64.wrap (n.tdiv 32) = _
    rw [Int.tdiv_eq_ediv_of_nonneg n0, IntKind.wrap_i64]; omega
  · show n.tmod 32 = _
    rw [Int.tmod_eq_emod_of_nonneg n0]; omega
theorem shm_head {l : List Int} (hl : Mag l) {n : Int} (n0 : 0 ≤ n) (n1 : n ≤ 32000) (A : Alg) (hA : A = stdA) (M : SM) (hM : M = stdM) (q : Int) (hq : q = A.bin .add .i64 (A.bin .add .i64 (A.len l) (A.bin .quo .i64 n 32)) 1) : ShmHead A M l n q := by
  subst hA hM
  have hn := hl.n
  have e : q = ((l.length + n.toNat / 32 + 1 : Nat) : Int) := by
    rw [hq, (shm_quo n0 n1).1]
    show stdBin .add .i64 (stdBin .add .i64 (l.length : Int) _) 1 = _
    simp only [stdBin, IntKind.wrap_i64]; omega
  exact {
    z := fun h => by
      have h : ((l.length : Int) == 0) = true := h
      simp only [beq_iff_eq] at h
      have : l = [] := List.eq_nil_of_length_eq_zero (by omega)
      subst this
      show magL (valL [] * 2 ^ n.toNat) = []
      rw [valL, Nat.zero_mul]; rfl
    o1 := leq_of _ rfl _ _ (by omega)
    o2 := by show (q == q) = true; simp
    o3 := leq_of _ rfl _ _ (by omega)
    i0 := by
      have : stdA.rep q (0 : Int) = List.replicate (l.length + n.toNat / 32 + 1) 0 := by show List.replicate q.toNat 0 = _; rw [e, Int.toNat_natCast]
      rw [this]
      exact ⟨Int.le_refl 0, by omega, by simp, W32.rep0 _, by rw [valL_rep0]; simp [valL]⟩ }
structure ShmStep (A : Alg) (l : List Int) (n i : Int) (R : List Int) (x j a : Int) : Prop where
  o1 : A.cmp .leq 0 i = true
  o3 : A.cmp .leq 0 j = true
  o4 : A.cmp .lss j (A.len R) = true
  o5 : A.cmp .leq 0 (A.bin .add .i64 j 1) = true
  o6 : A.cmp .lss (A.bin .add .i64 j 1) (A.len (A.set R j a)) = true
  o7 : A.cmp .geq (A.wrap .u64 (A.bin .rem .i64 n 32)) 0 = true
  nx : ShM l n (i + 1) (A.set (A.set R j a) (A.bin .add .i64 j 1) (A.wrap .u32 (A.bin .shr .u64 x 32)))
  ad : A.bin .add .i64 i 1 = i + 1
  ms : ((l.length : Int) - (i + 1)).toNat < ((l.length : Int) - i).toNat
theorem shm_step {l : List Int} (hl : Mag l) {n : Int} (n0 : 0 ≤ n) (n1 : n ≤ 32000) {i : Int} {R : List Int} (hI : ShM l n i R) (A : Alg) (hA : A = stdA) (hb : A.cmp .lss i (A.len l) = true) (x j a : Int)
    (hx : x = A.bin .shl .u64 (A.wrap .u64 (A.get l i 0)) (A.wrap .u64 (A.bin .rem .i64 n 32))) (hj : j = A.bin .add .i64 i (A.bin .quo .i64 n 32)) (ha : a = A.bin .or .u32 (A.get R j 0) (A.wrap .u32 x)) : ShmStep A l n i R x j a := by
  subst hA
  have hn := hl.n
  obtain ⟨i0, i1, hlen, hw, heq⟩ := hI
  have hb : i < (l.length : Int) := of_decide_eq_true hb
  obtain ⟨q1, q2⟩ := shm_quo n0 n1
  have ej : j = i + ((n.toNat / 32 : Nat) : Int) := by rw [hj, q1]; show stdBin .add .i64 i _ = _; simp only [stdBin, IntKind.wrap_i64]; omega
  have ejn : j.toNat = i.toNat + n.toNat / 32 := by omega
  have ej1 : stdA.bin .add .i64 j 1 = j + 1 := by show stdBin .add .i64 j 1 = _; simp only [stdBin, IntKind.wrap_i64]; omega
  have gl := hl.w.getD i.toNat
  have gr := hw.getD j.toNat
  obtain ⟨s, hs⟩ : ∃ s : Nat, s = n.toNat % 32 := ⟨_, rfl⟩
  have hs32 : s < 32 := by omega
  have ew : stdA.wrap .u64 (stdA.bin .rem .i64 n 32) = (s : Int) := by rw [q2, ← hs]; show IntKind.u64.wrap _ = _; rw [w_u64]; omega
  have hps : 2 ^ s ≤ 2 ^ 31 := Nat.pow_le_pow_right (by decide) (by omega)
  have hpi : ((2 ^ s : Nat) : Int) = (2 : Int) ^ s := by simp
  obtain ⟨y, hy⟩ : ∃ y : Nat, (y : Int) = l.getD i.toNat 0 := ⟨(l.getD i.toNat 0).toNat, by omega⟩
  have hyp : y * 2 ^ s ≤ 4294967295 * 2 ^ 31 := Nat.mul_le_mul (by omega) hps
  have ex : x = l.getD i.toNat 0 * 2 ^ s := by
    rw [hx, ew]
    show IntKind.u64.wrap (IntKind.u64.wrap (l.getD i.toNat 0) * 2 ^ min (s : Int).toNat 64) = _
    have e1 : IntKind.u64.wrap (l.getD i.toNat 0) = l.getD i.toNat 0 := by rw [w_u64]; omega
    rw [e1, Int.toNat_natCast, Nat.min_eq_left (by omega), ← hy, ← hpi, ← Int.natCast_mul, w_u64]
    omega
  have ex0 : x = ((y * 2 ^ s : Nat) : Int) := by rw [ex, ← hy, ← hpi, ← Int.natCast_mul]
  have e1 : stdA.wrap .u32 x = x % 4294967296 := by show IntKind.u32.wrap x = _; rw [IntKind.wrap_u32]
  have e2 : stdA.wrap .u32 (stdA.bin .shr .u64 x 32) = x / 4294967296 := by
    show IntKind.u32.wrap (stdBin .shr .u64 x 32) = _
    rw [u64_high _ (by omega), IntKind.wrap_u32]; omega
  have ea : a = (((R.getD j.toNat 0).toNat ||| (x % 4294967296).toNat : Nat) : Int) := by
    rw [ha, e1]
    exact u32_or' _ _ gr.1 gr.2 (by omega) (by omega)
  have hdm : n.toNat = 32 * (n.toNat / 32) + s := by omega
  have hval : valL R < 2 ^ (32 * j.toNat + s) := by
    rw [heq, ejn, show 32 * (i.toNat + n.toNat / 32) + s = 32 * i.toNat + n.toNat by omega, Nat.pow_add]
    have h1 := valL_lt (hl.w.take i.toNat)
    rw [List.length_take, Nat.min_eq_left (by omega)] at h1
    exact Nat.mul_lt_mul_of_pos_right h1 (Nat.two_pow_pos _)
  obtain ⟨g1, g2, g3⟩ := shl_step R j.toNat s (l.getD i.toNat 0) x a (x / 4294967296) hw (by omega) hs32 gl.1 gl.2 hval ex ea rfl
  have e3 : stdA.set (stdA.set R j a) (stdA.bin .add .i64 j 1) (stdA.wrap .u32 (stdA.bin .shr .u64 x 32)) = (R.set j.toNat a).set (j.toNat + 1) (x / 4294967296) := by
    rw [e2, ej1]
    show (R.set j.toNat a).set (j + 1).toNat _ = _
    rw [show (j + 1).toNat = j.toNat + 1 by omega]
  exact {
    o1 := leq_of _ rfl _ _ i0
    o3 := leq_of _ rfl _ _ (by omega)
    o4 := lss_of _ rfl _ _ (by show j < (R.length : Int); omega)
    o5 := by rw [ej1]; exact leq_of _ rfl _ _ (by omega)
    o6 := by rw [ej1]; exact lss_of _ rfl _ _ (by show j + 1 < ((R.set j.toNat a).length : Int); rw [List.length_set]; omega)
    o7 := by rw [ew]; show decide ((s : Int) ≥ 0) = true; exact decide_eq_true (by omega)
    nx := by
      rw [e3]
      refine ⟨by omega, by omega, ?_, g1, ?_⟩
      · rw [List.length_set, List.length_set]; exact hlen
      · rw [g2, heq, show (i + 1).toNat = i.toNat + 1 by omega, valL_take1, Nat.add_mul, ejn, Nat.mul_add, Nat.pow_add]
        congr 1
        conv => rhs; rw [hdm, Nat.pow_add]
        generalize 2 ^ (32 * i.toNat) = P
        generalize 2 ^ (32 * (n.toNat / 32)) = Q
        generalize (l.getD i.toNat 0).toNat = u
        generalize 2 ^ s = W
        rw [Nat.mul_assoc, Nat.mul_assoc, Nat.mul_left_comm Q u W]
    ad := by show stdBin .add .i64 i 1 = i + 1; simp only [stdBin, IntKind.wrap_i64]; omega
    ms := by omega }
theorem shm_end {l : List Int} (hl : Mag l) {n : Int} (n0 : 0 ≤ n) (n1 : n ≤ 32000) {i : Int} {R : List Int} (hI : ShM l n i R) (A : Alg) (hA : A = stdA) (X : SX) (hX : X = stdX) (B : SM) (hB : B = stdM) (hb : A.cmp .lss i (A.len l) = false) : MagEnd A X R (B.shl l n) := by
  subst hB
  obtain ⟨i0, i1, hlen, hw, heq⟩ := hI
  have hln := hl.n
  refine mag_end hw (by omega) ?_ A hA X hX
  subst hA
  have hb : ¬ i < (l.length : Int) := of_decide_eq_false hb
  rw [List.take_of_length_le (by omega)] at heq
  exact heq
theorem ok_mshl : CallOK Tryz.prog 203 (heapSemF [.s (.int .u32), .v] stdA (gMshl stdA stdM)) := by
  refine callOK_heapF (un := ⟨false, some [0,1,4,5,6,7,10,21]⟩) tok tM9OK mixed (fn := Tryz.f203) (by kernel_rfl) (by kernel_rfl) (by kernel_rfl) (by decide +kernel) ?_
  intro w Wr args bs r hg ho hWr A L k hA hL hk
  obtain ⟨M, hM⟩ : ∃ M, M = stdM := ⟨_, rfl⟩
  obtain ⟨S, hS⟩ : ∃ S, S = stdW := ⟨_, rfl⟩
  obtain ⟨V, hV⟩ : ∃ V, V = stdV := ⟨_, rfl⟩
  obtain ⟨X, hX⟩ : ∃ X, X = stdX := ⟨_, rfl⟩
  (try rw [← hM])
  (try rw [← hS])
  (try rw [← hV])
  (try rw [← hX])
  (try rw [← hA])
  unfold gMshl at hg
  split at hg
  rotate_left
  · cases hg
  simp only [Option.some.injEq] at hg
  subst hg
  rename_i n l
  have hl : Mag l := isMag_iff.1 ((ho_cons ho).1)
  have hn : 0 ≤ n ∧ n ≤ 32000 := by
    have h : (decide (0 ≤ n) && decide (n ≤ 32000)) = true := (ho_cons (ho_cons ho).2).1
    simpa using h
  have n0 := hn.1
  have n1 := hn.2
  clear ho hn
  have hd := shm_head hl n0 n1 A hA M hM _ rfl
  cbv
  repeat' first | (with_reducible intro hb; cbv) | with_reducible refine And.intro ?_ ?_
  all_goals first | exact hd.o1 | exact hd.o2 | exact hd.o3 | skip
  · have hz := hd.z hb
    subst hM
    exact hk _ _ (GoodF.one .nils _ rfl (fun ρ => retF) (SrcOK.nils hz))
  have i0 := hd.i0
  clear hd hb
  refine hL _ _ _ (loop_rule (un := ⟨false, some [0, 1, 4, 5, 6, 7, 21]⟩) tok tM9OK mixed (fun p : Int × List Int => ⟨[(6, ⟨[], .c (.s (.int .i64 p.1))⟩), (5, ⟨[], .c (.s (.hs 1))⟩), (0, ⟨[], .c (.s (.hs 0))⟩), (1, ⟨[], .c (.s (.int .i64 n))⟩)], [(0, .vec false (.int .u32) l), (1, .vec true (.int .u32) p.2)], 2⟩)
    (fun p => ShM l n p.1 p.2) (fun p => ((l.length : Int) - p.1).toNat) (0, _) i0 ?_ (fun _ i hi => by have := hWr i hi; simp at this; show i < 2; omega) ?_)
  · exact ⟨⟨⟨rfl, rfl, fun _ => rfl⟩, ⟨rfl, rfl, fun _ => rfl⟩, ⟨rfl, rfl, fun _ => rfl⟩, ⟨rfl, rfl, fun _ => rfl⟩, trivial⟩, ⟨leRefl rfl, leRefl rfl, trivial⟩, rfl, rfl⟩
  clear i0
  rintro ⟨i, R⟩ hI A2 L2 k2 hA2 hL2 hnext hexit hret
  have st := fun hb => shm_step hl n0 n1 hI A2 hA2 hb _ _ _ rfl rfl rfl
  have en := fun hb => shm_end hl n0 n1 hI A hA X hX M hM (by rw [hA, ← hA2]; exact hb)
  clear hI
  rw [← hA2, ← hS, ← hV, ← hX, ← hM]
  cbv
  repeat' first | (with_reducible intro hb; cbv) | with_reducible refine And.intro ?_ ?_
  all_goals first | exact (st hb).o1 | exact hb | exact (st hb).o3 | exact (st hb).o4 | exact (st hb).o5 | exact (st hb).o6 | exact (st hb).o7 | skip
  · refine hnext _ (i + 1, _) (st hb).nx (st hb).ms ?_
    have ead := (st hb).ad
    exact ⟨⟨⟨rfl, rfl, leI ead⟩, ⟨rfl, rfl, fun _ => rfl⟩, ⟨rfl, rfl, fun _ => rfl⟩, ⟨rfl, rfl, fun _ => rfl⟩, trivial⟩, ⟨leRefl rfl, leRefl rfl, trivial⟩, rfl, rfl⟩
  · apply hexit
    have em := en hb
    clear hexit hnext hret st en hb
    cbv
    repeat' first | (with_reducible intro hb; cbv) | with_reducible refine And.intro ?_ ?_
    all_goals first | exact em.o1 | skip
    subst hM
    exact hk _ _ (GoodF.one _ _ rfl (fun ρ => retF) (SrcOK.hw rfl rfl (Int.le_refl 0) em.t0 em.t1 em.eq))
def tM10 (A : Alg) (S : SW) (V : SV) (X : SX) (M : SM) : List (Nat × Sem') := (203, heapSemF [.s (.int .u32), .v] A (gMshl A M)) :: ((tM9 A S V X M))
theorem tM10OK : COK Tryz.prog (look (tM10 stdA stdW stdV stdX stdM)) := COK_cons ok_mshl (tM9OK)
end Go.Eng
namespace Go.Eng
open Go.Proofs
set_option maxRecDepth 100000
set_option linter.all false
set_option exponentiation.threshold 3000
set_option exponentiation.threshold 40000
def gMdm (A : Alg) (M : SM) : List CV → List Blk → Option LR
  | [.s (.hs 0), .s (.hs 1)], [.vec false (.int .u32) l, .vec false (.int .u32) m] => some ⟨[M.ok l, M.ok m, M.nz m], .t [.s (.hs 2), .s (.hs 3)], [.vec false (.int .u32) (M.dq l m), .vec false (.int .u32) (M.dr l m)]⟩
  | _, _ => none
theorem retF2 {ρ : Rho} {q : Nat} {x y : Sc} : (XV.t [.s x, .s y]).den ρ = (XV.t [.s (.hs q), .s (.hs (q + 1))]).den (extR q [x, y] ρ) := by
  have e1 : extR q [x, y] ρ q = x.den ρ := extR_new (i := 0) rfl
  have e2 : extR q [x, y] ρ (q + 1) = y.den ρ := extR_new (i := 1) rfl
  show Value.tuple #[x.den ρ, y.den ρ] = .tuple #[extR q [x, y] ρ q, extR q [x, y] ρ (q + 1)]
  rw [e1, e2]
structure DmI (l m : List Int) (n : Nat) (i : Int) (Q r : List Int) : Prop where
  i0 : -1 ≤ i
  i1 : i ≤ (n : Int)
  len : Q.length = n / 32 + 1
  w : W32 Q
  dv : 2 ^ (i + 1).toNat ∣ valL Q
  mr : Mag r
  lt : valL r < valL m * 2 ^ (i + 1).toNat
  eq : valL l = valL Q * valL m + valL r
structure DmOK (l m : List Int) (n : Nat) : Prop where
  hl : Mag l
  hm : Mag m
  m0 : 0 < valL m
  n1 : n ≤ 32000
  nn : lenOf (valL m) + n = lenOf (valL l)
theorem DmOK.top {l m : List Int} {n : Nat} (h : DmOK l m n) : valL l < valL m * 2 ^ (n + 1) ∧ valL m * 2 ^ n < 2 ^ lenOf (valL l) := by
  obtain ⟨g1, g2, g3⟩ := lenOf_spec (valL m) (by have := h.m0; omega)
  have hnn := h.nn
  have hl : valL l < 2 ^ lenOf (valL l) := by
    by_cases h0 : valL l = 0
    · rw [h0]; exact Nat.two_pow_pos _
    · exact (lenOf_spec _ h0).2.2
  constructor
  · rw [← hnn, show lenOf (valL m) + n = (lenOf (valL m) - 1) + (n + 1) by omega, Nat.pow_add] at hl
    exact Nat.lt_of_lt_of_le hl (Nat.mul_le_mul_right _ g2)
  · rw [← hnn, Nat.pow_add]
    exact Nat.mul_lt_mul_of_pos_right g3 (Nat.two_pow_pos _)
theorem DmOK.s {l m : List Int} {n : Nat} (h : DmOK l m n) {i : Nat} (hi : i ≤ n) : Mag (magL (valL m * 2 ^ i)) := by
  have h1 : valL m * 2 ^ i ≤ valL m * 2 ^ n := Nat.mul_le_mul_left _ (Nat.pow_le_pow_right (by decide) hi)
  have h2 := Nat.lt_of_le_of_lt h1 h.top.2
  refine Mag.lt h2 ?_
  have := lenOf_le (valL l) 32000 (Nat.lt_of_lt_of_le (valL_lt h.hl.w) (Nat.pow_le_pow_right (by decide) (by have := h.hl.n; omega)))
  exact this
theorem word_bit {W e : Nat} (hW : W < 2 ^ 32) (he : e < 32) (hd : 2 ^ (e + 1) ∣ W) : W + 2 ^ e < 2 ^ 32 := by
  obtain ⟨d, rfl⟩ := hd
  obtain ⟨t, ht⟩ : ∃ t, 32 = (e + 1) + t := ⟨31 - e, by omega⟩
  have h32 : (2 : Nat) ^ 32 = 2 ^ (e + 1) * 2 ^ t := by rw [← Nat.pow_add, ← ht]
  rw [h32] at hW ⊢
  have hdt : d < 2 ^ t := Nat.lt_of_mul_lt_mul_left (a := 2 ^ (e + 1)) hW
  have h1 : 2 ^ (e + 1) * (d + 1) ≤ 2 ^ (e + 1) * 2 ^ t := Nat.mul_le_mul_left _ hdt
  rw [Nat.mul_add] at h1
  have := Nat.two_pow_pos e
  have h2 : 2 ^ (e + 1) = 2 ^ e * 2 := Nat.pow_succ ..
  omega
structure DmHead (A : Alg) (M : SM) (l m : List Int) (n q : Int) : Prop where
  neg : A.cmp .lss n 0 = true → M.dq l m = [] ∧ l = M.dr l m
  o1 : A.cmp .lss n 0 = false → A.cmp .leq 0 q = true
  o2 : A.cmp .eql q q = true
  o3 : A.cmp .lss n 0 = false → A.cmp .leq q 1000000 = true
  ok : A.cmp .lss n 0 = false → DmOK l m n.toNat
  i0 : A.cmp .lss n 0 = false → DmI l m n.toNat n (A.rep q 0) l
theorem dm_head {l m : List Int} (hl : Mag l) (hm : Mag m) (m0 : valL m ≠ 0) (A : Alg) (hA : A = stdA) (M : SM) (hM : M = stdM) (n q : Int) (hn : n = A.bin .sub .i64 (M.bits l) (M.bits m)) (hq : q = A.bin .add .i64 (A.bin .quo .i64 n 32) 1) : DmHead A M l m n q := by
  subst hA hM
  have hln := hl.n
  have hmn := hm.n
  have bl : lenOf (valL l) ≤ 32000 := lenOf_le _ _ (Nat.lt_of_lt_of_le (valL_lt hl.w) (Nat.pow_le_pow_right (by decide) (by omega)))
  have bm : lenOf (valL m) ≤ 32000 := lenOf_le _ _ (Nat.lt_of_lt_of_le (valL_lt hm.w) (Nat.pow_le_pow_right (by decide) (by omega)))
  have en : n = (lenOf (valL l) : Int) - lenOf (valL m) := by rw [hn]; show stdBin .sub .i64 (lenOf (valL l) : Int) (lenOf (valL m) : Int) = _; simp only [stdBin, IntKind.wrap_i64]; omega
  have hn0 : stdA.cmp .lss n 0 = false → 0 ≤ n := fun h => by have h : ¬ n < 0 := of_decide_eq_false h; omega
  have eq : 0 ≤ n → q = ((n.toNat / 32 + 1 : Nat) : Int) := fun h => by
    rw [hq, (shm_quo h (by omega)).1]
    show stdBin .add .i64 _ 1 = _
    simp only [stdBin, IntKind.wrap_i64]; omega
  have hok : 0 ≤ n → DmOK l m n.toNat := fun h => ⟨hl, hm, by omega, by omega, by omega⟩
  exact {
    neg := fun h => by
      have h : n < 0 := of_decide_eq_true h
      have hlt : valL l < valL m := by
        have g1 := (lenOf_spec (valL m) m0).2.1
        by_cases h0 : valL l = 0
        · omega
        · have g2 := (lenOf_spec (valL l) h0).2.2
          exact Nat.lt_of_lt_of_le g2 (Nat.le_trans (Nat.pow_le_pow_right (by decide) (by omega)) g1)
      constructor
      · show magL (valL l / valL m) = []
        rw [Nat.div_eq_of_lt hlt]; rfl
      · show l = magL (valL l % valL m)
        rw [Nat.mod_eq_of_lt hlt]
        exact hl.eq
    o1 := fun h => leq_of _ rfl _ _ (by rw [eq (hn0 h)]; omega)
    o2 := by show (q == q) = true; simp
    o3 := fun h => leq_of _ rfl _ _ (by rw [eq (hn0 h)]; omega)
    ok := fun h => hok (hn0 h)
    i0 := fun h => by
      have h0 := hn0 h
      have e1 : stdA.rep q (0 : Int) = List.replicate (n.toNat / 32 + 1) 0 := by show List.replicate q.toNat 0 = _; rw [eq h0, Int.toNat_natCast]
      rw [e1]
      refine ⟨by omega, by omega, by simp, W32.rep0 _, ?_, hl, ?_, ?_⟩
      · rw [valL_rep0]; exact Nat.dvd_zero _
      · rw [show (n + 1).toNat = n.toNat + 1 by omega]; exact (hok h0).top.1
      · rw [valL_rep0]; simp }
structure DmStep (A : Alg) (M : SM) (l m : List Int) (n : Nat) (i : Int) (Q r s : List Int) (j a : Int) : Prop where
  o1 : M.ok m = true
  o2 : M.sOK m i = true
  o3 : M.ok r = true
  o4 : M.ok s = true
  o5 : A.cmp .geq (M.cmp r s) 0 = true → M.le s r = true
  o6 : A.cmp .leq 0 j = true
  o7 : A.cmp .lss j (A.len Q) = true
  o8 : A.cmp .geq (A.wrap .u64 (A.bin .rem .i64 i 32)) 0 = true
  n1 : A.cmp .geq (M.cmp r s) 0 = true → DmI l m n (i - 1) (A.set Q j a) (M.sub r s)
  n0 : A.cmp .geq (M.cmp r s) 0 = false → DmI l m n (i - 1) Q r
  ad : A.bin .sub .i64 i 1 = i - 1
  ms : (i - 1 + 1).toNat < (i + 1).toNat
theorem dm_step {l m : List Int} {n : Nat} (hk : DmOK l m n) {i : Int} {Q r : List Int} (hI : DmI l m n i Q r) (A : Alg) (hA : A = stdA) (M : SM) (hM : M = stdM) (hb : A.cmp .geq i 0 = true) (s : List Int) (hs : s = M.shl m i) (j a : Int)
    (hj : j = A.bin .quo .i64 i 32) (ha : a = A.bin .or .u32 (A.get Q j 0) (A.bin .shl .u32 1 (A.wrap .u64 (A.bin .rem .i64 i 32)))) : DmStep A M l m n i Q r s j a := by
  subst hA hM
  have hb : i ≥ 0 := of_decide_eq_true hb
  obtain ⟨i0, i1, hlen, hw, hdv, hr, hlt, heq⟩ := hI
  have hn := hk.n1
  obtain ⟨k, rfl⟩ : ∃ k : Nat, i = k := ⟨i.toNat, by omega⟩
  have hk1 : ((k : Int) + 1).toNat = k + 1 := by omega
  rw [hk1] at hdv hlt
  have es : s = magL (valL m * 2 ^ k) := hs
  have hsm : Mag s := by rw [es]; exact hk.s (by omega)
  have hsv : valL s = valL m * 2 ^ k := by rw [es]; exact magL_val _
  obtain ⟨q1, q2⟩ := shm_quo (n := (k : Int)) (by omega) (by omega)
  rw [Int.toNat_natCast] at q1 q2
  have ej : j = ((k / 32 : Nat) : Int) := by rw [hj, q1]
  have ejn : j.toNat = k / 32 := by rw [ej]; exact Int.toNat_natCast _
  have hcmp : ∀ b, stdA.cmp .geq (stdM.cmp r s) 0 = b → decide (valL s ≤ valL r) = b := fun b h => by
    rw [← h]
    show _ = decide (sgn (valL r) (valL s) ≥ 0)
    rw [sgn_ge]
  have ew : stdA.wrap .u64 (stdA.bin .rem .i64 (k : Int) 32) = ((k % 32 : Nat) : Int) := by rw [q2]; show IntKind.u64.wrap _ = _; rw [w_u64]; omega
  have hbit : (2 : Nat) ^ (k % 32) < 2 ^ 32 := Nat.pow_lt_pow_right (by decide) (by omega)
  have eb : stdA.bin .shl .u32 1 (stdA.wrap .u64 (stdA.bin .rem .i64 (k : Int) 32)) = ((2 ^ (k % 32) : Nat) : Int) := by
    rw [ew]
    show IntKind.u32.wrap (1 * 2 ^ min ((k % 32 : Nat) : Int).toNat 32) = _
    rw [Int.toNat_natCast, Nat.min_eq_left (by omega), Int.one_mul, show ((2 : Int) ^ (k % 32)) = ((2 ^ (k % 32) : Nat) : Int) by simp, IntKind.wrap_u32]
    generalize (2 : Nat) ^ (k % 32) = b at *
    omega
  have hjl : k / 32 < Q.length := by omega
  have gq := hw.getD (k / 32)
  have hword : Q.getD (k / 32) 0 = ((valL Q / 2 ^ (32 * (k / 32)) % 2 ^ 32 : Nat) : Int) := getD_W32 hw hjl
  obtain ⟨c, hc⟩ := hdv
  have hkk : k + 1 = 32 * (k / 32) + (k % 32 + 1) := by omega
  have hdiv : valL Q / 2 ^ (32 * (k / 32)) = 2 ^ (k % 32 + 1) * c := by
    rw [hc, hkk, Nat.pow_add, Nat.mul_assoc]
    exact Nat.mul_div_cancel_left _ (Nat.two_pow_pos _)
  have hdw : 2 ^ (k % 32 + 1) ∣ (valL Q / 2 ^ (32 * (k / 32)) % 2 ^ 32) := by
    rw [hdiv]
    exact (Nat.dvd_mod_iff (Nat.pow_dvd_pow 2 (by omega : k % 32 + 1 ≤ 32))).2 (Nat.dvd_mul_right _ _)
  obtain ⟨W, hW⟩ : ∃ W : Nat, W = valL Q / 2 ^ (32 * (k / 32)) % 2 ^ 32 := ⟨_, rfl⟩
  rw [← hW] at hword hdw
  have hWlt : W < 2 ^ 32 := by rw [hW]; exact Nat.mod_lt _ (by decide)
  have hsum : W + 2 ^ (k % 32) < 2 ^ 32 := by
    exact word_bit hWlt (by omega) hdw
  have ea : a = ((W + 2 ^ (k % 32) : Nat) : Int) := by
    rw [ha, eb]
    show stdBin .or .u32 (Q.getD j.toNat 0) _ = _
    rw [ejn, hword, u32_or' _ _ (by omega) (by omega) (by omega) (by omega), Int.toNat_natCast, Int.toNat_natCast, Nat.or_comm, or_add _ _ (k % 32 + 1) (Nat.pow_lt_pow_right (by decide) (by omega)) hdw, Nat.add_comm]
  have hset := valL_set Q (k / 32) a hjl
  rw [hword, ea, Int.toNat_natCast, Int.toNat_natCast, Nat.mul_add, ← Nat.pow_add, show 32 * (k / 32) + k % 32 = k by omega] at hset
  have hkm : ((k : Int) - 1 + 1).toNat = k := by omega
  exact {
    o1 := isMag_iff.2 hk.hm
    o2 := by show (decide (0 ≤ (k : Int)) && decide ((k : Int) ≤ 32000)) = true; simp; omega
    o3 := isMag_iff.2 hr
    o4 := isMag_iff.2 hsm
    o5 := fun h => by
      have h := of_decide_eq_true (hcmp _ h)
      exact decide_eq_true (show valL s ≤ valL r from h)
    o6 := leq_of _ rfl _ _ (by omega)
    o7 := lss_of _ rfl _ _ (by show j < (Q.length : Int); omega)
    o8 := by rw [ew]; show decide (((k % 32 : Nat) : Int) ≥ 0) = true; exact decide_eq_true (by omega)
    n1 := fun h => by
      have h := of_decide_eq_true (hcmp _ h)
      have hsub : stdM.sub r s = magL (valL r - valL s) := rfl
      have hv : valL (magL (valL r - valL s)) = valL r - valL s := magL_val _
      rw [hsub]
      have eset : stdA.set Q j a = Q.set (k / 32) ((W + 2 ^ (k % 32) : Nat) : Int) := by show Q.set j.toNat a = _; rw [ejn, ea]
      rw [eset]
      have hval : valL (Q.set (k / 32) ((W + 2 ^ (k % 32) : Nat) : Int)) = valL Q + 2 ^ k := by omega
      refine ⟨by omega, by omega, by rw [List.length_set]; exact hlen, hw.set _ (by omega), ?_, ?_, ?_, ?_⟩
      · rw [hkm, hval, hc, Nat.pow_succ, Nat.mul_assoc]
        exact Nat.dvd_add (Nat.dvd_mul_right _ _) (Nat.dvd_refl _)
      · exact Mag.lt (k := 32000) (Nat.lt_of_le_of_lt (Nat.sub_le _ _) (Nat.lt_of_lt_of_le (valL_lt hr.w) (Nat.pow_le_pow_right (by decide) (by have := hr.n; omega)))) (Nat.le_refl _)
      · rw [hv, hkm]
        rw [Nat.pow_succ] at hlt
        rw [hsv] at h ⊢
        have := Nat.mul_assoc (valL m) (2 ^ k) 2
        omega
      · rw [hv, hval, Nat.add_mul, heq]
        rw [hsv] at h ⊢
        have := Nat.mul_comm (2 ^ k) (valL m)
        omega
    n0 := fun h => by
      have h := of_decide_eq_false (hcmp _ h)
      refine ⟨by omega, by omega, hlen, hw, ?_, hr, ?_, heq⟩
      · rw [hkm, hc, Nat.pow_succ, Nat.mul_assoc]
        exact Nat.dvd_mul_right _ _
      · rw [hkm, ← hsv]; omega
    ad := by show stdBin .sub .i64 (k : Int) 1 = _; simp only [stdBin, IntKind.wrap_i64]; omega
    ms := by omega }
theorem dm_end {l m : List Int} {n : Nat} (hk : DmOK l m n) {i : Int} {Q r : List Int} (hI : DmI l m n i Q r) (A : Alg) (hA : A = stdA) (X : SX) (hX : X = stdX) (M : SM) (hM : M = stdM) (hb : A.cmp .geq i 0 = false) : MagEnd A X Q (M.dq l m) ∧ r = M.dr l m := by
  subst hM
  obtain ⟨i0, i1, hlen, hw, hdv, hr, hlt, heq⟩ := hI
  have hn := hk.n1
  have hb : ¬ i ≥ 0 := by subst hA; exact of_decide_eq_false hb
  have hi : (i + 1).toNat = 0 := by omega
  rw [hi] at hlt
  have hlt : valL r < valL m := by simpa using hlt
  have hm0 := hk.m0
  have hq : valL l / valL m = valL Q := by
    rw [heq, Nat.mul_comm, Nat.mul_add_div hm0, Nat.div_eq_of_lt hlt, Nat.add_zero]
  have hr' : valL l % valL m = valL r := by
    rw [heq, Nat.mul_comm, Nat.mul_add_mod, Nat.mod_eq_of_lt hlt]
  constructor
  · have : stdM.dq l m = magL (valL l / valL m) := rfl
    rw [this]
    exact mag_end hw (by omega) hq.symm A hA X hX
  · show r = magL (valL l % valL m)
    rw [hr']; exact hr.eq
theorem ok_mdm : CallOK Tryz.prog 183 (heapSemF [.s (.int .u32), .s (.int .u32)] stdA (gMdm stdA stdM)) := by
  refine callOK_heapF (un := ⟨false, some [0,1,4,5,6,7,8,9,10,17,26,35]⟩) tok tM10OK mixed (fn := Tryz.f183) (by kernel_rfl) (by kernel_rfl) (by kernel_rfl) (by decide +kernel) ?_
  intro w Wr args bs r hg ho hWr A L k hA hL hk
  obtain ⟨M, hM⟩ : ∃ M, M = stdM := ⟨_, rfl⟩
  obtain ⟨S, hS⟩ : ∃ S, S = stdW := ⟨_, rfl⟩
  obtain ⟨V, hV⟩ : ∃ V, V = stdV := ⟨_, rfl⟩
  obtain ⟨X, hX⟩ : ∃ X, X = stdX := ⟨_, rfl⟩
  (try rw [← hM])
  (try rw [← hS])
  (try rw [← hV])
  (try rw [← hX])
  (try rw [← hA])
  unfold gMdm at hg
  split at hg
  rotate_left
  · cases hg
  simp only [Option.some.injEq] at hg
  subst hg
  rename_i l m
  have hl : Mag l := isMag_iff.1 ((ho_cons ho).1)
  have hm : Mag m := isMag_iff.1 ((ho_cons (ho_cons ho).2).1)
  have m0 : valL m ≠ 0 := of_decide_eq_true (p := valL m ≠ 0) ((ho_cons (ho_cons (ho_cons ho).2).2).1)
  clear ho
  have okl : M.ok l = true := by rw [hM]; exact isMag_iff.2 hl
  have okm : M.ok m = true := by rw [hM]; exact isMag_iff.2 hm
  have hd := dm_head hl hm m0 A hA M hM _ _ rfl rfl
  cbv
  repeat' first | (with_reducible intro hb; cbv) | with_reducible refine And.intro ?_ ?_
  all_goals first | exact okl | exact okm | exact hd.o1 hb | exact hd.o2 | exact hd.o3 hb | skip
  · have hz := hd.neg hb
    subst hM
    exact hk _ _ (GoodF.two .nils (.hs 0) _ _ rfl (fun ρ => retF2) rfl rfl (SrcOK.nils hz.1) (SrcOK.hs rfl hz.2))
  have i0 := hd.i0 hb
  have dk := hd.ok hb
  clear hd okl okm
  refine hL _ _ _ (loop_ruleR (un := ⟨false, some [1, 4, 5, 7, 8, 9, 10, 26, 35]⟩) tok tM10OK mixed 2 (fun i hi => by have := hWr i hi; simp at this; exact this) (fun p : Int × List Int × List Int => ⟨[(9, ⟨[], .c (.s (.int .i64 p.1))⟩), (8, ⟨[], .c (.s (.hs 3))⟩), (7, ⟨[], .c (.s (.hs 2))⟩), (1, ⟨[], .c (.s (.hs 1))⟩)], [(1, .vec false (.int .u32) m), (2, .vec true (.int .u32) p.2.1), (3, .vec false (.int .u32) p.2.2)], 4⟩)
    (fun p => DmI l m (A.bin .sub .i64 (M.bits l) (M.bits m)).toNat p.1 p.2.1 p.2.2) (fun p => (p.1 + 1).toNat) (_, _, l) i0 [(3, .hs 0)] ?_ (fun _ => Nat.le_of_ble_eq_true rfl) ?_)
  · exact ⟨⟨⟨rfl, rfl, fun _ => rfl⟩, ⟨rfl, rfl, fun _ => rfl⟩, ⟨rfl, rfl, fun _ => rfl⟩, ⟨rfl, rfl, fun _ => rfl⟩, trivial⟩, ⟨⟨rfl, rfl, rfl, rfl, fun h => h⟩, ⟨rfl, rfl, rfl, rfl, fun h => h⟩, ⟨rfl, rfl, rfl, rfl, fun h => h⟩, trivial⟩, rfl, rfl, rfl, rfl⟩
  clear i0 hb
  rintro ⟨i, Q, r⟩ hI A2 L2 k2 hA2 hL2 hnext hexit hret
  have st := fun hb => dm_step dk hI A2 hA2 M hM hb _ rfl _ _ rfl rfl
  have en := fun hb => dm_end dk hI A hA X hX M hM (by rw [hA, ← hA2]; exact hb)
  clear hI
  rw [← hA2, ← hS, ← hV, ← hX, ← hM]
  cbv
  repeat' first | (with_reducible intro hb; cbv) | with_reducible refine And.intro ?_ ?_
  all_goals first | exact (st (by assumption)).o1 | exact (st (by assumption)).o2 | exact (st (by assumption)).o3 | exact (st (by assumption)).o4 | exact (st (by assumption)).o5 (by assumption) | exact (st (by assumption)).o6 | exact (st (by assumption)).o7 | exact (st (by assumption)).o8 | skip
  · rename_i hb0
    refine hnext _ (i - 1, _, _) [(3, .hs 5)] ((st hb0).n1 hb) (st hb0).ms ?_
    have ead := (st hb0).ad
    exact ⟨⟨⟨rfl, rfl, leI ead⟩, ⟨rfl, rfl, fun _ => rfl⟩, ⟨rfl, rfl, fun _ => rfl⟩, ⟨rfl, rfl, fun _ => rfl⟩, trivial⟩, ⟨⟨rfl, rfl, rfl, rfl, fun h => h⟩, ⟨rfl, rfl, rfl, rfl, fun h => h⟩, ⟨rfl, rfl, rfl, rfl, fun h => h⟩, trivial⟩, rfl, rfl, rfl, rfl⟩
  · rename_i hb0
    refine hnext _ (i - 1, _, _) [] ((st hb0).n0 hb) (st hb0).ms ?_
    have ead := (st hb0).ad
    exact ⟨⟨⟨rfl, rfl, leI ead⟩, ⟨rfl, rfl, fun _ => rfl⟩, ⟨rfl, rfl, fun _ => rfl⟩, ⟨rfl, rfl, fun _ => rfl⟩, trivial⟩, ⟨⟨rfl, rfl, rfl, rfl, fun h => h⟩, ⟨rfl, rfl, rfl, rfl, fun h => h⟩, ⟨rfl, rfl, rfl, rfl, fun h => h⟩, trivial⟩, rfl, rfl, rfl, rfl⟩
  · apply hexit
    obtain ⟨em, er⟩ := en hb
    clear hexit hnext hret st en hb
    cbv
    repeat' first | (with_reducible intro hb; cbv) | with_reducible refine And.intro ?_ ?_
    all_goals first | exact em.o1 | skip
    subst hM
    exact hk _ _ (GoodF.two _ _ _ _ rfl (fun ρ => retF2) rfl rfl (SrcOK.hw rfl rfl (Int.le_refl 0) em.t0 em.t1 em.eq) (SrcOK.hs rfl er))
def tM11 (A : Alg) (S : SW) (V : SV) (X : SX) (M : SM) : List (Nat × Sem') := (183, heapSemF [.s (.int .u32), .s (.int .u32)] A (gMdm A M)) :: ((tM10 A S V X M))
theorem tM11OK : COK Tryz.prog (look (tM11 stdA stdW stdV stdX stdM)) := COK_cons ok_mdm (tM10OK)
end Go.Eng
namespace Go.Eng
open Go.Proofs
set_option maxRecDepth 100000
set_option linter.all false
set_option exponentiation.threshold 3000
set_option exponentiation.threshold 40000
def gMgcd (A : Alg) (M : SM) : List CV → List Blk → Option LR
  | [.s (.hs 0), .s (.hs 1)], [.vec false (.int .u32) l, .vec false (.int .u32) m] => some ⟨[M.ok l, M.ok m], .c (.s (.hs 2)), [.vec false (.int .u32) (M.gcd l m)]⟩
  | _, _ => none
structure GdI (l m p q : List Int) : Prop where
  hp : Mag p
  hq : Mag q
  eq : Nat.gcd (valL p) (valL q) = Nat.gcd (valL l) (valL m)
theorem Mag.nz {l : List Int} (h : Mag l) : valL l = 0 ↔ l.length = 0 := by rw [h.len]; exact mWords_zero.symm
theorem Mag.small {l : List Int} (h : Mag l) : valL l < 2 ^ 32000 := Nat.lt_of_lt_of_le (valL_lt h.w) (Nat.pow_le_pow_right (by decide) (by have := h.n; omega))
structure GdStep (A : Alg) (M : SM) (l m p q : List Int) : Prop where
  o1 : M.ok p = true
  o2 : M.ok q = true
  o3 : M.nz q = true
  nx : GdI l m q (M.dr p q)
  ms : valL (M.dr p q) < valL q
theorem gd_step {l m p q : List Int} (hI : GdI l m p q) (A : Alg) (hA : A = stdA) (M : SM) (hM : M = stdM) (hb : A.cmp .gtr (A.len q) 0 = true) : GdStep A M l m p q := by
  subst hA hM
  have hb : (q.length : Int) > 0 := of_decide_eq_true hb
  obtain ⟨hp, hq, heq⟩ := hI
  have hq0 : valL q ≠ 0 := fun h => by have := hq.nz.1 h; omega
  have hlt := Nat.mod_lt (valL p) (Nat.pos_of_ne_zero hq0)
  have e : stdM.dr p q = magL (valL p % valL q) := rfl
  exact {
    o1 := isMag_iff.2 hp
    o2 := isMag_iff.2 hq
    o3 := decide_eq_true hq0
    nx := by
      rw [e]
      refine ⟨hq, Mag.lt (Nat.lt_trans hlt hq.small) (Nat.le_refl _), ?_⟩
      rw [magL_val, ← heq, Nat.gcd_comm (valL q), ← Nat.gcd_rec, Nat.gcd_comm]
    ms := by rw [e, magL_val]; exact hlt }
theorem gd_end {l m p q : List Int} (hI : GdI l m p q) (A : Alg) (hA : A = stdA) (M : SM) (hM : M = stdM) (hb : A.cmp .gtr (A.len q) 0 = false) : p = M.gcd l m := by
  subst hA hM
  have hb : ¬ (q.length : Int) > 0 := of_decide_eq_false hb
  obtain ⟨hp, hq, heq⟩ := hI
  have hq0 : valL q = 0 := hq.nz.2 (by omega)
  rw [hq0, Nat.gcd_zero_right] at heq
  show p = magL (Nat.gcd (valL l) (valL m))
  rw [← heq]; exact hp.eq
theorem ok_mgcd : CallOK Tryz.prog 182 (heapSemF [.s (.int .u32), .s (.int .u32)] stdA (gMgcd stdA stdM)) := by
  refine callOK_heapF (un := ⟨false, some [0,1,4,5,6,7,8,13]⟩) tok tM11OK mixed (fn := Tryz.f182) (by kernel_rfl) (by kernel_rfl) (by kernel_rfl) (by decide +kernel) ?_
  intro w Wr args bs r hg ho hWr A L k hA hL hk
  obtain ⟨M, hM⟩ : ∃ M, M = stdM := ⟨_, rfl⟩
  obtain ⟨S, hS⟩ : ∃ S, S = stdW := ⟨_, rfl⟩
  obtain ⟨V, hV⟩ : ∃ V, V = stdV := ⟨_, rfl⟩
  obtain ⟨X, hX⟩ : ∃ X, X = stdX := ⟨_, rfl⟩
  (try rw [← hM])
  (try rw [← hS])
  (try rw [← hV])
  (try rw [← hX])
  (try rw [← hA])
  unfold gMgcd at hg
  split at hg
  rotate_left
  · cases hg
  simp only [Option.some.injEq] at hg
  subst hg
  rename_i l m
  have hl : Mag l := isMag_iff.1 ((ho_cons ho).1)
  have hm : Mag m := isMag_iff.1 ((ho_cons (ho_cons ho).2).1)
  clear ho
  have i0 : GdI l m l m := ⟨hl, hm, rfl⟩
  cbv
  refine hL _ _ _ (loop_ruleR (un := ⟨false, some [4, 5, 6, 7, 8, 13]⟩) tok tM11OK mixed 2 (fun i hi => by have := hWr i hi; simp at this; exact this) (fun p : List Int × List Int => ⟨[(5, ⟨[], .c (.s (.hs 2))⟩), (6, ⟨[], .c (.s (.hs 3))⟩)], [(2, .vec false (.int .u32) p.1), (3, .vec false (.int .u32) p.2)], 4⟩)
    (fun p => GdI l m p.1 p.2) (fun p => valL p.2) (l, m) i0 [(2, .hs 0), (3, .hs 1)] ?_ (fun _ => Nat.le_of_ble_eq_true rfl) ?_)
  · exact ⟨⟨⟨rfl, rfl, fun _ => rfl⟩, ⟨rfl, rfl, fun _ => rfl⟩, trivial⟩, ⟨⟨rfl, rfl, rfl, rfl, fun h => h⟩, ⟨rfl, rfl, rfl, rfl, fun h => h⟩, trivial⟩, rfl, rfl, rfl, rfl⟩
  clear i0
  rintro ⟨p, q⟩ hI A2 L2 k2 hA2 hL2 hnext hexit hret
  have st := fun hb => gd_step hI A2 hA2 M hM hb
  have en := fun hb => gd_end hI A hA M hM (by rw [hA, ← hA2]; exact hb)
  clear hI
  rw [← hA2, ← hS, ← hV, ← hX, ← hM]
  cbv
  repeat' first | (with_reducible intro hb; cbv) | with_reducible refine And.intro ?_ ?_
  all_goals first | exact (st (by assumption)).o1 | exact (st (by assumption)).o2 | exact (st (by assumption)).o3 | skip
  · refine hnext _ (_, _) [(2, .hs 3), (3, .hs 5)] (st hb).nx (st hb).ms ?_
    exact ⟨⟨⟨rfl, rfl, fun _ => rfl⟩, ⟨rfl, rfl, fun _ => rfl⟩, trivial⟩, ⟨⟨rfl, rfl, rfl, rfl, fun h => h⟩, ⟨rfl, rfl, rfl, rfl, fun h => h⟩, trivial⟩, rfl, rfl, rfl, rfl⟩
  · apply hexit
    have em := en hb
    clear hexit hnext hret st en hb
    cbv
    subst hM
    exact hk _ _ (GoodF.one _ _ rfl (fun ρ => retF) (SrcOK.hs rfl em))
def tM12 (A : Alg) (S : SW) (V : SV) (X : SX) (M : SM) : List (Nat × Sem') := (182, heapSemF [.s (.int .u32), .s (.int .u32)] A (gMgcd A M)) :: ((tM11 A S V X M))
theorem tM12OK : COK Tryz.prog (look (tM12 stdA stdW stdV stdX stdM)) := COK_cons ok_mgcd (tM11OK)
end Go.Eng
namespace Go.Eng
open Go.Proofs
set_option maxRecDepth 100000
set_option linter.all false
set_option exponentiation.threshold 3000
set_option exponentiation.threshold 40000
set_option maxHeartbeats 1000000
theorem wv_mag {s : Bool} {n : Nat} {z : Int} (h : sgd s n = z) : stdX.wV s (magL n) = pick (fitZ z) z ∧ stdX.wOK (magL n) = fitZ z := by
  have ht : tlen (magL n) = mWords n := by rw [tlen_val (magL_W32 n), magL_val]
  have hf : fitZ z = decide (n < 2 ^ 1024) := by unfold fitZ; rw [← h, sgd_abs]
  have hv : magN (magL n) = n := by rw [magN_val, magL_val]
  by_cases h1 : n < 2 ^ 1024
  · have h2 := mWords_32.2 h1
    rw [hf, decide_eq_true h1]
    constructor
    · show (if tlen (magL n) ≤ 32 then tld s (mk1024 (magN (magL n))) else _) = ofZ z
      rw [ht, if_pos h2, hv, tld_sgd s n h1, h]
    · show decide (tlen (magL n) ≤ 32) = true
      rw [ht]; exact decide_eq_true h2
  · have h2 : ¬ mWords n ≤ 32 := fun h => h1 (mWords_32.1 h)
    rw [hf, decide_eq_false h1]
    constructor
    · show (if tlen (magL n) ≤ 32 then tld s (mk1024 (magN (magL n))) else _) = _
      rw [ht, if_neg h2]; rfl
    · show decide (tlen (magL n) ≤ 32) = false
      rw [ht]; exact decide_eq_false h2
theorem Mag.ofW (w : Wd) : Mag (magL w.d.n) := Mag.lt w.d.lt (by decide)
structure MFs (A : Alg) (X : SX) (M : SM) : Prop where
  of : ∀ w, M.ok (M.of w) = true
  gz : ∀ w, A.cmp .gtr (A.len (M.of w)) 0 = decide (w.d.n ≠ 0)
  ez : ∀ w, A.cmp .eql (A.len (M.of w)) 0 = decide (w.d.n = 0)
  ok1 : ∀ l, M.ok l = true → A.cmp .lss (A.len l) 1000000 = true
  ok2 : ∀ l, M.ok l = true → X.rng l = true
  add : ∀ x y, M.ok (M.add (M.of x) (M.of y)) = true
  sum : ∀ s x t y, M.ok (M.sumM s (M.of x) t (M.of y)) = true
  mul : ∀ x y, M.ok (M.mul (M.of x) (M.of y)) = true
  gcd : ∀ x y, M.ok (M.gcd (M.of x) (M.of y)) = true
  dq : ∀ x y, M.ok (M.dq (M.of x) (M.of y)) = true
  dr : ∀ x y, M.ok (M.dr (M.of x) (M.of y)) = true
  shl : ∀ x n, M.ok (M.shl (M.of x) (A.mx 0 (A.mn n 1024))) = true
  sh : ∀ x n, M.sOK (M.of x) (A.mx 0 (A.mn n 1024)) = true
theorem mfs (A : Alg) (hA : A = stdA) (X : SX) (hX : X = stdX) (M : SM) (hM : M = stdM) : MFs A X M := by
  subst hA hX hM
  have hv : ∀ w : Wd, valL (magL w.d.n) = w.d.n := fun w => magL_val _
  have hl : ∀ w : Wd, (magL w.d.n).length = 0 ↔ w.d.n = 0 := fun w => by rw [magL_len]; exact mWords_zero
  have hlt : ∀ w : Wd, w.d.n < 2 ^ 1024 := fun w => w.d.lt
  have hmx : ∀ n, 0 ≤ stdA.mx 0 (stdA.mn n 1024) ∧ stdA.mx 0 (stdA.mn n 1024) ≤ 1024 := fun n => by
    show 0 ≤ (if (if (1024 : Int) < n then (1024 : Int) else n) > 0 then (if (1024 : Int) < n then (1024 : Int) else n) else 0) ∧ (if (if (1024 : Int) < n then (1024 : Int) else n) > 0 then (if (1024 : Int) < n then (1024 : Int) else n) else 0) ≤ 1024
    omega
  exact {
    of := fun w => isMag_iff.2 (Mag.ofW w)
    gz := fun w => by
      show decide (((magL w.d.n).length : Int) > 0) = _
      rw [decide_eq_decide]
      have := hl w
      omega
    ez := fun w => by
      show (((magL w.d.n).length : Int) == 0) = _
      have := hl w
      by_cases h : w.d.n = 0
      · rw [decide_eq_true h, beq_iff_eq]; omega
      · rw [decide_eq_false h, beq_eq_false_iff_ne]; omega
    ok1 := fun l h => lss_of _ rfl _ _ (by have := (isMag_iff.1 h).n; show (l.length : Int) < 1000000; omega)
    ok2 := fun l h => rng_iff.2 (isMag_iff.1 h).w
    add := fun x y => isMag_iff.2 (by
      show Mag (magL (valL (magL x.d.n) + valL (magL y.d.n)))
      rw [hv, hv]
      exact Mag.lt (k := 1025) (by have := hlt x; have := hlt y; rw [Nat.pow_succ]; omega) (by decide))
    sum := fun s x t y => isMag_iff.2 (by
      have h0 := hlt x
      have h1 := hlt y
      show Mag (if s = t then magL (valL (magL x.d.n) + valL (magL y.d.n)) else if valL (magL y.d.n) ≤ valL (magL x.d.n) then magL (valL (magL x.d.n) - valL (magL y.d.n)) else magL (valL (magL y.d.n) - valL (magL x.d.n)))
      rw [hv, hv]
      split
      · exact Mag.lt (k := 1025) (by rw [Nat.pow_succ]; omega) (by decide)
      · split
        · exact Mag.lt (k := 1024) (by omega) (by decide)
        · exact Mag.lt (k := 1024) (by omega) (by decide))
    mul := fun x y => isMag_iff.2 (by
      show Mag (magL (valL (magL x.d.n) * valL (magL y.d.n)))
      rw [hv, hv]
      refine Mag.lt (k := 1024 + 1024) ?_ (by decide)
      rw [Nat.pow_add]
      exact Nat.lt_of_le_of_lt (Nat.mul_le_mul_left _ (Nat.le_of_lt (hlt y))) (Nat.mul_lt_mul_of_pos_right (hlt x) (Nat.two_pow_pos _)))
    gcd := fun x y => isMag_iff.2 (by
      show Mag (magL (Nat.gcd (valL (magL x.d.n)) (valL (magL y.d.n))))
      rw [hv, hv]
      exact Mag.lt (gcd_lt (hlt x) (hlt y)) (by decide))
    dq := fun x y => isMag_iff.2 (by
      show Mag (magL (valL (magL x.d.n) / valL (magL y.d.n)))
      rw [hv, hv]
      exact Mag.lt (Nat.lt_of_le_of_lt (Nat.div_le_self _ _) (hlt x)) (by decide))
    dr := fun x y => isMag_iff.2 (by
      show Mag (magL (valL (magL x.d.n) % valL (magL y.d.n)))
      rw [hv, hv]
      exact Mag.lt (Nat.lt_of_le_of_lt (Nat.mod_le _ _) (hlt x)) (by decide))
    shl := fun x n => isMag_iff.2 (by
      show Mag (magL (valL (magL x.d.n) * 2 ^ (stdA.mx 0 (stdA.mn n 1024)).toNat))
      rw [hv]
      refine Mag.lt (k := 1024 + 1024) ?_ (by decide)
      rw [Nat.pow_add]
      refine Nat.lt_of_le_of_lt (Nat.mul_le_mul_left _ (Nat.pow_le_pow_right (by decide) ?_)) (Nat.mul_lt_mul_of_pos_right (hlt x) (Nat.two_pow_pos _))
      have := (hmx n).2
      have := (hmx n).1
      omega)
    sh := fun x n => by
      have := hmx n
      show (decide (0 ≤ stdA.mx 0 (stdA.mn n 1024)) && decide (stdA.mx 0 (stdA.mn n 1024) ≤ 32000)) = true
      rw [decide_eq_true this.1, decide_eq_true (by omega)]; rfl }
theorem retBF {ρ : Rho} {q : Nat} {x : Sc} {a c : Bool} (h : a = c) : (XV.t [.s (.bool a), .s x]).den ρ = (XV.t [.s (.bool c), .s (.hs q)]).den (extR q [x] ρ) := by
  subst h
  have e1 : extR q [x] ρ q = x.den ρ := extR_new (i := 0) rfl
  show Value.tuple #[.bool a, x.den ρ] = .tuple #[.bool a, extR q [x] ρ q]
  rw [e1]
theorem ok_mneg : CallOK Tryz.prog 129 (heapSem [.v] stdA (gBelow stdW)) := by
  refine callOK_heap (un := ⟨false, some [1,2]⟩) tok tM12OK mixed (fn := Tryz.f129) (by kernel_rfl) (by kernel_rfl) (by kernel_rfl) (by decide +kernel) ?_
  intro w Wr args bs r hg ho hWr A L k hA hL hk
  obtain ⟨M, hM⟩ : ∃ M, M = stdM := ⟨_, rfl⟩
  obtain ⟨S, hS⟩ : ∃ S, S = stdW := ⟨_, rfl⟩
  obtain ⟨V, hV⟩ : ∃ V, V = stdV := ⟨_, rfl⟩
  obtain ⟨X, hX⟩ : ∃ X, X = stdX := ⟨_, rfl⟩
  (try rw [← hM])
  (try rw [← hS])
  (try rw [← hV])
  (try rw [← hX])
  (try rw [← hA])
  unfold gBelow at hg
  split at hg
  rotate_left
  · cases hg
  simp only [Option.some.injEq] at hg
  subst hg
  rename_i w
  have mf := mfs A hA X hX M hM
  cbv
  repeat' first | (with_reducible intro hb; cbv) | with_reducible refine And.intro ?_ ?_
  · refine hk _ _ (Good.pure rfl fun ρ => ?_)
    refine retB ?_
    have h := mf.gz w
    show A.cmp .gtr (A.len (M.of w)) 0 = (w.neg && decide (w.d.n ≠ 0))
    rw [h, hb]; rfl
  · refine hk _ _ (Good.pure rfl fun ρ => ?_)
    refine retT ?_
    show false = (w.neg && decide (w.d.n ≠ 0))
    rw [hb]; rfl
def tM13 (A : Alg) (S : SW) (V : SV) (X : SX) (M : SM) : List (Nat × Sem') := (129, heapSem [.v] A (gBelow S)) :: ((tM12 A S V X M))
theorem tM13OK : COK Tryz.prog (look (tM13 stdA stdW stdV stdX stdM)) := COK_cons ok_mneg (tM12OK)
theorem ok_mis : CallOK Tryz.prog 185 (heapSem [.v] stdA (gIs stdW)) := by
  refine callOK_heap (un := ⟨false, some [1,2]⟩) tok tM13OK mixed (fn := Tryz.f185) (by kernel_rfl) (by kernel_rfl) (by kernel_rfl) (by decide +kernel) ?_
  intro w Wr args bs r hg ho hWr A L k hA hL hk
  obtain ⟨M, hM⟩ : ∃ M, M = stdM := ⟨_, rfl⟩
  obtain ⟨S, hS⟩ : ∃ S, S = stdW := ⟨_, rfl⟩
  obtain ⟨V, hV⟩ : ∃ V, V = stdV := ⟨_, rfl⟩
  obtain ⟨X, hX⟩ : ∃ X, X = stdX := ⟨_, rfl⟩
  (try rw [← hM])
  (try rw [← hS])
  (try rw [← hV])
  (try rw [← hX])
  (try rw [← hA])
  unfold gIs at hg
  split at hg
  rotate_left
  · cases hg
  simp only [Option.some.injEq] at hg
  subst hg
  rename_i w
  have mf := mfs A hA X hX M hM
  cbv
  repeat' first | (with_reducible intro hb; cbv) | with_reducible refine And.intro ?_ ?_
  · refine hk _ _ (Good.pure rfl fun ρ => ?_)
    refine retT ?_
    have hb : (!w.neg) = true := by rw [hA] at hb; exact hb
    show true = (!w.neg || decide (w.d.n ≠ 0))
    rw [hb]; rfl
  · refine hk _ _ (Good.pure rfl fun ρ => ?_)
    refine retB ?_
    have h := mf.gz w
    have hb : (!w.neg) = false := by rw [hA] at hb; exact hb
    show A.cmp .gtr (A.len (M.of w)) 0 = (!w.neg || decide (w.d.n ≠ 0))
    rw [h, hb]; rfl
theorem ok_mbitsW : CallOK Tryz.prog 131 (heapSem [.v] stdA (gBits stdW)) := by
  refine callOK_heap (un := ⟨false, some [1,2]⟩) tok tM13OK mixed (fn := Tryz.f131) (by kernel_rfl) (by kernel_rfl) (by kernel_rfl) (by decide +kernel) ?_
  intro w Wr args bs r hg ho hWr A L k hA hL hk
  obtain ⟨M, hM⟩ : ∃ M, M = stdM := ⟨_, rfl⟩
  obtain ⟨S, hS⟩ : ∃ S, S = stdW := ⟨_, rfl⟩
  obtain ⟨V, hV⟩ : ∃ V, V = stdV := ⟨_, rfl⟩
  obtain ⟨X, hX⟩ : ∃ X, X = stdX := ⟨_, rfl⟩
  (try rw [← hM])
  (try rw [← hS])
  (try rw [← hV])
  (try rw [← hX])
  (try rw [← hA])
  unfold gBits at hg
  split at hg
  rotate_left
  · cases hg
  simp only [Option.some.injEq] at hg
  subst hg
  rename_i w
  have mf := mfs A hA X hX M hM
  cbv
  repeat' first | (with_reducible intro hb; cbv) | with_reducible refine And.intro ?_ ?_
  all_goals first | exact mf.of _ | skip
  refine hk _ _ (Good.pure rfl fun ρ => ?_)
  refine ret1 ?_
  subst hM
  show ((lenOf (valL (magL w.d.n)) : Nat) : Int) = ((lenOf w.d.n : Nat) : Int)
  rw [magL_val]
structure CmpF (A : Alg) (S : SW) (M : SM) (x y : Wd) : Prop where
  c1 : A.ite (S.below x) (A.not (S.below y)) false = true → -1 = S.cmp x y
  c2 : A.ite (A.not (S.below x)) (S.below y) false = true → 1 = S.cmp x y
  c3 : A.ite (S.below x) (A.not (S.below y)) false = false → S.below x = true → M.cmp (M.of y) (M.of x) = S.cmp x y
  c4 : A.ite (A.not (S.below x)) (S.below y) false = false → S.below x = false → M.cmp (M.of x) (M.of y) = S.cmp x y
theorem cmp_f (x y : Wd) (A : Alg) (hA : A = stdA) (S : SW) (hS : S = stdW) (M : SM) (hM : M = stdM) : CmpF A S M x y := by
  subst hA hS hM
  have hx := wbelow_eq x
  have hy := wbelow_eq y
  have ax := wval_abs x
  have ay := wval_abs y
  have ht : ∀ c b, stdA.ite c b false = true → c = true ∧ b = true := fun c b h => by
    have h : (if c = true then b else false) = true := h
    cases c <;> simp_all
  have hf : ∀ c b, stdA.ite c b false = false → c = true → b = false := fun c b h hc => by
    have h : (if c = true then b else false) = false := h
    subst hc; simpa using h
  have hn : ∀ c b, stdA.not c = b → c = !b := fun c b h => by
    have h : (!c) = b := h
    rw [← h]; simp
  have e : ∀ u v : Wd, stdM.cmp (stdM.of u) (stdM.of v) = sgn u.d.n v.d.n := fun u v => by
    show sgn (valL (magL u.d.n) : Nat) (valL (magL v.d.n) : Nat) = _
    rw [magL_val, magL_val]
  refine ⟨fun h => ?_, fun h => ?_, fun h0 h1 => ?_, fun h0 h1 => ?_⟩
  · obtain ⟨h1, h2⟩ := ht _ _ h
    have h2 := hn _ _ h2
    have h1 : wbelow x = true := h1
    have h2 : wbelow y = false := h2
    rw [hx, decide_eq_true_eq] at h1
    rw [hy, decide_eq_false_iff_not] at h2
    show -1 = sgn (wval x) (wval y)
    unfold sgn; rw [if_pos (by omega)]
  · obtain ⟨h1, h2⟩ := ht _ _ h
    have h1 := hn _ _ h1
    have h1 : wbelow x = false := h1
    have h2 : wbelow y = true := h2
    rw [hx, decide_eq_false_iff_not] at h1
    rw [hy, decide_eq_true_eq] at h2
    show 1 = sgn (wval x) (wval y)
    unfold sgn; rw [if_neg (by omega), if_pos (by omega)]
  · have h2 := hn _ _ (hf _ _ h0 h1)
    have h1 : wbelow x = true := h1
    have h2 : wbelow y = true := h2
    rw [hx, decide_eq_true_eq] at h1
    rw [hy, decide_eq_true_eq] at h2
    rw [e]
    show sgn (y.d.n : Int) (x.d.n : Int) = sgn (wval x) (wval y)
    rw [← ax, ← ay]
    unfold sgn
    have e1 : ((wval y).natAbs : Int) < ((wval x).natAbs : Int) ↔ wval x < wval y := by omega
    have e2 : ((wval x).natAbs : Int) < ((wval y).natAbs : Int) ↔ wval y < wval x := by omega
    simp only [e1, e2]
  · have h2 := hf _ _ h0 (by
      have h1 : stdW.below x = false := h1
      show (!stdW.below x) = true
      rw [h1]; rfl)
    have h1 : wbelow x = false := h1
    have h2 : wbelow y = false := h2
    rw [hx, decide_eq_false_iff_not] at h1
    rw [hy, decide_eq_false_iff_not] at h2
    rw [e]
    show sgn (x.d.n : Int) (y.d.n : Int) = sgn (wval x) (wval y)
    rw [← ax, ← ay]
    have e1 : ((wval x).natAbs : Int) = wval x := by omega
    have e2 : ((wval y).natAbs : Int) = wval y := by omega
    rw [e1, e2]
theorem ok_mcmpW : CallOK Tryz.prog 167 (heapSem [.v, .v] stdA (gWCmp stdW)) := by
  refine callOK_heap (un := ⟨false, some [2,3,4,5,6,11,17,23]⟩) tok tM13OK mixed (fn := Tryz.f167) (by kernel_rfl) (by kernel_rfl) (by kernel_rfl) (by decide +kernel) ?_
  intro w Wr args bs r hg ho hWr A L k hA hL hk
  obtain ⟨M, hM⟩ : ∃ M, M = stdM := ⟨_, rfl⟩
  obtain ⟨S, hS⟩ : ∃ S, S = stdW := ⟨_, rfl⟩
  obtain ⟨V, hV⟩ : ∃ V, V = stdV := ⟨_, rfl⟩
  obtain ⟨X, hX⟩ : ∃ X, X = stdX := ⟨_, rfl⟩
  (try rw [← hM])
  (try rw [← hS])
  (try rw [← hV])
  (try rw [← hX])
  (try rw [← hA])
  unfold gWCmp at hg
  split at hg
  rotate_left
  · cases hg
  simp only [Option.some.injEq] at hg
  subst hg
  rename_i x y
  have mf := mfs A hA X hX M hM
  have cf := cmp_f x y A hA S hS M hM
  cbv
  repeat' first | (with_reducible intro hb; cbv) | with_reducible refine And.intro ?_ ?_
  all_goals first | exact mf.of _ | skip
  · refine hk _ _ (Good.pure rfl fun ρ => ?_)
    subst hS
    exact retL (cf.c1 hb)
  · rename_i hb0
    refine hk _ _ (Good.pure rfl fun ρ => ?_)
    subst hS
    exact retL (cf.c2 hb)
  · rename_i hb0 hb1
    refine hk _ _ (Good.pure rfl fun ρ => ?_)
    subst hS
    exact ret1 (cf.c3 hb0 hb)
  · rename_i hb0 hb1
    refine hk _ _ (Good.pure rfl fun ρ => ?_)
    subst hS
    exact ret1 (cf.c4 hb1 hb)
def gMsum (M : SM) : List CV → List Blk → Option LR
  | [.s (.bool x), .s (.hs 0), .s (.bool y), .s (.hs 1)], [.vec false (.int .u32) l, .vec false (.int .u32) m] => some ⟨[M.ok l, M.ok m], .t [.s (.bool (M.sumS x l y m)), .s (.hs 2)], [.vec false (.int .u32) (M.sumM x l y m)]⟩
  | _, _ => none
structure SumF (A : Alg) (M : SM) (x : Bool) (l : List Int) (y : Bool) (m : List Int) : Prop where
  e1 : A.beq x y = true → x = M.sumS x l y m ∧ M.add l m = M.sumM x l y m
  e2 : A.beq x y = false → A.cmp .geq (M.cmp l m) 0 = true → x = M.sumS x l y m ∧ M.sub l m = M.sumM x l y m ∧ M.le m l = true
  e3 : A.beq x y = false → A.cmp .geq (M.cmp l m) 0 = false → y = M.sumS x l y m ∧ M.sub m l = M.sumM x l y m ∧ M.le l m = true
theorem sum_f (x : Bool) (l : List Int) (y : Bool) (m : List Int) (A : Alg) (hA : A = stdA) (M : SM) (hM : M = stdM) : SumF A M x l y m := by
  subst hA hM
  have hq : ∀ b, stdA.beq x y = b → decide (x = y) = b := fun b h => by
    have h : (x == y) = b := h
    rw [← h]; cases x <;> cases y <;> rfl
  have hc : ∀ b, stdA.cmp .geq (stdM.cmp l m) 0 = b → decide (valL m ≤ valL l) = b := fun b h => by
    rw [← h]
    show _ = decide (sgn (valL l) (valL m) ≥ 0)
    rw [sgn_ge]
  have eS : stdM.sumS x l y m = if x = y then x else if valL m ≤ valL l then x else y := rfl
  have eM : stdM.sumM x l y m = if x = y then magL (valL l + valL m) else if valL m ≤ valL l then magL (valL l - valL m) else magL (valL m - valL l) := rfl
  refine ⟨fun h => ?_, fun h h' => ?_, fun h h' => ?_⟩
  · have h := of_decide_eq_true (hq _ h)
    rw [eS, eM, if_pos h, if_pos h]
    exact ⟨rfl, rfl⟩
  · have h := of_decide_eq_false (hq _ h)
    have h' := of_decide_eq_true (hc _ h')
    rw [eS, eM, if_neg h, if_neg h, if_pos h', if_pos h']
    exact ⟨rfl, rfl, decide_eq_true (p := valL m ≤ valL l) h'⟩
  · have h := of_decide_eq_false (hq _ h)
    have h' := of_decide_eq_false (hc _ h')
    rw [eS, eM, if_neg h, if_neg h, if_neg h', if_neg h']
    exact ⟨rfl, rfl, decide_eq_true (p := valL l ≤ valL m) (by omega)⟩
theorem ok_msum : CallOK Tryz.prog 198 (heapSemF [.v, .s (.int .u32), .v, .s (.int .u32)] stdA (gMsum stdM)) := by
  refine callOK_heapF (un := ⟨false, some [0,1,2,3,8,9,12,20]⟩) tok tM13OK mixed (fn := Tryz.f198) (by kernel_rfl) (by kernel_rfl) (by kernel_rfl) (by decide +kernel) ?_
  intro w Wr args bs r hg ho hWr A L k hA hL hk
  obtain ⟨M, hM⟩ : ∃ M, M = stdM := ⟨_, rfl⟩
  obtain ⟨S, hS⟩ : ∃ S, S = stdW := ⟨_, rfl⟩
  obtain ⟨V, hV⟩ : ∃ V, V = stdV := ⟨_, rfl⟩
  obtain ⟨X, hX⟩ : ∃ X, X = stdX := ⟨_, rfl⟩
  (try rw [← hM])
  (try rw [← hS])
  (try rw [← hV])
  (try rw [← hX])
  (try rw [← hA])
  unfold gMsum at hg
  split at hg
  rotate_left
  · cases hg
  simp only [Option.some.injEq] at hg
  subst hg
  rename_i x y l m
  have hl := (ho_cons ho).1
  have hm := (ho_cons (ho_cons ho).2).1
  clear ho
  rw [← hM] at hl hm
  have sf := sum_f x l y m A hA M hM
  cbv
  repeat' first | (with_reducible intro hb; cbv) | with_reducible refine And.intro ?_ ?_
  all_goals first | exact hl | exact hm | exact (sf.e2 (by assumption) (by assumption)).2.2 | exact (sf.e3 (by assumption) (by assumption)).2.2 | skip
  · have e := sf.e1 hb
    subst hM
    exact hk _ _ (GoodF.one _ _ rfl (fun ρ => retBF e.1) (SrcOK.hs rfl e.2))
  · rename_i hb0
    have e := sf.e2 hb0 hb
    subst hM
    exact hk _ _ (GoodF.one _ _ rfl (fun ρ => retBF e.1) (SrcOK.hs rfl e.2.1))
  · rename_i hb0
    have e := sf.e3 hb0 hb
    subst hM
    exact hk _ _ (GoodF.one _ _ rfl (fun ρ => retBF e.1) (SrcOK.hs rfl e.2.1))
def tM14 (A : Alg) (S : SW) (V : SV) (X : SX) (M : SM) : List (Nat × Sem') := (185, heapSem [.v] A (gIs S)) :: (131, heapSem [.v] A (gBits S)) :: (167, heapSem [.v, .v] A (gWCmp S)) :: (198, heapSemF [.v, .s (.int .u32), .v, .s (.int .u32)] A (gMsum M)) :: ((tM13 A S V X M))
theorem tM14OK : COK Tryz.prog (look (tM14 stdA stdW stdV stdX stdM)) := COK_cons ok_mis (COK_cons ok_mbitsW (COK_cons ok_mcmpW (COK_cons ok_msum (tM13OK))))
end Go.Eng
namespace Go.Eng
open Go.Proofs
set_option maxRecDepth 100000
set_option linter.all false
set_option exponentiation.threshold 3000
set_option exponentiation.threshold 40000
set_option maxHeartbeats 1000000
structure ArF (A : Alg) (S : SW) (V : SV) (X : SX) (M : SM) (x y : Wd) : Prop where
  add : X.wV (M.sumS (S.below x) (M.of x) (S.below y) (M.of y)) (M.sumM (S.below x) (M.of x) (S.below y) (M.of y)) = V.add x y ∧ X.wOK (M.sumM (S.below x) (M.of x) (S.below y) (M.of y)) = V.addOK x y
  sub : X.wV (M.sumS (S.below x) (M.of x) (A.not (S.below y)) (M.of y)) (M.sumM (S.below x) (M.of x) (A.not (S.below y)) (M.of y)) = V.sub x y ∧ X.wOK (M.sumM (S.below x) (M.of x) (A.not (S.below y)) (M.of y)) = V.subOK x y
  mul : X.wV (A.not (A.beq (S.below x) (S.below y))) (M.mul (M.of x) (M.of y)) = V.mul x y ∧ X.wOK (M.mul (M.of x) (M.of y)) = V.mulOK x y
  gcd : X.wV false (M.gcd (M.of x) (M.of y)) = V.gcd x y
  dz : A.cmp .eql (A.len (M.of y)) 0 = true → (⟨false, Dg.zero⟩ : Wd) = V.dmQ x y ∧ (⟨false, Dg.zero⟩ : Wd) = V.dmR x y ∧ false = V.dmOK y
  dn : A.cmp .eql (A.len (M.of y)) 0 = false → M.nz (M.of y) = true ∧ X.wV (A.not (A.beq (S.below x) (S.below y))) (M.dq (M.of x) (M.of y)) = V.dmQ x y ∧ X.wV (S.below x) (M.dr (M.of x) (M.of y)) = V.dmR x y ∧ true = V.dmOK y
theorem ar_f (x y : Wd) (A : Alg) (hA : A = stdA) (S : SW) (hS : S = stdW) (V : SV) (hV : V = stdV) (X : SX) (hX : X = stdX) (M : SM) (hM : M = stdM) : ArF A S V X M x y := by
  have ez := (mfs A hA X hX M hM).ez y
  subst hA hS hV hX hM
  have ho : ∀ w : Wd, valL (stdM.of w) = w.d.n := fun w => magL_val _
  have eS : ∀ s t, stdM.sumS s (stdM.of x) t (stdM.of y) = if s = t then s else if y.d.n ≤ x.d.n then s else t := fun s t => by
    show (if s = t then s else if valL (stdM.of y) ≤ valL (stdM.of x) then s else t) = _
    rw [ho, ho]
  have eM : ∀ s t, stdM.sumM s (stdM.of x) t (stdM.of y) = magL (if s = t then x.d.n + y.d.n else if y.d.n ≤ x.d.n then x.d.n - y.d.n else y.d.n - x.d.n) := fun s t => by
    show (if s = t then magL (valL (stdM.of x) + valL (stdM.of y)) else if valL (stdM.of y) ≤ valL (stdM.of x) then magL (valL (stdM.of x) - valL (stdM.of y)) else magL (valL (stdM.of y) - valL (stdM.of x))) = _
    rw [ho, ho]
    split
    · rfl
    · split <;> rfl
  have hsum : ∀ s t, sgd s x.d.n + sgd t y.d.n = sgd (stdM.sumS s (stdM.of x) t (stdM.of y)) (if s = t then x.d.n + y.d.n else if y.d.n ≤ x.d.n then x.d.n - y.d.n else y.d.n - x.d.n) := fun s t => by rw [eS]; exact add_abs
  have hx := wval_sgd x
  have hy := wval_sgd y
  have hny : sgd (!wbelow y) y.d.n = -wval y := by rw [hy]; cases wbelow y <;> simp [sgd]
  have sgm : ∀ (s t : Bool) (a b : Nat), sgd (!(s == t)) (a * b) = sgd s a * sgd t b := fun s t a b => by cases s <;> cases t <;> simp [sgd, Int.neg_mul, Int.mul_neg]
  refine ⟨?_, ?_, ?_, ?_, fun h => ?_, fun h => ?_⟩
  · rw [eM]
    have := wv_mag (hsum (wbelow x) (wbelow y)).symm
    rw [← hx, ← hy] at this
    exact this
  · rw [eM]
    have := wv_mag (hsum (wbelow x) (!wbelow y)).symm
    rw [← hx, hny, ← Int.sub_eq_add_neg] at this
    exact this
  · have := wv_mag (sgm (wbelow x) (wbelow y) x.d.n y.d.n)
    rw [← hx, ← hy] at this
    have e : stdM.mul (stdM.of x) (stdM.of y) = magL (x.d.n * y.d.n) := by show magL (valL (stdM.of x) * valL (stdM.of y)) = _; rw [ho, ho]
    rw [e]
    exact this
  · have e : stdM.gcd (stdM.of x) (stdM.of y) = magL (Nat.gcd x.d.n y.d.n) := by show magL (Nat.gcd (valL (stdM.of x)) (valL (stdM.of y))) = _; rw [ho, ho]
    rw [e, (wv_mag (s := false) (n := Nat.gcd x.d.n y.d.n) rfl).1]
    have hf : fitZ (sgd false (Nat.gcd x.d.n y.d.n)) = true := decide_eq_true (p := _ < 2 ^ 1024) (by rw [sgd_abs]; exact gcd_lt x.d.lt y.d.lt)
    rw [hf]
    show ofZ ((Nat.gcd x.d.n y.d.n : Nat) : Int) = ofZ ((Int.gcd (wval x) (wval y) : Nat) : Int)
    unfold Int.gcd
    rw [wval_abs, wval_abs]
  · rw [ez, decide_eq_true_eq] at h
    obtain ⟨g1, g2, g3⟩ := dm_zero x y h
    exact ⟨g1.symm, g2.symm, g3.symm⟩
  · rw [ez, decide_eq_false_iff_not] at h
    have hn : stdM.nz (stdM.of y) = true := decide_eq_true (p := valL (stdM.of y) ≠ 0) (by rw [ho]; exact h)
    obtain ⟨g1, g2, g3⟩ := dm_eq x y h
    have e1 : stdM.dq (stdM.of x) (stdM.of y) = magL (x.d.n / y.d.n) := by show magL (valL (stdM.of x) / valL (stdM.of y)) = _; rw [ho, ho]
    have e2 : stdM.dr (stdM.of x) (stdM.of y) = magL (x.d.n % y.d.n) := by show magL (valL (stdM.of x) % valL (stdM.of y)) = _; rw [ho, ho]
    have hq : x.d.n / y.d.n < 2 ^ 1024 := Nat.lt_of_le_of_lt (Nat.div_le_self _ _) x.d.lt
    have hr : x.d.n % y.d.n < 2 ^ 1024 := Nat.lt_of_le_of_lt (Nat.mod_le _ _) x.d.lt
    have key : ∀ (s : Bool) (n : Nat) (D : Dg), n < 2 ^ 1024 → D.n = n → stdX.wV s (magL n) = tld s D := fun s n D hn hD => by
      have hf : fitZ (sgd s n) = true := decide_eq_true (p := _ < 2 ^ 1024) (by rw [sgd_abs]; exact hn)
      rw [(wv_mag (s := s) (n := n) rfl).1, hf, tld_ofZ, hD]; rfl
    refine ⟨hn, ?_, ?_, g3.symm⟩
    · rw [e1, g1]; exact key _ _ _ hq rfl
    · rw [e2, g2]; exact key _ _ _ hr rfl
theorem ok_mmuW : CallOK Tryz.prog 166 (heapSem [.v, .v] stdA (gMul stdV)) := by
  refine callOK_heap (un := ⟨false, some [2,3,4,5,6,7]⟩) tok tM14OK mixed (fn := Tryz.f166) (by kernel_rfl) (by kernel_rfl) (by kernel_rfl) (by decide +kernel) ?_
  intro w Wr args bs r hg ho hWr A L k hA hL hk
  obtain ⟨M, hM⟩ : ∃ M, M = stdM := ⟨_, rfl⟩
  obtain ⟨S, hS⟩ : ∃ S, S = stdW := ⟨_, rfl⟩
  obtain ⟨V, hV⟩ : ∃ V, V = stdV := ⟨_, rfl⟩
  obtain ⟨X, hX⟩ : ∃ X, X = stdX := ⟨_, rfl⟩
  (try rw [← hM])
  (try rw [← hS])
  (try rw [← hV])
  (try rw [← hX])
  (try rw [← hA])
  unfold gMul at hg
  split at hg
  rotate_left
  · cases hg
  simp only [Option.some.injEq] at hg
  subst hg
  rename_i x y
  have mf := mfs A hA X hX M hM
  have af := ar_f x y A hA S hS V hV X hX M hM
  cbv
  repeat' first | (with_reducible intro hb; cbv) | with_reducible refine And.intro ?_ ?_
  all_goals first | exact mf.of _ | exact mf.ok1 _ (mf.mul _ _) | exact mf.ok2 _ (mf.mul _ _) | skip
  refine hk _ _ (Good.pure rfl fun ρ => ?_)
  subst hV
  exact tupW af.mul.1 af.mul.2
def tM15 (A : Alg) (S : SW) (V : SV) (X : SX) (M : SM) : List (Nat × Sem') := (166, heapSem [.v, .v] A (gMul V)) :: ((tM14 A S V X M))
theorem tM15OK : COK Tryz.prog (look (tM15 stdA stdW stdV stdX stdM)) := COK_cons ok_mmuW (tM14OK)
end Go.Eng
namespace Go.Eng
open Go.Proofs
set_option maxRecDepth 100000
set_option linter.all false
set_option exponentiation.threshold 3000
set_option exponentiation.threshold 40000
set_option maxHeartbeats 1000000
def tM16 (A : Alg) (S : SW) (V : SV) (X : SX) (M : SM) : List (Nat × Sem') := ((tM15 A S V X M))
theorem tM16OK : COK Tryz.prog (look (tM16 stdA stdW stdV stdX stdM)) := tM15OK
end Go.Eng

