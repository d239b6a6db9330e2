/- Contracts: whole numbers, a row shifted by bits. -/
import Derived.Test.YtmajpppjakdodaaCN3
namespace Go.Eng
open Go.Proofs
set_option maxRecDepth 100000
set_option linter.all false
set_option exponentiation.threshold 3000

/-- a word shifted -/
theorem shl_word (v n : Int) (h0 : 0 ≤ v) (h1 : v < 4294967296) (n0 : 0 ≤ n) (n1 : n < 32) : stdBin .shl .u64 (IntKind.u64.wrap v) n = v * 2 ^ n.toNat ∧ 0 ≤ v * 2 ^ n.toNat ∧ v * 2 ^ n.toNat < 18446744073709551616 := by
  have hp : (2 : Nat) ^ n.toNat ≤ 2 ^ 31 := Nat.pow_le_pow_right (by decide) (by omega)
  have hc : ((2 : Int) ^ n.toNat) = ((2 ^ n.toNat : Nat) : Int) := by simp
  have hb : v * ((2 ^ n.toNat : Nat) : Int) < 4294967296 * 2147483648 := by
    have h2 : v * ((2 ^ n.toNat : Nat) : Int) ≤ v * 2147483648 := Int.mul_le_mul_of_nonneg_left (by omega) h0
    omega
  have hz : 0 ≤ v * ((2 ^ n.toNat : Nat) : Int) := Int.mul_nonneg h0 (Int.natCast_nonneg _)
  have e1 : IntKind.u64.wrap v = v := by rw [w_u64]; omega
  rw [e1]
  rw [hc]
  refine ⟨?_, hz, by omega⟩
  show IntKind.u64.wrap (v * 2 ^ min n.toNat 64) = _
  rw [Nat.min_eq_left (by omega), hc, w_u64]
  omega

theorem low_word (w : Int) (h0 : 0 ≤ w) (h1 : w < 18446744073709551616) : IntKind.u32.wrap (stdBin .and .u64 w 4294967295) = w % 4294967296 := by
  rw [u64_low w h0 h1, IntKind.wrap_u32]; omega
theorem high_word (w : Int) (h0 : 0 ≤ w) (h1 : w < 18446744073709551616) : IntKind.u32.wrap (stdBin .shr .u64 w 32) = w / 4294967296 := by
  rw [u64_high w h0, IntKind.wrap_u32]; omega

theorem shifted_step (l M : List Int) (i n : Int) (n1 : 0 ≤ n) (n2 : n < 32) (hW : W32 l) (hlen : (l.length : Int) ≤ 64) (i0 : 0 ≤ i) (i1 : i < (l.length : Int)) (m1 : W32 M) (m2 : M.length = l.length + 1) (m3 : valL M = 2 ^ n.toNat * valL (l.take i.toNat)) (m4 : valL M < 2 ^ (32 * i.toNat + n.toNat))
    (A : Alg) (hA : A = stdA) (w a b : Int) (hw : w = A.bin .shl .u64 (A.wrap .u64 (A.get l i 0)) n) (ha : a = A.bin .or .u32 (A.get M i 0) (A.wrap .u32 (A.bin .and .u64 w 4294967295))) (hb : b = A.wrap .u32 (A.bin .shr .u64 w 32)) :
    W32 (A.set (A.set M i a) (A.bin .add .i64 i 1) b) ∧ (A.set (A.set M i a) (A.bin .add .i64 i 1) b).length = l.length + 1 ∧ valL (A.set (A.set M i a) (A.bin .add .i64 i 1) b) = 2 ^ n.toNat * valL (l.take (i + 1).toNat) ∧ valL (A.set (A.set M i a) (A.bin .add .i64 i 1) b) < 2 ^ (32 * (i + 1).toNat + n.toNat) ∧
    A.bin .add .i64 i 1 = i + 1 ∧ A.len (A.set M i a) = (l.length : Int) + 1 := by
  subst hA
  have hgl : stdA.get l i 0 = l.getD i.toNat 0 := rfl
  have hgm : stdA.get M i 0 = M.getD i.toNat 0 := rfl
  obtain ⟨v0, v1⟩ := hW.getD i.toNat
  obtain ⟨u0, u1⟩ := m1.getD i.toNat
  obtain ⟨s1, s2, s3⟩ := shl_word (l.getD i.toNat 0) n v0 v1 n1 n2
  have hw' : w = l.getD i.toNat 0 * 2 ^ n.toNat := by rw [hw, hgl]; exact s1
  rw [← hw'] at s2 s3
  have ha' : a = (((M.getD i.toNat 0).toNat ||| (w % 4294967296).toNat : Nat) : Int) := by
    rw [ha, hgm]
    show stdBin .or .u32 _ (IntKind.u32.wrap (stdBin .and .u64 w 4294967295)) = _
    rw [low_word w s2 s3, u32_or _ _ u0 u1 (by omega) (by omega)]
  have hb' : b = w / 4294967296 := by rw [hb]; exact high_word w s2 s3
  have e1 : stdA.bin .add .i64 i 1 = i + 1 := by
    show stdBin .add .i64 i 1 = _
    simp only [stdBin, IntKind.wrap_i64]; omega
  obtain ⟨g1, g2, g3⟩ := shl_step M i.toNat n.toNat _ w a b m1 (by omega) (by omega) v0 v1 m4 hw' ha' hb'
  have hi1 : (i + 1).toNat = i.toNat + 1 := by omega
  have es : stdA.set (stdA.set M i a) (stdA.bin .add .i64 i 1) b = (M.set i.toNat a).set (i.toNat + 1) b := by rw [e1, ← hi1]; rfl
  rw [es, hi1]
  refine ⟨g1, by simp [m2], ?_, g3, e1, ?_⟩
  · rw [g2, m3]
    have : l.take (i.toNat + 1) = l.take i.toNat ++ [l.getD i.toNat 0] := by
      rw [List.take_add_one]
      congr 1
      rw [List.getD, List.getElem?_eq_getElem (by omega)]; rfl
    rw [this, valL_snoc, List.length_take, Nat.min_eq_left (by omega), Nat.mul_add]
    congr 1
    rw [Nat.mul_comm (l.getD i.toNat 0).toNat, ← Nat.mul_assoc, ← Nat.mul_assoc, Nat.mul_comm (2 ^ (32 * i.toNat))]
  · show ((M.set i.toNat a).length : Int) = _
    simp [m2]

def gShifted (A : Alg) (V : SV) : List CV → List Blk → Option LR
  | [.s (.hs 0), .s (.int .i64 n)], [.vec false (.int .u32) l] => some ⟨[A.cmp .leq 0 n, A.cmp .lss n 32, A.all32 l, A.cmp .leq (A.len l) 64], .c (.s (.hs 1)), [.vec true (.int .u32) (V.shl l n)]⟩
  | _, _ => none

theorem ok_shifted : CallOK Try.prog 55 (heapSem [.s (.int .u32), .v] stdA (gShifted stdA stdV)) := by
  refine callOK_heap (un := ⟨false, none⟩) tok tN7OK mixed (fn := Try.f55) (by kernel_rfl) (by kernel_rfl) (by kernel_rfl) (by decide +kernel) ?_
  intro w Wr args bs r hg ho hWr A L k hA hL hk
  obtain ⟨S, hS⟩ : ∃ S, S = stdW := ⟨_, rfl⟩
  obtain ⟨V, hV⟩ : ∃ V, V = stdV := ⟨_, rfl⟩
  (try rw [← hS])
  (try rw [← hV])
  (try rw [← hA])
  unfold gShifted at hg
  split at hg
  rotate_left
  · cases hg
  simp only [Option.some.injEq] at hg
  subst hg
  rename_i n l
  have n1 : 0 ≤ n := of_decide_eq_true (ho_cons ho).1
  have n2 : n < 32 := of_decide_eq_true (ho_cons (ho_cons ho).2).1
  have hW := W32.all (ho_cons (ho_cons (ho_cons ho).2).2).1
  have hlen : (l.length : Int) ≤ 64 := of_decide_eq_true (ho_cons (ho_cons (ho_cons (ho_cons ho).2).2).2).1
  clear ho
  have eL : A.len l = (l.length : Int) := by subst hA; rfl
  have eL1 : A.bin .add .i64 (A.len l) 1 = (l.length : Int) + 1 := by rw [eL]; subst hA; show stdBin .add .i64 _ _ = _; simp only [stdBin, IntKind.wrap_i64]; omega
  have f1 : A.cmp .leq 0 (A.bin .add .i64 (A.len l) 1) = true := by rw [eL1]; subst hA; simp only [stdA, stdCmp, decide_eq_true_eq]; omega
  have f2 : A.cmp .eql (A.bin .add .i64 (A.len l) 1) (A.bin .add .i64 (A.len l) 1) = true := by subst hA; simp only [stdA, stdCmp, beq_self_eq_true]
  have f3 : A.cmp .leq (A.bin .add .i64 (A.len l) 1) 1000000 = true := by rw [eL1]; subst hA; simp only [stdA, stdCmp, decide_eq_true_eq]; omega
  have e : A.rep ((l.length : Int) + 1) (0 : Int) = List.replicate (l.length + 1) 0 := by subst hA; show List.replicate ((l.length : Int) + 1).toNat 0 = _; congr 1
  have step := fun (i : Int) (M : List Int) (i0 : 0 ≤ i) (i1 : i < (l.length : Int)) (m1 : W32 M) (m2 : M.length = l.length + 1) (m3 : valL M = 2 ^ n.toNat * valL (l.take i.toNat)) (m4 : valL M < 2 ^ (32 * i.toNat + n.toNat)) => shifted_step l M i n n1 n2 hW hlen i0 i1 m1 m2 m3 m4
  have fin : ∀ M : List Int, W32 M → M.length = l.length + 1 → valL M = 2 ^ n.toNat * valL l → M = stdV.shl l n := fun M h1 h2 h3 => by
    show M = digL (2 ^ n.toNat * valL l) (l.length + 1)
    rw [← h3, ← h2, digL_valL h1]
  have init : valL (List.replicate (l.length + 1) 0) = 2 ^ n.toNat * valL (l.take (0 : Int).toNat) ∧ valL (List.replicate (l.length + 1) 0) < 2 ^ (32 * (0 : Int).toNat + n.toNat) := by
    rw [valL_rep0]
    exact ⟨by simp [valL], Nat.two_pow_pos _⟩
  have hl0 : (0 : Int) ≤ (l.length : Int) := Int.natCast_nonneg _
  cbv
  repeat' first | (with_reducible intro hb; cbv) | with_reducible refine And.intro ?_ ?_
  · exact f1
  · exact f2
  · exact f3
  refine hL _ _ _ (loop_rule (un := ⟨false, none⟩) tok tN7OK mixed (fun p : Int × List Int => ⟨[(15, ⟨[], .c (.s (.int .i64 p.1))⟩), (5, ⟨[], .c (.s (.hs 1))⟩), (13, ⟨[], .c (.s (.hs 0))⟩), (14, ⟨[], .c (.s (.int .i64 (stdA.len l)))⟩), (1, ⟨[], .c (.s (.int .i64 n))⟩)], [(1, .vec true (.int .u32) p.2), (0, .vec false (.int .u32) l)], 2⟩)
    (fun p => 0 ≤ p.1 ∧ p.1 ≤ l.length ∧ W32 p.2 ∧ p.2.length = l.length + 1 ∧ valL p.2 = 2 ^ n.toNat * valL (l.take p.1.toNat) ∧ valL p.2 < 2 ^ (32 * p.1.toNat + n.toNat)) (fun p => (l.length - p.1).toNat) (0, A.rep (A.bin .add .i64 (A.len l) 1) 0) ?_ ?_ (fun _ i hi => by have := hWr i hi; simp at this ⊢; omega) ?_)
  · refine ⟨Int.le_refl 0, hl0, ?_, ?_, ?_, ?_⟩
    · rw [eL1, e]; intro v hv; have := List.eq_of_mem_replicate hv; omega
    · rw [eL1, e]; exact List.length_replicate
    · rw [eL1, e]; exact init.1
    · rw [eL1, e]; exact init.2
  · exact ⟨⟨⟨rfl, rfl, fun _ => rfl⟩, ⟨rfl, rfl, fun _ => rfl⟩, ⟨rfl, rfl, fun _ => rfl⟩, ⟨rfl, rfl, leI (by subst hA; rfl)⟩, ⟨rfl, rfl, fun _ => rfl⟩, trivial⟩, ⟨leRefl rfl, leRefl rfl, trivial⟩, rfl, rfl⟩
  rintro ⟨i, M⟩ ⟨i0, i1, m1, m2, m3, m4⟩ A2 L2 k2 hA2 hL2 hnext hexit hret
  simp only at i0 i1 m1 m2 m3 m4
  have hlm : A2.len M = (l.length : Int) + 1 := by subst hA2; show (M.length : Int) = _; rw [m2]; simp
  have o0 : A2.cmp .leq 0 i = true := by subst hA2; exact decide_eq_true i0
  have on : A2.cmp .geq n 0 = true := by subst hA2; exact decide_eq_true n1
  have oi : A2.cmp .lss i (A2.len l) = true → i < (l.length : Int) := fun h => by subst hA2; exact of_decide_eq_true h
  have oe : A2.cmp .lss i (A2.len l) = false → i = (l.length : Int) := fun h => by subst hA2; have : ¬ i < (l.length : Int) := of_decide_eq_false h; omega
  have oM : A2.cmp .lss i (A2.len l) = true → A2.cmp .lss i (A2.len M) = true := fun h => by
    have := oi h
    rw [hlm]; subst hA2; exact decide_eq_true (by omega)
  have st := fun h : A2.cmp .lss i (A2.len l) = true => step i M i0 (oi h) m1 m2 m3 m4 A2 hA2 _ _ _ rfl rfl rfl
  have ol : A2.cmp .lss i (A2.len l) = true → A2.cmp .leq 0 (A2.bin .add .i64 i 1) = true := fun h => by
    rw [(st h).2.2.2.2.1]; subst hA2; exact decide_eq_true (by omega)
  have oM' : ∀ h : A2.cmp .lss i (A2.len l) = true, A2.cmp .lss (A2.bin .add .i64 i 1) (A2.len (A2.set M i (A2.bin .or .u32 (A2.get M i 0) (A2.wrap .u32 (A2.bin .and .u64 (A2.bin .shl .u64 (A2.wrap .u64 (A2.get l i 0)) n) 4294967295))))) = true := fun h => by
    have := oi h
    rw [(st h).2.2.2.2.1, (st h).2.2.2.2.2]; subst hA2; show decide (i + 1 < (l.length : Int) + 1) = true; exact decide_eq_true (by omega)
  have en : A2.cmp .lss i (A2.len l) = true → (l.length - (i + 1)).toNat < (l.length - i).toNat := fun h => by have := oi h; omega
  have e0 : (0 : Int) ≤ i + 1 := by omega
  have e1 : A2.cmp .lss i (A2.len l) = true → i + 1 ≤ (l.length : Int) := fun h => by have := oi h; omega
  have fin' : A2.cmp .lss i (A2.len l) = false → M = stdV.shl l n := fun h => fin M m1 m2 (by rw [m3, oe h, Int.toNat_natCast, List.take_length])
  rw [← hA2, ← hS, ← hV]
  cbv
  repeat' first | (with_reducible intro hb; cbv) | with_reducible refine And.intro ?_ ?_
  all_goals first | exact o0 | exact on | exact hb | exact oM hb | exact ol hb | exact oM' hb | skip
  · obtain ⟨g1, g2, g3, g4, g5, _⟩ := st hb
    refine hnext _ (i + 1, _) ⟨e0, e1 hb, g1, g2, g3, g4⟩ (en hb) ⟨⟨⟨rfl, rfl, leI g5⟩, ⟨rfl, rfl, fun _ => rfl⟩, ⟨rfl, rfl, fun _ => rfl⟩, ⟨rfl, rfl, leI (by subst hA2; rfl)⟩, ⟨rfl, rfl, fun _ => rfl⟩, trivial⟩, ⟨leV rfl, leRefl rfl, trivial⟩, rfl, rfl⟩
  · apply hexit
    have hM := fin' hb
    clear hexit hnext hret st oM' ol oM
    cbv
    repeat' first | (with_reducible intro hb; cbv) | with_reducible refine And.intro ?_ ?_
    refine hk _ _ (Good.one (t := 1) rfl (by simp) (fun ρ => rfl) rfl (leV ?_))
    subst hV
    exact hM

def tN8 (A : Alg) (S : SW) (V : SV) : List (Nat × Sem') := (55, heapSem [.s (.int .u32), .v] A (gShifted A V)) :: ((tN7 A S V))
theorem tN8OK : COK Try.prog (look (tN8 stdA stdW stdV)) := COK_cons ok_shifted (tN7OK)
end Go.Eng
