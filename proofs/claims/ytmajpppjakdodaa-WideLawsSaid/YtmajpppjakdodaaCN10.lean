/- Contracts: whole numbers, Shl. -/
import Derived.Test.YtmajpppjakdodaaCN11
import Derived.Test.YtmajpppjakdodaaSpecNA
namespace Go.Eng
open Go.Proofs
set_option maxRecDepth 100000
set_option linter.all false
set_option exponentiation.threshold 3000

def gShl (V : SV) : List CV → List Blk → Option LR
  | [.g [.W x], .s (.int .i64 n)], [] => some ⟨[], .t [.g [.W (V.shift x n)], .s (.bool (V.shiftOK x n))], []⟩
  | _, _ => none

structure ShlOK (A : Alg) (V : SV) (S : SW) (x : Wd) (n c s l : Int) : Prop where
  o0 : A.cmp .leq 0 0 = true
  o1 : A.cmp .leq 0 (S.size x.d) = true
  o2 : A.cmp .leq (S.size x.d) 32 = true
  o3 : A.cmp .leq 0 s = true
  o4 : A.cmp .lss s 32 = true
  o5 : A.all32 (A.digs x.d 0 (S.size x.d)) = true
  o6 : A.cmp .leq (A.len (A.digs x.d 0 (S.size x.d))) 64 = true
  o7 : A.cmp .leq 0 l = true
  o8 : A.cmp .leq l 32 = true
  o9 : A.cmp .leq 32 32 = true
  o10 : A.all32 (V.shl (A.digs x.d 0 (S.size x.d)) s) = true
  z : A.cmp .eql (S.bits x) 0 = true → V.shift x n = ⟨false, Dg.zero⟩ ∧ V.shiftOK x n = true
  ov : A.cmp .eql (S.bits x) 0 = false → A.cmp .gtr (A.bin .add .i64 (S.bits x) c) 1024 = true → V.shift x n = ⟨false, Dg.zero⟩ ∧ V.shiftOK x n = false
  fi : A.cmp .eql (S.bits x) 0 = false → A.cmp .gtr (A.bin .add .i64 (S.bits x) c) 1024 = false → V.shift x n = S.told (S.below x) (A.copyD Dg.zero l 32 (V.shl (A.digs x.d 0 (S.size x.d)) s)) ∧ V.shiftOK x n = true

theorem shl_ok (x : Wd) (n : Int) (A : Alg) (hA : A = stdA) (V : SV) (hV : V = stdV) (S : SW) (hS : S = stdW) (c s l : Int) (hc : c = A.mn (A.mx n 0) 1024) (hs : s = A.bin .rem .i64 c 32) (hl : l = A.bin .quo .i64 c 32) : ShlOK A V S x n c s l := by
  subst hA hV hS
  have hc' : c = ((clampZ n : Nat) : Int) := by
    rw [hc]
    show (if 1024 < (if n < 0 then 0 else n) then 1024 else (if n < 0 then 0 else n)) = ((min n.toNat 1024 : Nat) : Int)
    split <;> split <;> omega
  have hcl : clampZ n ≤ 1024 := Nat.min_le_right _ _
  have hs' : s = ((clampZ n % 32 : Nat) : Int) := by
    rw [hs, hc']
    show ((clampZ n : Nat) : Int).tmod 32 = _
    rw [Int.tmod_eq_emod_of_nonneg (Int.natCast_nonneg _)]; rfl
  have hl' : l = ((clampZ n / 32 : Nat) : Int) := by
    rw [hl, hc']
    show IntKind.i64.wrap (((clampZ n : Nat) : Int).tdiv 32) = _
    rw [Int.tdiv_eq_ediv_of_nonneg (Int.natCast_nonneg _), IntKind.wrap_i64]
    omega
  clear hs hl
  have h32 : dSize x.d ≤ 32 := (dSize_le x.d 32).2 x.d.lt
  have hd : x.d.n < 2 ^ (32 * dSize x.d) := (dSize_le x.d (dSize x.d)).1 (Nat.le_refl _)
  have hst : s.toNat = clampZ n % 32 := by omega
  obtain ⟨e1, e2⟩ := shl_digs x.d (dSize x.d) s hd (by omega)
  have esz : stdW.size x.d = ((dSize x.d : Nat) : Int) := rfl
  have hb0 : ∀ b, stdA.cmp .eql (stdW.bits x) 0 = b → decide (x.d.n = 0) = b := fun b h => by rw [← lenOf_zero]; exact h
  have hadd : stdA.bin .add .i64 (stdW.bits x) c = ((lenOf x.d.n + clampZ n : Nat) : Int) := by
    have : lenOf x.d.n ≤ 1024 := by
      unfold lenOf; split
      · omega
      · rename_i h0; have := (Nat.log2_lt h0).2 x.d.lt; omega
    rw [hc']
    show IntKind.i64.wrap (((lenOf x.d.n : Nat) : Int) + ((clampZ n : Nat) : Int)) = _
    rw [IntKind.wrap_i64]; omega
  have ez : ∀ z : Int, 0 ≤ z → stdA.cmp .leq 0 z = true := fun z h => decide_eq_true h
  have ez2 : ∀ z w : Int, z ≤ w → stdA.cmp .leq z w = true := fun z w h => decide_eq_true h
  exact {
    o0 := rfl
    o1 := ez _ (by rw [esz]; omega)
    o2 := ez2 _ _ (by rw [esz]; omega)
    o3 := ez _ (by omega)
    o4 := decide_eq_true (show s < 32 by omega)
    o5 := by rw [esz, digs_zero]; exact (digL_W32 _ _).all'
    o6 := ez2 _ _ (by rw [esz, digs_zero]; show ((digL _ _).length : Int) ≤ 64; rw [digL_length]; omega)
    o7 := ez _ (by omega)
    o8 := ez2 _ _ (by omega)
    o9 := rfl
    o10 := by rw [esz, e1]; exact (digL_W32 _ _).all'
    z := fun h => shl_zero x n (of_decide_eq_true (hb0 _ h))
    ov := fun h h' => by
      rw [hadd] at h'
      have h' : ((lenOf x.d.n + clampZ n : Nat) : Int) > 1024 := of_decide_eq_true h'
      exact shl_over x n (of_decide_eq_false (hb0 _ h)) (by omega)
    fi := fun h h' => by
      rw [hadd] at h'
      have h' : ¬ ((lenOf x.d.n + clampZ n : Nat) : Int) > 1024 := of_decide_eq_false h'
      have h0 : x.d.n ≠ 0 := of_decide_eq_false (hb0 _ h)
      obtain ⟨l1, l2, l3⟩ := lenOf_spec _ h0
      have hfit : x.d.n * 2 ^ clampZ n < 2 ^ 1024 := by
        have h1 := Nat.mul_lt_mul_of_pos_right l3 (Nat.two_pow_pos (clampZ n))
        rw [← Nat.pow_add] at h1
        exact Nat.lt_of_lt_of_le h1 (Nat.pow_le_pow_right (by decide) (by omega))
      obtain ⟨g1, g2⟩ := shl_lay x.d (clampZ n) hfit hcl
      refine shl_fit x n hfit _ ?_
      rw [esz, e1, hst]
      show (copyFrom Dg.zero l.toNat (32 : Int).toNat _).n = _
      rw [show l.toNat = clampZ n / 32 by omega]
      exact g1 }

theorem ok_wshl : CallOK Try.prog 16 (heapSem [.v, .v] stdA (gShl stdV)) := by
  refine callOK_heap (un := ⟨false, some [1,2,4,5,6,7,8,14,20]⟩) tok tN14OK mixed (fn := Try.f16) (by kernel_rfl) (by kernel_rfl) (by kernel_rfl) (by decide +kernel) ?_
  intro w Wr args bs r hg ho hWr A L k hA hL hk
  obtain ⟨S, hS⟩ : ∃ S, S = stdW := ⟨_, rfl⟩
  obtain ⟨V, hV⟩ : ∃ V, V = stdV := ⟨_, rfl⟩
  (try rw [← hS])
  (try rw [← hV])
  (try rw [← hA])
  unfold gShl at hg
  split at hg
  rotate_left
  · cases hg
  simp only [Option.some.injEq] at hg
  subst hg
  rename_i x n
  have st := shl_ok x n A hA V hV S hS _ _ _ rfl rfl rfl
  cbv
  repeat' first | (with_reducible intro hb; cbv) | with_reducible refine And.intro ?_ ?_
  all_goals first | exact st.o0 | exact st.o1 | exact st.o2 | exact st.o3 | exact st.o4 | exact st.o5 | exact st.o6 | exact st.o7 | exact st.o8 | exact st.o9 | exact st.o10 | skip
  · have := st.z hb
    refine hk _ _ (Good.pure rfl fun ρ => ?_)
    subst hV
    exact tupWt this.1.symm this.2.symm
  · rename_i hb0
    have := st.ov hb0 hb
    refine hk _ _ (Good.pure rfl fun ρ => ?_)
    subst hV
    exact tupWt this.1.symm this.2.symm
  · rename_i hb0
    have := st.fi hb0 hb
    refine hk _ _ (Good.pure rfl fun ρ => ?_)
    subst hV
    exact tupWt this.1.symm this.2.symm

def tN15 (A : Alg) (S : SW) (V : SV) : List (Nat × Sem') := (16, heapSem [.v, .v] A (gShl V)) :: ((tN14 A S V))
theorem tN15OK : COK Try.prog (look (tN15 stdA stdW stdV)) := COK_cons ok_wshl (tN14OK)
end Go.Eng
