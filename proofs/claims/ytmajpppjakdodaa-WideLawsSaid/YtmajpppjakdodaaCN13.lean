/- Contracts: whole numbers, Sum. -/
import Derived.Test.YtmajpppjakdodaaCN12
import Derived.Test.YtmajpppjakdodaaSpecNA
namespace Go.Eng
open Go.Proofs
set_option maxRecDepth 100000
set_option linter.all false
set_option exponentiation.threshold 3000

def gSum (A : Alg) (T : ST) : List CV → List Blk → Option LR
  | [.s (.hs 0)], [.vec false .wd l] => some ⟨[A.cmp .lss (A.len l) 1000000], .t [.g [.W (T.sum l)], .s (.bool (T.sumOK l))], []⟩
  | _, _ => none

def SmI (l : List Wd) (k : Int) (a : Wd) : Prop := 0 ≤ k ∧ k ≤ l.length ∧ sumL ⟨false, Dg.zero⟩ l = sumL a (l.drop k.toNat)

structure SmStep (A : Alg) (V : SV) (l : List Wd) (k : Int) (a w : Wd) : Prop where
  o1 : A.cmp .leq 0 k = true
  nz : A.not (V.addOK a w) = true → stdT.sum l = ⟨false, Dg.zero⟩ ∧ stdT.sumOK l = false
  nx : A.not (V.addOK a w) = false → SmI l (k + 1) (V.add a w)
  ad : l.length < 1000000 → A.bin .add .i64 k 1 = k + 1
  ms : ((l.length : Int) - (k + 1)).toNat < ((l.length : Int) - k).toNat

theorem sm_step {l : List Wd} {k : Int} {a : Wd} (hI : SmI l k a) (A : Alg) (hA : A = stdA) (V : SV) (hV : V = stdV) (hb : A.cmp .lss k (A.len l) = true) (w : Wd) (hw : w = A.get l k ⟨false, A.zD⟩) : SmStep A V l k a w := by
  subst hA hV
  have hb : k < (l.length : Int) := of_decide_eq_true hb
  obtain ⟨k0, k1, h⟩ := hI
  have hw' : l.drop k.toNat = w :: l.drop (k + 1).toNat := by
    have hlt : k.toNat < l.length := by omega
    rw [show (k + 1).toNat = k.toNat + 1 by omega, List.drop_eq_getElem_cons hlt, hw]
    congr 1
    show _ = (l[k.toNat]?).getD _
    rw [List.getElem?_eq_getElem hlt]; rfl
  rw [hw'] at h
  exact {
    o1 := decide_eq_true k0
    nz := fun h' => by
      have h' : (!stdV.addOK a w) = true := h'
      rw [Bool.not_eq_true'] at h'
      rw [sumL_cons _ _ _ _ h'] at h
      exact sum_of h
    nx := fun h' => by
      have h' : (!stdV.addOK a w) = false := h'
      rw [Bool.not_eq_false'] at h'
      rw [sumL_cons _ _ _ _ h'] at h
      exact ⟨by omega, by omega, h⟩
    ad := fun hl => by show stdBin .add .i64 k 1 = k + 1; simp only [stdBin, IntKind.wrap_i64]; omega
    ms := by omega }

theorem sm_end {l : List Wd} {k : Int} {a : Wd} (hI : SmI l k a) (A : Alg) (hA : A = stdA) (hb : A.cmp .lss k (A.len l) = false) : stdT.sum l = a ∧ stdT.sumOK l = true := by
  subst hA
  have hb : ¬ k < (l.length : Int) := of_decide_eq_false hb
  obtain ⟨k0, k1, h⟩ := hI
  rw [List.drop_eq_nil_of_le (by omega)] at h
  exact sum_of h

theorem ok_wsum : CallOK Try.prog 51 (heapSem [.s .wd] stdA (gSum stdA stdT)) := by
  refine callOK_heap (un := ⟨false, some [0,2,3,4,9,10,11]⟩) tok tN16OK mixed (fn := Try.f51) (by kernel_rfl) (by kernel_rfl) (by kernel_rfl) (by decide +kernel) ?_
  intro w Wr args bs r hg ho hWr A L k hA hL hk
  obtain ⟨S, hS⟩ : ∃ S, S = stdW := ⟨_, rfl⟩
  obtain ⟨T, hT⟩ : ∃ T, T = stdT := ⟨_, rfl⟩
  obtain ⟨V, hV⟩ : ∃ V, V = stdV := ⟨_, rfl⟩
  (try rw [← hS])
  (try rw [← hT])
  (try rw [← hV])
  (try rw [← hA])
  unfold gSum at hg
  split at hg
  rotate_left
  · cases hg
  simp only [Option.some.injEq] at hg
  subst hg
  rename_i l
  have hlen := (ho_cons ho).1
  clear ho
  simp only [stdA, stdCmp, decide_eq_true_eq] at hlen
  have hlen : l.length < 1000000 := by omega
  have i0 : SmI l 0 ⟨false, Dg.zero⟩ := ⟨Int.le_refl 0, Int.natCast_nonneg _, by rw [show (0 : Int).toNat = 0 from rfl, List.drop_zero]⟩
  cbv
  refine hL _ _ _ (loop_rule (un := ⟨false, some [2, 3, 4, 9, 10, 11, 12, 6, 7, 8, 22]⟩) tok tN16OK mixed (fun p : Int × Wd => ⟨[(11, ⟨[], .c (.s (.int .i64 p.1))⟩), (10, ⟨[], .c (.s (.int .i64 (stdA.len l)))⟩), (9, ⟨[], .c (.s (.hs 0))⟩), (2, ⟨[], .c (.s (.hp 1 0))⟩), (4, ⟨[], .c (.s (.hp 2 0))⟩)], [(0, .vec false .wd l), (1, .fix true [.W ⟨false, Dg.zero⟩]), (2, .fix true [.W p.2])], 3⟩)
    (fun p => SmI l p.1 p.2) (fun p => ((l.length : Int) - p.1).toNat) (0, ⟨false, Dg.zero⟩) i0 ?_ (fun _ i hi => by have := hWr i hi; simp at this ⊢; omega) ?_)
  · subst hA
    exact ⟨⟨⟨rfl, rfl, fun _ => rfl⟩, ⟨rfl, rfl, fun _ => rfl⟩, ⟨rfl, rfl, fun _ => rfl⟩, ⟨rfl, rfl, fun _ => rfl⟩, ⟨rfl, rfl, fun _ => rfl⟩, trivial⟩, ⟨leRefl rfl, leRefl rfl, leRefl rfl, trivial⟩, rfl, rfl⟩
  rintro ⟨k, a⟩ hI A2 L2 k2 hA2 hL2 hnext hexit hret
  have st := fun hb : A2.cmp .lss k (A2.len l) = true => sm_step hI A2 hA2 V hV hb _ rfl
  have en := fun hb : A2.cmp .lss k (A2.len l) = false => sm_end hI A2 hA2 hb
  clear hI
  rw [← hA2, ← hS, ← hV]
  cbv
  repeat' first | (with_reducible intro hb; cbv) | with_reducible refine And.intro ?_ ?_
  all_goals first | exact (st hb).o1 | exact hb | skip
  · rename_i hb0
    have hz := (st hb0).nz hb
    apply hret
    clear hexit hnext hret st en
    cbv
    refine hk _ _ (Good.pure rfl fun ρ => ?_)
    subst hT
    exact tupWt hz.1.symm hz.2.symm
  · rename_i hb0
    refine hnext _ (k + 1, _) ((st hb0).nx hb) (st hb0).ms ?_
    have ead := (st hb0).ad hlen
    subst hA2
    exact ⟨⟨⟨rfl, rfl, leI ead⟩, ⟨rfl, rfl, fun _ => rfl⟩, ⟨rfl, rfl, fun _ => rfl⟩, ⟨rfl, rfl, fun _ => rfl⟩, ⟨rfl, rfl, fun _ => rfl⟩, trivial⟩, ⟨leRefl rfl, leRefl rfl, leRefl rfl, trivial⟩, rfl, rfl⟩
  · have hz := en hb
    apply hexit
    clear hexit hnext hret st en
    cbv
    refine hk _ _ (Good.pure rfl fun ρ => ?_)
    subst hT
    exact tupWt hz.1.symm hz.2.symm

def tN17 (A : Alg) (S : SW) (V : SV) (T : ST) : List (Nat × Sem') := (51, heapSem [.s .wd] A (gSum A T)) :: ((tN16 A S V))
theorem tN17OK : COK Try.prog (look (tN17 stdA stdW stdV stdT)) := COK_cons ok_wsum (tN16OK)
end Go.Eng
