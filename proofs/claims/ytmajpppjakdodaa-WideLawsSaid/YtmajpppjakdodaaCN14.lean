/- Contracts: a row of bytes turned about. -/
import Derived.Test.YtmajpppjakdodaaCN13
namespace Go.Eng
open Go.Proofs
set_option maxRecDepth 100000
set_option linter.all false
set_option exponentiation.threshold 3000

/-- the outer parts have been turned about -/
def RvI (l : List Int) (i j : Int) (M : List Int) : Prop := 0 ≤ i ∧ 2 * i ≤ l.length ∧ j = (l.length : Int) - 1 - i ∧ M.length = l.length ∧
  ∀ k : Nat, k < l.length → M[k]? = if (k : Int) < i ∨ j < k then l.reverse[k]? else l[k]?

theorem RvI.init (l : List Int) : RvI l 0 ((l.length : Int) - 1) l := by
  refine ⟨Int.le_refl 0, by omega, by omega, rfl, fun k hk => ?_⟩
  rw [if_neg (by omega)]

structure RvStep (A : Alg) (l : List Int) (lo hi i j : Int) (M : List Int) : Prop where
  o1 : A.cmp .leq 0 lo = true
  o2 : A.cmp .leq hi (A.len M) = true
  o3 : A.cmp .leq 0 i = true
  o4 : A.cmp .leq 0 j = true
  o5 : A.cmp .lss (A.iadd lo i) hi = true
  o6 : A.cmp .lss (A.iadd lo j) hi = true
  o7 : A.cmp .leq 0 (A.iadd lo i) = true
  o8 : A.cmp .leq 0 (A.iadd lo j) = true
  o9 : A.cmp .lss (A.iadd lo i) (A.len M) = true
  o10 : A.cmp .lss (A.iadd lo j) (A.len M) = true
  o11 : A.cmp .leq hi (A.len (A.set M (A.iadd lo i) (A.get M (A.iadd lo j) 0))) = true
  o12 : A.cmp .lss (A.iadd lo j) (A.len (A.set M (A.iadd lo i) (A.get M (A.iadd lo j) 0))) = true
  nx : RvI l (i + 1) (j - 1) (A.set (A.set M (A.iadd lo i) (A.get M (A.iadd lo j) 0)) (A.iadd lo j) (A.get M (A.iadd lo i) 0))
  ad : A.bin .add .i64 i 1 = i + 1
  sb : A.bin .sub .i64 j 1 = j - 1
  ms : ((l.length : Int) - (i + 1)).toNat < ((l.length : Int) - i).toNat

theorem rv_step {l : List Int} {lo hi i j : Int} {M : List Int} (hI : RvI l i j M) (A : Alg) (hA : A = stdA) (hlo : lo = 0) (hhi : hi = l.length) (hlen : (l.length : Int) < 1000000) (hb : A.cmp .lss i j = true) : RvStep A l lo hi i j M := by
  subst hA hlo hhi
  have hb : i < j := of_decide_eq_true hb
  obtain ⟨i0, i1, hj, hM, hk⟩ := hI
  have leq : ∀ z w : Int, z ≤ w → stdA.cmp .leq z w = true := fun z w h => decide_eq_true h
  have lss : ∀ z w : Int, z < w → stdA.cmp .lss z w = true := fun z w h => decide_eq_true h
  have hml : stdA.len M = (l.length : Int) := by show (M.length : Int) = _; rw [hM]
  have hml2 : ∀ x, stdA.len (stdA.set M (stdA.iadd 0 i) x) = (l.length : Int) := fun x => by show ((M.set _ x).length : Int) = _; rw [List.length_set, hM]
  have ei : stdA.iadd 0 i = i := Int.zero_add i
  have ej : stdA.iadd 0 j = j := Int.zero_add j
  exact {
    o1 := leq _ _ (Int.le_refl 0)
    o2 := by rw [hml]; exact leq _ _ (Int.le_refl _)
    o3 := leq _ _ i0
    o4 := leq _ _ (by omega)
    o5 := by rw [ei]; exact lss _ _ (by omega)
    o6 := by rw [ej]; exact lss _ _ (by omega)
    o7 := by rw [ei]; exact leq _ _ i0
    o8 := by rw [ej]; exact leq _ _ (by omega)
    o9 := by rw [hml, ei]; exact lss _ _ (by omega)
    o10 := by rw [hml, ej]; exact lss _ _ (by omega)
    o11 := by rw [hml2]; exact leq _ _ (Int.le_refl _)
    o12 := by rw [hml2, ej]; exact lss _ _ (by omega)
    nx := by
      rw [ei, ej]
      show RvI l (i + 1) (j - 1) ((M.set i.toNat ((M[j.toNat]?).getD 0)).set j.toNat ((M[i.toNat]?).getD 0))
      refine ⟨by omega, by omega, by omega, by rw [List.length_set, List.length_set, hM], fun k hkl => ?_⟩
      have hmi : M[i.toNat]? = l[i.toNat]? := by rw [hk i.toNat (by omega), if_neg (by omega)]
      have hmj : M[j.toNat]? = l[j.toNat]? := by rw [hk j.toNat (by omega), if_neg (by omega)]
      have hri : l.reverse[i.toNat]? = l[j.toNat]? := by rw [List.getElem?_reverse (by omega)]; congr 1; omega
      have hrj : l.reverse[j.toNat]? = l[i.toNat]? := by rw [List.getElem?_reverse (by omega)]; congr 1; omega
      by_cases h1 : k = j.toNat
      · subst h1
        rw [List.getElem?_set_self (by rw [List.length_set, hM]; omega), if_pos (by omega), hrj, hmi, List.getElem?_eq_getElem (by omega)]; rfl
      · rw [List.getElem?_set_ne (by omega)]
        by_cases h2 : k = i.toNat
        · subst h2
          rw [List.getElem?_set_self (by omega), if_pos (by omega), hri, hmj, List.getElem?_eq_getElem (by omega)]; rfl
        · rw [List.getElem?_set_ne (by omega), hk k hkl]
          by_cases h3 : (k : Int) < i ∨ j < k
          · rw [if_pos h3, if_pos (by omega)]
          · rw [if_neg h3, if_neg (by omega)]
    ad := by show stdBin .add .i64 i 1 = i + 1; simp only [stdBin, IntKind.wrap_i64]; omega
    sb := by show stdBin .sub .i64 j 1 = j - 1; simp only [stdBin, IntKind.wrap_i64]; omega
    ms := by omega }

theorem rv_end {l : List Int} {i j : Int} {M : List Int} (hI : RvI l i j M) (A : Alg) (hA : A = stdA) (hb : A.cmp .lss i j = false) : M = l.reverse := by
  subst hA
  have hb : ¬ i < j := of_decide_eq_false hb
  obtain ⟨i0, i1, hj, hM, hk⟩ := hI
  apply List.ext_getElem?
  intro k
  rcases Nat.lt_or_ge k l.length with h | h
  · rw [hk k h]
    split
    · rfl
    · rw [List.getElem?_reverse h]; congr 1; omega
  · rw [List.getElem?_eq_none (by omega), List.getElem?_eq_none (by rw [List.length_reverse]; omega)]

def gRev (A : Alg) (T : ST) : List CV → List Blk → Option LW
  | [.s (.hw 0 1 lo hi)], [.vec true (.int .u8) l] => some ⟨[A.cmp .eql lo 0, A.cmp .eql hi (A.len l), A.cmp .lss (A.len l) 1000000], .t [], [], [.vec true (.int .u8) (T.rev l)]⟩
  | _, _ => none

theorem ok_rev : CallOK Try.prog 63 (heapSemW [.sw (.int .u8)] stdA (gRev stdA stdT)) := by
  refine callOK_heapW (un := ⟨false, none⟩) tok tN17OK mixed (fn := Try.f63) (by kernel_rfl) (by kernel_rfl) (by kernel_rfl) (by decide +kernel) ?_
  intro w Wr args bs r hg ho hWr A L k hA hL hk
  obtain ⟨S, hS⟩ : ∃ S, S = stdW := ⟨_, rfl⟩
  obtain ⟨T, hT⟩ : ∃ T, T = stdT := ⟨_, rfl⟩
  obtain ⟨V, hV⟩ : ∃ V, V = stdV := ⟨_, rfl⟩
  (try rw [← hS])
  (try rw [← hT])
  (try rw [← hV])
  (try rw [← hA])
  unfold gRev at hg
  split at hg
  rotate_left
  · cases hg
  simp only [Option.some.injEq] at hg
  subst hg
  rename_i lo hi l
  have hlo := (ho_cons ho).1
  have hhi := (ho_cons (ho_cons ho).2).1
  have hlen := (ho_cons (ho_cons (ho_cons ho).2).2).1
  clear ho
  simp only [stdA, stdCmp, beq_iff_eq, decide_eq_true_eq] at hlo hhi hlen
  have o1 : A.cmp .leq 0 lo = true := leq_of A hA _ _ (by omega)
  have o2 : A.cmp .leq lo hi = true := leq_of A hA _ _ (by omega)
  have ej : A.bin .sub .i64 (A.isub hi lo) 1 = (l.length : Int) - 1 := by subst hA; show stdBin .sub .i64 (hi - lo) 1 = _; simp only [stdBin, IntKind.wrap_i64]; omega
  have init := RvI.init l
  rw [← ej] at init
  clear ej
  cbv
  repeat' first | (with_reducible intro hb; cbv) | with_reducible refine And.intro ?_ ?_
  · exact o1
  · exact o2
  refine hL _ _ _ (loop_rule (un := ⟨false, some [0, 2, 3, 9]⟩) tok tN17OK mixed (fun p : Int × Int × List Int => ⟨[(2, ⟨[], .c (.s (.int .i64 p.1))⟩), (3, ⟨[], .c (.s (.int .i64 p.2.1))⟩), (0, ⟨[], .c (.s (.hw 0 1 lo hi))⟩)], [(0, .vec true (.int .u8) p.2.2)], 1⟩)
    (fun p => RvI l p.1 p.2.1 p.2.2) (fun p => ((l.length : Int) - p.1).toNat) (0, _, l) init ?_ (fun _ i hi => by have := hWr i hi; simp at this ⊢; omega) ?_)
  · exact ⟨⟨⟨rfl, rfl, fun _ => rfl⟩, ⟨rfl, rfl, fun _ => rfl⟩, ⟨rfl, rfl, fun _ => rfl⟩, trivial⟩, ⟨leRefl rfl, trivial⟩, rfl, rfl⟩
  clear init
  rintro ⟨i, j, M⟩ hI A2 L2 k2 hA2 hL2 hnext hexit hret
  have st := fun hb : A2.cmp .lss i j = true => rv_step hI A2 hA2 hlo hhi hlen hb
  have en := fun hb : A2.cmp .lss i j = false => rv_end hI A2 hA2 hb
  clear hI
  rw [← hA2, ← hS, ← hV]
  cbv
  repeat' first | (with_reducible intro hb; cbv) | with_reducible refine And.intro ?_ ?_
  all_goals first | replace st := st hb | skip
  all_goals first | exact st.o1 | exact st.o2 | exact st.o3 | exact st.o4 | exact st.o5 | exact st.o6 | exact st.o7 | exact st.o8 | exact st.o9 | exact st.o10 | exact st.o11 | exact st.o12 | skip
  · exact hnext _ (i + 1, j - 1, _) st.nx st.ms ⟨⟨⟨rfl, rfl, leI st.ad⟩, ⟨rfl, rfl, leI st.sb⟩, ⟨rfl, rfl, fun _ => rfl⟩, trivial⟩, ⟨leV rfl, trivial⟩, rfl, rfl⟩
  · have hz := en hb
    apply hexit
    clear hexit hnext hret st en
    cbv
    refine hk _ _ (GoodW.one (t := 0) rfl (fun ρ => rfl) rfl rfl rfl (leV ?_))
    subst hT
    exact hz

def tN18 (A : Alg) (S : SW) (V : SV) (T : ST) : List (Nat × Sem') := (63, heapSemW [.sw (.int .u8)] A (gRev A T)) :: ((tN17 A S V T))
theorem tN18OK : COK Try.prog (look (tN18 stdA stdW stdV stdT)) := COK_cons ok_rev (tN17OK)
end Go.Eng
