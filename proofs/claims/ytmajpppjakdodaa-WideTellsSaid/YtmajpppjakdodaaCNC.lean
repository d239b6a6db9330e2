/- Plain facts. -/
import Derived.Test.YtmajpppjakdodaaCNB
import Derived.Test.YtmajpppjakdodaaSpecNA
set_option linter.all false
set_option exponentiation.threshold 3000
/- Contracts: whole numbers, Sum. -/
namespace Go.Eng
open Go.Proofs
set_option maxRecDepth 100000
set_option linter.all false
set_option exponentiation.threshold 3000

def gSum (A : Alg) (T : ST) : List CV → List Blk → Option LR
  | [.s (.hs 0)], [.vec false .wd l] => some ⟨[A.cmp .lss (A.len l) 1000000], .t [.g [.W (T.sum l)], .s (.bool (T.sumOK l))], []⟩
  | _, _ => none

def SmI (l : List Wd) (k : Int) (a : Wd) : Prop := 0 ≤ k ∧ k ≤ l.length ∧ sumL ⟨false, Dg.zero⟩ l = sumL a (l.drop k.toNat)

structure SmStep (A : Alg) (V : SV) (l : List Wd) (k : Int) (a w : Wd) : Prop where
  o1 : A.cmp .leq 0 k = true
  nz : A.not (V.addOK a w) = true → stdT.sum l = ⟨false, Dg.zero⟩ ∧ stdT.sumOK l = false
  nx : A.not (V.addOK a w) = false → SmI l (k + 1) (V.add a w)
  ad : l.length < 1000000 → A.bin .add .i64 k 1 = k + 1
  ms : ((l.length : Int) - (k + 1)).toNat < ((l.length : Int) - k).toNat

theorem sm_step {l : List Wd} {k : Int} {a : Wd} (hI : SmI l k a) (A : Alg) (hA : A = stdA) (V : SV) (hV : V = stdV) (hb : A.cmp .lss k (A.len l) = true) (w : Wd) (hw : w = A.get l k ⟨false, A.zD⟩) : SmStep A V l k a w := by
  subst hA hV
  have hb : k < (l.length : Int) := of_decide_eq_true hb
  obtain ⟨k0, k1, h⟩ := hI
  have hw' : l.drop k.toNat = w :: l.drop (k + 1).toNat := by
    have hlt : k.toNat < l.length := by omega
    rw [show (k + 1).toNat = k.toNat + 1 by omega, List.drop_eq_getElem_cons hlt, hw]
    congr 1
    show _ = (l[k.toNat]?).getD _
    rw [List.getElem?_eq_getElem hlt]; rfl
  rw [hw'] at h
  exact {
    o1 := decide_eq_true k0
    nz := fun h' => by
      have h' : (!stdV.addOK a w) = true := h'
      rw [Bool.not_eq_true'] at h'
      rw [sumL_cons _ _ _ _ h'] at h
      exact sum_of h
    nx := fun h' => by
      have h' : (!stdV.addOK a w) = false := h'
      rw [Bool.not_eq_false'] at h'
      rw [sumL_cons _ _ _ _ h'] at h
      exact ⟨by omega, by omega, h⟩
    ad := fun hl => by show stdBin .add .i64 k 1 = k + 1; simp only [stdBin, IntKind.wrap_i64]; omega
    ms := by omega }

theorem sm_end {l : List Wd} {k : Int} {a : Wd} (hI : SmI l k a) (A : Alg) (hA : A = stdA) (hb : A.cmp .lss k (A.len l) = false) : stdT.sum l = a ∧ stdT.sumOK l = true := by
  subst hA
  have hb : ¬ k < (l.length : Int) := of_decide_eq_false hb
  obtain ⟨k0, k1, h⟩ := hI
  rw [List.drop_eq_nil_of_le (by omega)] at h
  exact sum_of h

theorem ok_wsum : CallOK Try.prog 51 (heapSem [.s .wd] stdA (gSum stdA stdT)) := by
  refine callOK_heap (un := ⟨false, some [0,2,3,4,9,10,11]⟩) tok tN16OK mixed (fn := Try.f51) (by kernel_rfl) (by kernel_rfl) (by kernel_rfl) (by decide +kernel) ?_
  intro w Wr args bs r hg ho hWr A L k hA hL hk
  obtain ⟨S, hS⟩ : ∃ S, S = stdW := ⟨_, rfl⟩
  obtain ⟨T, hT⟩ : ∃ T, T = stdT := ⟨_, rfl⟩
  obtain ⟨V, hV⟩ : ∃ V, V = stdV := ⟨_, rfl⟩
  (try rw [← hS])
  (try rw [← hT])
  (try rw [← hV])
  (try rw [← hA])
  unfold gSum at hg
  split at hg
  rotate_left
  · cases hg
  simp only [Option.some.injEq] at hg
  subst hg
  rename_i l
  have hlen := (ho_cons ho).1
  clear ho
  simp only [stdA, stdCmp, decide_eq_true_eq] at hlen
  have hlen : l.length < 1000000 := by omega
  have i0 : SmI l 0 ⟨false, Dg.zero⟩ := ⟨Int.le_refl 0, Int.natCast_nonneg _, by rw [show (0 : Int).toNat = 0 from rfl, List.drop_zero]⟩
  cbv
  refine hL _ _ _ (loop_rule (un := ⟨false, some [2, 3, 4, 9, 10, 11, 12, 6, 7, 8, 22]⟩) tok tN16OK mixed (fun p : Int × Wd => ⟨[(11, ⟨[], .c (.s (.int .i64 p.1))⟩), (10, ⟨[], .c (.s (.int .i64 (stdA.len l)))⟩), (9, ⟨[], .c (.s (.hs 0))⟩), (2, ⟨[], .c (.s (.hp 1 0))⟩), (4, ⟨[], .c (.s (.hp 2 0))⟩)], [(0, .vec false .wd l), (1, .fix true [.W ⟨false, Dg.zero⟩]), (2, .fix true [.W p.2])], 3⟩)
    (fun p => SmI l p.1 p.2) (fun p => ((l.length : Int) - p.1).toNat) (0, ⟨false, Dg.zero⟩) i0 ?_ (fun _ i hi => by have := hWr i hi; simp at this ⊢; omega) ?_)
  · subst hA
    exact ⟨⟨⟨rfl, rfl, fun _ => rfl⟩, ⟨rfl, rfl, fun _ => rfl⟩, ⟨rfl, rfl, fun _ => rfl⟩, ⟨rfl, rfl, fun _ => rfl⟩, ⟨rfl, rfl, fun _ => rfl⟩, trivial⟩, ⟨leRefl rfl, leRefl rfl, leRefl rfl, trivial⟩, rfl, rfl⟩
  rintro ⟨k, a⟩ hI A2 L2 k2 hA2 hL2 hnext hexit hret
  have st := fun hb : A2.cmp .lss k (A2.len l) = true => sm_step hI A2 hA2 V hV hb _ rfl
  have en := fun hb : A2.cmp .lss k (A2.len l) = false => sm_end hI A2 hA2 hb
  clear hI
  rw [← hA2, ← hS, ← hV]
  cbv
  repeat' first | (with_reducible intro hb; cbv) | with_reducible refine And.intro ?_ ?_
  all_goals first | exact (st hb).o1 | exact hb | skip
  · rename_i hb0
    have hz := (st hb0).nz hb
    apply hret
    clear hexit hnext hret st en
    cbv
    refine hk _ _ (Good.pure rfl fun ρ => ?_)
    subst hT
    exact tupWt hz.1.symm hz.2.symm
  · rename_i hb0
    refine hnext _ (k + 1, _) ((st hb0).nx hb) (st hb0).ms ?_
    have ead := (st hb0).ad hlen
    subst hA2
    exact ⟨⟨⟨rfl, rfl, leI ead⟩, ⟨rfl, rfl, fun _ => rfl⟩, ⟨rfl, rfl, fun _ => rfl⟩, ⟨rfl, rfl, fun _ => rfl⟩, ⟨rfl, rfl, fun _ => rfl⟩, trivial⟩, ⟨leRefl rfl, leRefl rfl, leRefl rfl, trivial⟩, rfl, rfl⟩
  · have hz := en hb
    apply hexit
    clear hexit hnext hret st en
    cbv
    refine hk _ _ (Good.pure rfl fun ρ => ?_)
    subst hT
    exact tupWt hz.1.symm hz.2.symm

def tN17 (A : Alg) (S : SW) (V : SV) (T : ST) : List (Nat × Sem') := (51, heapSem [.s .wd] A (gSum A T)) :: ((tN16 A S V))
theorem tN17OK : COK Try.prog (look (tN17 stdA stdW stdV stdT)) := COK_cons ok_wsum (tN16OK)
end Go.Eng

/- Contracts: a row of bytes turned about. -/
namespace Go.Eng
open Go.Proofs
set_option maxRecDepth 100000
set_option linter.all false
set_option exponentiation.threshold 3000

/-- the outer parts have been turned about -/
def RvI (l : List Int) (i j : Int) (M : List Int) : Prop := 0 ≤ i ∧ 2 * i ≤ l.length ∧ j = (l.length : Int) - 1 - i ∧ M.length = l.length ∧
  ∀ k : Nat, k < l.length → M[k]? = if (k : Int) < i ∨ j < k then l.reverse[k]? else l[k]?

theorem RvI.init (l : List Int) : RvI l 0 ((l.length : Int) - 1) l := by
  refine ⟨Int.le_refl 0, by omega, by omega, rfl, fun k hk => ?_⟩
  rw [if_neg (by omega)]

structure RvStep (A : Alg) (l : List Int) (lo hi i j : Int) (M : List Int) : Prop where
  o1 : A.cmp .leq 0 lo = true
  o2 : A.cmp .leq hi (A.len M) = true
  o3 : A.cmp .leq 0 i = true
  o4 : A.cmp .leq 0 j = true
  o5 : A.cmp .lss (A.iadd lo i) hi = true
  o6 : A.cmp .lss (A.iadd lo j) hi = true
  o7 : A.cmp .leq 0 (A.iadd lo i) = true
  o8 : A.cmp .leq 0 (A.iadd lo j) = true
  o9 : A.cmp .lss (A.iadd lo i) (A.len M) = true
  o10 : A.cmp .lss (A.iadd lo j) (A.len M) = true
  o11 : A.cmp .leq hi (A.len (A.set M (A.iadd lo i) (A.get M (A.iadd lo j) 0))) = true
  o12 : A.cmp .lss (A.iadd lo j) (A.len (A.set M (A.iadd lo i) (A.get M (A.iadd lo j) 0))) = true
  nx : RvI l (i + 1) (j - 1) (A.set (A.set M (A.iadd lo i) (A.get M (A.iadd lo j) 0)) (A.iadd lo j) (A.get M (A.iadd lo i) 0))
  ad : A.bin .add .i64 i 1 = i + 1
  sb : A.bin .sub .i64 j 1 = j - 1
  ms : ((l.length : Int) - (i + 1)).toNat < ((l.length : Int) - i).toNat

theorem rv_step {l : List Int} {lo hi i j : Int} {M : List Int} (hI : RvI l i j M) (A : Alg) (hA : A = stdA) (hlo : lo = 0) (hhi : hi = l.length) (hlen : (l.length : Int) < 1000000) (hb : A.cmp .lss i j = true) : RvStep A l lo hi i j M := by
  subst hA hlo hhi
  have hb : i < j := of_decide_eq_true hb
  obtain ⟨i0, i1, hj, hM, hk⟩ := hI
  have leq : ∀ z w : Int, z ≤ w → stdA.cmp .leq z w = true := fun z w h => decide_eq_true h
  have lss : ∀ z w : Int, z < w → stdA.cmp .lss z w = true := fun z w h => decide_eq_true h
  have hml : stdA.len M = (l.length : Int) := by show (M.length : Int) = _; rw [hM]
  have hml2 : ∀ x, stdA.len (stdA.set M (stdA.iadd 0 i) x) = (l.length : Int) := fun x => by show ((M.set _ x).length : Int) = _; rw [List.length_set, hM]
  have ei : stdA.iadd 0 i = i := Int.zero_add i
  have ej : stdA.iadd 0 j = j := Int.zero_add j
  exact {
    o1 := leq _ _ (Int.le_refl 0)
    o2 := by rw [hml]; exact leq _ _ (Int.le_refl _)
    o3 := leq _ _ i0
    o4 := leq _ _ (by omega)
    o5 := by rw [ei]; exact lss _ _ (by omega)
    o6 := by rw [ej]; exact lss _ _ (by omega)
    o7 := by rw [ei]; exact leq _ _ i0
    o8 := by rw [ej]; exact leq _ _ (by omega)
    o9 := by rw [hml, ei]; exact lss _ _ (by omega)
    o10 := by rw [hml, ej]; exact lss _ _ (by omega)
    o11 := by rw [hml2]; exact leq _ _ (Int.le_refl _)
    o12 := by rw [hml2, ej]; exact lss _ _ (by omega)
    nx := by
      rw [ei, ej]
      show RvI l (i + 1) (j - 1) ((M.set i.toNat ((M[j.toNat]?).getD 0)).set j.toNat ((M[i.toNat]?).getD 0))
      refine ⟨by omega, by omega, by omega, by rw [List.length_set, List.length_set, hM], fun k hkl => ?_⟩
      have hmi : M[i.toNat]? = l[i.toNat]? := by rw [hk i.toNat (by omega), if_neg (by omega)]
      have hmj : M[j.toNat]? = l[j.toNat]? := by rw [hk j.toNat (by omega), if_neg (by omega)]
      have hri : l.reverse[i.toNat]? = l[j.toNat]? := by rw [List.getElem?_reverse (by omega)]; congr 1; omega
      have hrj : l.reverse[j.toNat]? = l[i.toNat]? := by rw [List.getElem?_reverse (by omega)]; congr 1; omega
      by_cases h1 : k = j.toNat
      · subst h1
        rw [List.getElem?_set_self (by rw [List.length_set, hM]; omega), if_pos (by omega), hrj, hmi, List.getElem?_eq_getElem (by omega)]; rfl
      · rw [List.getElem?_set_ne (by omega)]
        by_cases h2 : k = i.toNat
        · subst h2
          rw [List.getElem?_set_self (by omega), if_pos (by omega), hri, hmj, List.getElem?_eq_getElem (by omega)]; rfl
        · rw [List.getElem?_set_ne (by omega), hk k hkl]
          by_cases h3 : (k : Int) < i ∨ j < k
          · rw [if_pos h3, if_pos (by omega)]
          · rw [if_neg h3, if_neg (by omega)]
    ad := by show stdBin .add .i64 i 1 = i + 1; simp only [stdBin, IntKind.wrap_i64]; omega
    sb := by show stdBin .sub .i64 j 1 = j - 1; simp only [stdBin, IntKind.wrap_i64]; omega
    ms := by omega }

theorem rv_end {l : List Int} {i j : Int} {M : List Int} (hI : RvI l i j M) (A : Alg) (hA : A = stdA) (hb : A.cmp .lss i j = false) : M = l.reverse := by
  subst hA
  have hb : ¬ i < j := of_decide_eq_false hb
  obtain ⟨i0, i1, hj, hM, hk⟩ := hI
  apply List.ext_getElem?
  intro k
  rcases Nat.lt_or_ge k l.length with h | h
  · rw [hk k h]
    split
    · rfl
    · rw [List.getElem?_reverse h]; congr 1; omega
  · rw [List.getElem?_eq_none (by omega), List.getElem?_eq_none (by rw [List.length_reverse]; omega)]

def gRev (A : Alg) (T : ST) : List CV → List Blk → Option LW
  | [.s (.hw 0 1 lo hi)], [.vec true (.int .u8) l] => some ⟨[A.cmp .eql lo 0, A.cmp .eql hi (A.len l), A.cmp .lss (A.len l) 1000000], .t [], [], [.vec true (.int .u8) (T.rev l)]⟩
  | _, _ => none

theorem ok_rev : CallOK Try.prog 63 (heapSemW [.sw (.int .u8)] stdA (gRev stdA stdT)) := by
  refine callOK_heapW (un := ⟨false, none⟩) tok tN17OK mixed (fn := Try.f63) (by kernel_rfl) (by kernel_rfl) (by kernel_rfl) (by decide +kernel) ?_
  intro w Wr args bs r hg ho hWr A L k hA hL hk
  obtain ⟨S, hS⟩ : ∃ S, S = stdW := ⟨_, rfl⟩
  obtain ⟨T, hT⟩ : ∃ T, T = stdT := ⟨_, rfl⟩
  obtain ⟨V, hV⟩ : ∃ V, V = stdV := ⟨_, rfl⟩
  (try rw [← hS])
  (try rw [← hT])
  (try rw [← hV])
  (try rw [← hA])
  unfold gRev at hg
  split at hg
  rotate_left
  · cases hg
  simp only [Option.some.injEq] at hg
  subst hg
  rename_i lo hi l
  have hlo := (ho_cons ho).1
  have hhi := (ho_cons (ho_cons ho).2).1
  have hlen := (ho_cons (ho_cons (ho_cons ho).2).2).1
  clear ho
  simp only [stdA, stdCmp, beq_iff_eq, decide_eq_true_eq] at hlo hhi hlen
  have o1 : A.cmp .leq 0 lo = true := leq_of A hA _ _ (by omega)
  have o2 : A.cmp .leq lo hi = true := leq_of A hA _ _ (by omega)
  have ej : A.bin .sub .i64 (A.isub hi lo) 1 = (l.length : Int) - 1 := by subst hA; show stdBin .sub .i64 (hi - lo) 1 = _; simp only [stdBin, IntKind.wrap_i64]; omega
  have init := RvI.init l
  rw [← ej] at init
  clear ej
  cbv
  repeat' first | (with_reducible intro hb; cbv) | with_reducible refine And.intro ?_ ?_
  · exact o1
  · exact o2
  refine hL _ _ _ (loop_rule (un := ⟨false, some [0, 2, 3, 9]⟩) tok tN17OK mixed (fun p : Int × Int × List Int => ⟨[(2, ⟨[], .c (.s (.int .i64 p.1))⟩), (3, ⟨[], .c (.s (.int .i64 p.2.1))⟩), (0, ⟨[], .c (.s (.hw 0 1 lo hi))⟩)], [(0, .vec true (.int .u8) p.2.2)], 1⟩)
    (fun p => RvI l p.1 p.2.1 p.2.2) (fun p => ((l.length : Int) - p.1).toNat) (0, _, l) init ?_ (fun _ i hi => by have := hWr i hi; simp at this ⊢; omega) ?_)
  · exact ⟨⟨⟨rfl, rfl, fun _ => rfl⟩, ⟨rfl, rfl, fun _ => rfl⟩, ⟨rfl, rfl, fun _ => rfl⟩, trivial⟩, ⟨leRefl rfl, trivial⟩, rfl, rfl⟩
  clear init
  rintro ⟨i, j, M⟩ hI A2 L2 k2 hA2 hL2 hnext hexit hret
  have st := fun hb : A2.cmp .lss i j = true => rv_step hI A2 hA2 hlo hhi hlen hb
  have en := fun hb : A2.cmp .lss i j = false => rv_end hI A2 hA2 hb
  clear hI
  rw [← hA2, ← hS, ← hV]
  cbv
  repeat' first | (with_reducible intro hb; cbv) | with_reducible refine And.intro ?_ ?_
  all_goals first | replace st := st hb | skip
  all_goals first | exact st.o1 | exact st.o2 | exact st.o3 | exact st.o4 | exact st.o5 | exact st.o6 | exact st.o7 | exact st.o8 | exact st.o9 | exact st.o10 | exact st.o11 | exact st.o12 | skip
  · exact hnext _ (i + 1, j - 1, _) st.nx st.ms ⟨⟨⟨rfl, rfl, leI st.ad⟩, ⟨rfl, rfl, leI st.sb⟩, ⟨rfl, rfl, fun _ => rfl⟩, trivial⟩, ⟨leV rfl, trivial⟩, rfl, rfl⟩
  · have hz := en hb
    apply hexit
    clear hexit hnext hret st en
    cbv
    refine hk _ _ (GoodW.one (t := 0) rfl (fun ρ => rfl) rfl rfl rfl (leV ?_))
    subst hT
    exact hz

def tN18 (A : Alg) (S : SW) (V : SV) (T : ST) : List (Nat × Sem') := (63, heapSemW [.sw (.int .u8)] A (gRev A T)) :: ((tN17 A S V T))
theorem tN18OK : COK Try.prog (look (tN18 stdA stdW stdV stdT)) := COK_cons ok_rev (tN17OK)
end Go.Eng

/- Contracts: whole numbers, Text. -/
namespace Go.Eng
open Go.Proofs
set_option maxRecDepth 100000
set_option linter.all false
set_option exponentiation.threshold 3000

/-- the digits so far -/
def TxI (x : Wd) (d : Dg) (M : List Int) : Prop := M.length ≤ 400 ∧ d.n < 10 ^ (400 - M.length) ∧ digD 400 x.d.n = M ++ digD (400 - M.length) d.n

theorem digD_zero (f : Nat) : digD f 0 = [] := by cases f <;> simp [digD]

theorem digD_succ (f n : Nat) (h : n ≠ 0) : digD (f + 1) n = (48 + (n % 10 : Nat) : Int) :: digD f (n / 10) := by
  rw [digD, if_neg h]

theorem TxI.init (x : Wd) : TxI x x.d [] := by
  refine ⟨Nat.zero_le _, ?_, rfl⟩
  exact Nat.lt_of_lt_of_le x.d.lt (by decide : 2 ^ 1024 ≤ 10 ^ 400)

structure TxStep (A : Alg) (V : SV) (x : Wd) (d : Dg) (M : List Int) (c : Int) : Prop where
  o1 : A.cmp .leq 1 10 = true
  o2 : A.cmp .lss 10 4294967296 = true
  o3 : A.cmp .leq (A.iadd (A.len M) (A.len [c])) 1000000 = true
  nx : TxI x (V.byQ d 10) (A.app M [c])
  ms : (V.byQ d 10).n < d.n

theorem tx_step {x : Wd} {d : Dg} {M : List Int} (hI : TxI x d M) (A : Alg) (hA : A = stdA) (V : SV) (hV : V = stdV) (S : SW) (hS : S = stdW) (hb : A.cmp .gtr (S.size d) 0 = true) (c : Int) (hc : c = A.wrap .u8 (A.bin .add .u32 48 (V.byR d 10))) : TxStep A V x d M c := by
  have h0 := (gcd_test ⟨false, d⟩ A hA S hS).2.2.1 hb
  subst hA hV hS
  have h0 : d.n ≠ 0 := h0
  obtain ⟨h1, h2, h3⟩ := hI
  have hlt : M.length < 400 := by
    rcases Nat.lt_or_ge M.length 400 with h | h
    · exact h
    · rw [show 400 - M.length = 0 by omega, Nat.pow_zero] at h2; omega
  obtain ⟨f, hf⟩ : ∃ f, 400 - M.length = f + 1 := ⟨400 - M.length - 1, by omega⟩
  rw [hf] at h2 h3
  rw [digD_succ _ _ h0] at h3
  have hc' : c = 48 + ((d.n % 10 : Nat) : Int) := by
    rw [hc]
    show IntKind.u8.wrap (IntKind.u32.wrap (48 + ((d.n % (10 : Int).toNat : Nat) : Int))) = _
    rw [show (10 : Int).toNat = 10 from rfl, IntKind.wrap_u32, IntKind.wrap_u8]
    omega
  have hq : (stdV.byQ d 10).n = d.n / 10 := rfl
  exact {
    o1 := rfl
    o2 := rfl
    o3 := by
      refine leq_of _ rfl _ _ ?_
      show (M.length : Int) + (1 : Nat) ≤ 1000000
      omega
    nx := by
      show TxI x (stdV.byQ d 10) (M ++ [c])
      refine ⟨by simp; omega, ?_, ?_⟩
      · rw [hq, List.length_append, List.length_singleton, show 400 - (M.length + 1) = f by omega, Nat.div_lt_iff_lt_mul (by decide), ← Nat.pow_succ]
        exact h2
      · rw [h3, hq, List.length_append, List.length_singleton, show 400 - (M.length + 1) = f by omega, hc', List.append_assoc]; rfl
    ms := by rw [hq]; omega }

structure TxEnd (A : Alg) (T : ST) (x : Wd) (M : List Int) : Prop where
  o1 : A.cmp .leq (A.iadd (A.len M) (A.len [(45 : Int)])) 1000000 = true
  o2 : A.cmp .eql 0 0 = true
  o3 : A.cmp .eql (A.len (A.app M [45])) (A.len (A.app M [45])) = true
  o4 : A.cmp .lss (A.len (A.app M [45])) 1000000 = true
  o5 : A.cmp .eql (A.len M) (A.len M) = true
  o6 : A.cmp .lss (A.len M) 1000000 = true
  r1 : A.cmp .eql (A.len M) 0 = true → T.text x = ⟨#[48]⟩
  r2 : A.cmp .eql (A.len M) 0 = false → x.neg = true → T.text x = A.ofB (T.rev (A.app M [45]))
  r3 : A.cmp .eql (A.len M) 0 = false → x.neg = false → T.text x = A.ofB (T.rev M)

theorem tx_end {x : Wd} {d : Dg} {M : List Int} (hI : TxI x d M) (A : Alg) (hA : A = stdA) (S : SW) (hS : S = stdW) (T : ST) (hT : T = stdT) (hb : A.cmp .gtr (S.size d) 0 = false) : TxEnd A T x M := by
  have h0 := (gcd_test ⟨false, d⟩ A hA S hS).2.2.2.1 hb
  subst hA hS hT
  have h0 : d.n = 0 := h0
  obtain ⟨h1, h2, h3⟩ := hI
  rw [h0, digD_zero, List.append_nil] at h3
  have e0 : stdA.len M = (M.length : Int) := rfl
  have e1 : stdA.len (stdA.app M [45]) = (M.length : Int) + 1 := by show ((M ++ [(45 : Int)]).length : Int) = _; simp
  have hz : ∀ b, stdA.cmp .eql (stdA.len M) 0 = b → decide (x.d.n = 0) = b := fun b h => by
    have h : ((M.length : Int) == 0) = b := h
    rw [← h]
    by_cases hx : x.d.n = 0
    · rw [hx, digD_zero] at h3; rw [← h3]; simp [hx]
    · rw [digD_succ 399 _ hx] at h3; rw [← h3]; simp [hx]; omega
  have eq : ∀ z : Int, stdA.cmp .eql z z = true := fun z => by show (z == z) = true; simp
  have ht : stdT.text x = stdA.ofB (textL x) := rfl
  exact {
    o1 := leq_of _ rfl _ _ (by show (M.length : Int) + (1 : Nat) ≤ 1000000; omega)
    o2 := eq 0
    o3 := eq _
    o4 := by rw [e1]; exact lss_of _ rfl _ _ (by omega)
    o5 := eq _
    o6 := by rw [e0]; exact lss_of _ rfl _ _ (by omega)
    r1 := fun h => by
      rw [ht]; unfold textL
      rw [if_pos (of_decide_eq_true (hz _ h))]; rfl
    r2 := fun h hn => by
      rw [ht]; unfold textL
      rw [if_neg (of_decide_eq_false (hz _ h)), hn, h3]; rfl
    r3 := fun h hn => by
      rw [ht]; unfold textL
      rw [if_neg (of_decide_eq_false (hz _ h)), hn, h3]
      simp only [Bool.false_eq_true, if_false, List.append_nil]; rfl }

def gText (T : ST) : List CV → List Blk → Option LR
  | [.g [.W x]], [] => some ⟨[], .c (.s (.str (T.text x))), []⟩
  | _, _ => none

theorem ok_wtext : CallOK Try.prog 22 (heapSem [.v] stdA (gText stdT)) := by
  refine callOK_heap (un := ⟨false, some [1,2,3,4,10,22,26]⟩) tok tN18OK mixed (fn := Try.f22) (by kernel_rfl) (by kernel_rfl) (by kernel_rfl) (by decide +kernel) ?_
  intro w Wr args bs r hg ho hWr A L k hA hL hk
  obtain ⟨S, hS⟩ : ∃ S, S = stdW := ⟨_, rfl⟩
  obtain ⟨T, hT⟩ : ∃ T, T = stdT := ⟨_, rfl⟩
  obtain ⟨V, hV⟩ : ∃ V, V = stdV := ⟨_, rfl⟩
  (try rw [← hS])
  (try rw [← hT])
  (try rw [← hV])
  (try rw [← hA])
  unfold gText at hg
  split at hg
  rotate_left
  · cases hg
  simp only [Option.some.injEq] at hg
  subst hg
  rename_i x
  have i0 := TxI.init x
  cbv
  refine hL _ _ _ (loop_ruleR (un := ⟨false, some [1, 3, 4, 10, 5, 11]⟩) tok tN18OK mixed 0 (fun i hi => by have := hWr i hi; simp at this) (fun p : Dg × List Int => ⟨[(4, ⟨[], .c (.s (.hs 2))⟩), (3, ⟨[], .c (.s (.hp 1 0))⟩), (1, ⟨[], .c (.s (.hp 0 0))⟩)], [(0, .fix true [.W x]), (1, .fix true [.D p.1]), (2, .vec true (.int .u8) p.2)], 3⟩)
    (fun p => TxI x p.1 p.2) (fun p => p.1.n) (x.d, []) i0 [(2, .nils)] ?_ (fun _ => Nat.zero_le _) ?_)
  · exact ⟨⟨⟨rfl, rfl, fun _ => rfl⟩, ⟨rfl, rfl, fun _ => rfl⟩, ⟨rfl, rfl, fun _ => rfl⟩, trivial⟩, ⟨⟨rfl, rfl, fun _ => rfl⟩, ⟨rfl, rfl, fun _ => rfl⟩, rfl, trivial⟩, rfl, rfl, rfl, rfl⟩
  clear i0
  rintro ⟨d, M⟩ hI A2 L2 k2 hA2 hL2 hnext hexit hret
  have st := fun hb : A2.cmp .gtr (S.size d) 0 = true => tx_step hI A2 hA2 V hV S hS hb _ rfl
  have en := fun hb : A2.cmp .gtr (S.size d) 0 = false => tx_end hI A hA S hS T hT (by rw [hA, ← hA2]; exact hb)
  clear hI
  rw [← hA2, ← hS, ← hV, ← hT]
  cbv
  repeat' first | (with_reducible intro hb; cbv) | with_reducible refine And.intro ?_ ?_
  all_goals first | exact (st hb).o1 | exact (st hb).o2 | exact (st hb).o3 | skip
  · exact hnext _ (_, _) [(1, .hp 3 0), (2, .hs 5)] (st hb).nx (st hb).ms ⟨⟨⟨rfl, rfl, fun _ => rfl⟩, ⟨rfl, rfl, leHP rfl⟩, ⟨rfl, rfl, fun _ => rfl⟩, trivial⟩, ⟨⟨rfl, rfl, fun _ => rfl⟩, ⟨rfl, rfl, fun _ => rfl⟩, ⟨rfl, rfl, rfl, rfl, fun h => h⟩, trivial⟩, rfl, rfl, rfl, rfl⟩
  · apply hexit
    have em := en hb
    clear hexit hnext hret st en hb
    cbv
    repeat' first | (with_reducible intro hb; cbv) | with_reducible refine And.intro ?_ ?_
    all_goals first | exact em.o1 | exact em.o2 | exact em.o3 | exact em.o4 | exact em.o5 | exact em.o6 | skip
    · refine hk _ _ (Good.pure rfl fun ρ => ?_)
      subst hT
      exact retS (em.r1 hb).symm
    · rename_i hb0
      refine hk _ _ (Good.pure rfl fun ρ => ?_)
      subst hT
      exact retS (em.r2 hb0 hb).symm
    · rename_i hb0
      refine hk _ _ (Good.pure rfl fun ρ => ?_)
      subst hT
      exact retS (em.r3 hb0 hb).symm

def tN19 (A : Alg) (S : SW) (V : SV) (T : ST) : List (Nat × Sem') := (22, heapSem [.v] A (gText T)) :: ((tN18 A S V T))
theorem tN19OK : COK Try.prog (look (tN19 stdA stdW stdV stdT)) := COK_cons ok_wtext (tN18OK)
end Go.Eng

/- Contracts: whole numbers, Parse. -/
namespace Go.Eng
open Go.Proofs
set_option maxRecDepth 100000
set_option linter.all false
set_option exponentiation.threshold 3000

theorem leBo {a b : Bool} (h : a = b) : ∀ ρ, (XV.c (.s (.bool a))).den ρ = (XV.c (.s (.bool b))).den ρ := fun _ => by rw [h]

/-- what Parse tells once its text's body stands -/
def PsGood (s t : ByteArray) (z : Bool) : Prop := t.size ≤ 400 ∧ stdT.parse s = (match readL 0 (bytesI t) with
    | some n => ofZ (if z then -(n : Int) else n)
    | none => ⟨false, Dg.zero⟩) ∧ stdT.parseOK s = (readL 0 (bytesI t)).isSome

structure PsHead (A : Alg) (s t : ByteArray) (z : Bool) : Prop where
  p1 : A.imp (A.beq (A.not (A.seq s ⟨#[]⟩)) true) (A.cmp .leq 0 0) = true
  p2 : A.imp (A.beq (A.not (A.seq s ⟨#[]⟩)) true) (A.cmp .lss 0 (A.slen s)) = true
  p3 : A.cmp .leq 0 1 = true
  p4 : z = true → A.cmp .leq 1 (A.slen s) = true
  p5 : A.cmp .leq (A.slen s) (A.slen s) = true
  q1 : A.imp (A.beq (A.ite (A.cmp .gtr (A.slen s) 400) true (A.seq t ⟨#[]⟩)) false) (A.cmp .leq 0 0) = true
  q2 : A.imp (A.beq (A.ite (A.cmp .gtr (A.slen s) 400) true (A.seq t ⟨#[]⟩)) false) (A.cmp .lss 0 (A.slen t)) = true
  bad : A.ite (A.ite (A.cmp .gtr (A.slen s) 400) true (A.seq t ⟨#[]⟩)) true (A.ite (A.cmp .eql (A.sb t 0) 48) (A.not (A.seq s ⟨#[48]⟩)) false) = true → stdT.parse s = ⟨false, Dg.zero⟩ ∧ stdT.parseOK s = false
  good : A.ite (A.ite (A.cmp .gtr (A.slen s) 400) true (A.seq t ⟨#[]⟩)) true (A.ite (A.cmp .eql (A.sb t 0) 48) (A.not (A.seq s ⟨#[48]⟩)) false) = false → PsGood s t z
  k1 : A.cmp .leq (-9223372036854775808) 10 = true
  k2 : A.cmp .lss 10 9223372036854775808 = true

theorem headD_getD (l : List Int) : l.headD 0 = l.getD 0 0 := by cases l <;> rfl

def optW : Option Int → Wd
  | some z => ofZ z
  | none => ⟨false, Dg.zero⟩

theorem parse_eq (s : ByteArray) : stdT.parse s = optW (parseL (bytesI s)) := by
  show (match parseL (bytesI s) with | some z => ofZ z | none => ⟨false, Dg.zero⟩) = _
  cases parseL (bytesI s) <;> rfl

theorem parse_of (s : ByteArray) (r : Option Int) (h : parseL (bytesI s) = r) : stdT.parse s = optW r ∧ stdT.parseOK s = r.isSome := by
  refine ⟨by rw [parse_eq, h], ?_⟩
  show (parseL (bytesI s)).isSome = _
  rw [h]

theorem ps_head (s t : ByteArray) (z : Bool) (A : Alg) (hA : A = stdA) (hz : A.ite (A.not (A.seq s ⟨#[]⟩)) (A.cmp .eql (A.sb s 0) 45) false = z) (ht : t = if z then A.ssub s 1 (A.slen s) else s) : PsHead A s t z := by
  subst hA
  have hs0 : ∀ b, stdA.seq s ⟨#[]⟩ = b → decide (bytesI s = []) = b := fun b h => seq_eq s _ _ bytesI_nil b h
  have ht0 : ∀ b, stdA.seq t ⟨#[]⟩ = b → decide (bytesI t = []) = b := fun b h => seq_eq t _ _ bytesI_nil b h
  have hs1 : ∀ b, stdA.seq s ⟨#[48]⟩ = b → decide (bytesI s = [48]) = b := fun b h => seq_eq s _ _ bytesI_zero b h
  have hl := bytesI_len s
  have hlt := bytesI_len t
  have es : ∀ u : ByteArray, bytesI u ≠ [] → stdA.sb u 0 = (bytesI u).headD 0 := fun u h => by
    have h1 := bytesI_len u
    have h2 : 0 < (bytesI u).length := List.length_pos_iff.2 h
    rw [sb_eq u 0 (Int.le_refl 0) (by omega), headD_getD]; rfl
  have hz' : z = decide (bytesI s ≠ [] ∧ (bytesI s).headD 0 = 45) := by
    rw [← hz]
    show (if (!stdA.seq s ⟨#[]⟩) = true then (stdA.sb s 0 == 45) else false) = _
    have e := hs0 _ rfl
    rw [← e]
    by_cases h : bytesI s = []
    · simp [h]
    · rw [es s h, Bool.eq_iff_iff]; simp [h]
  have hb : bodyL (bytesI s) = bytesI t := by
    unfold bodyL
    rw [ht]
    cases hzz : z
    · rw [hz', decide_eq_false_iff_not] at hzz
      rw [if_neg hzz]; rfl
    · rw [hz', decide_eq_true_eq] at hzz
      rw [if_pos hzz, if_pos rfl, bytesI_tail, List.drop_one]
  have hcond : ∀ b, stdA.ite (stdA.ite (stdA.cmp .gtr (stdA.slen s) 400) true (stdA.seq t ⟨#[]⟩)) true (stdA.ite (stdA.cmp .eql (stdA.sb t 0) 48) (stdA.not (stdA.seq s ⟨#[48]⟩)) false) = b →
      decide (400 < (bytesI s).length ∨ bytesI t = [] ∨ ((bytesI t).headD 0 = 48 ∧ bytesI s ≠ [48])) = b := fun b h => by
    rw [← h]
    show _ = (if (if decide ((s.size : Int) > 400) = true then true else stdA.seq t ⟨#[]⟩) = true then true else if (stdA.sb t 0 == 48) = true then (!stdA.seq s ⟨#[48]⟩) else false)
    rw [← ht0 _ rfl, ← hs1 _ rfl, hl]
    by_cases h1 : (s.size : Int) > 400
    · have : 400 < s.size := by omega
      simp [h1, this]
    · have h1' : ¬ 400 < s.size := by omega
      by_cases h2 : bytesI t = []
      · simp [h2]
      · rw [es t h2]
        simp only [h1, h1', h2, decide_false, Bool.false_eq_true, if_false, false_or]
        by_cases h3 : (bytesI t).headD 0 = 48 <;> by_cases h4 : bytesI s = [48] <;> simp [h3, h4]
  have imp : ∀ a b : Bool, (a = true → b = true) → stdA.imp (stdA.beq a true) b = true := fun a b h => by
    show (!(a == true) || b) = true
    cases a
    · rfl
    · rw [h rfl]; rfl
  have imp0 : ∀ a b : Bool, (a = false → b = true) → stdA.imp (stdA.beq a false) b = true := fun a b h => by
    show (!(a == false) || b) = true
    cases a
    · rw [h rfl]; rfl
    · rfl
  have z00 : stdA.cmp .leq 0 0 = true := rfl
  have pos : ∀ u : ByteArray, bytesI u ≠ [] → 0 < u.size := fun u h => by rw [← bytesI_len]; exact List.length_pos_iff.2 h
  exact {
    p1 := imp _ _ fun _ => z00
    p2 := imp _ _ fun h => by
      have h : (!stdA.seq s ⟨#[]⟩) = true := h
      rw [Bool.not_eq_true'] at h
      have := pos s (of_decide_eq_false (hs0 _ h))
      exact lss_of _ rfl _ _ (show (0 : Int) < (s.size : Int) by omega)
    p3 := rfl
    p4 := fun h => by
      rw [hz', decide_eq_true_eq] at h
      have := pos s h.1
      exact leq_of _ rfl _ _ (show (1 : Int) ≤ (s.size : Int) by omega)
    p5 := leq_of _ rfl _ _ (Int.le_refl _)
    q1 := imp0 _ _ fun _ => z00
    q2 := imp0 _ _ fun h => by
      have h : (if decide ((s.size : Int) > 400) = true then true else stdA.seq t ⟨#[]⟩) = false := h
      split at h
      · cases h
      · have := pos t (of_decide_eq_false (ht0 _ h))
        exact lss_of _ rfl _ _ (show (0 : Int) < (t.size : Int) by omega)
    bad := fun h => by
      have h' := of_decide_eq_true (hcond _ h)
      refine parse_of s none ?_
      unfold parseL
      rw [hb, if_pos h']
    good := fun h => by
      have h' := of_decide_eq_false (hcond _ h)
      obtain ⟨r, hr⟩ : ∃ r, r = readL 0 (bytesI t) := ⟨_, rfl⟩
      have hp : parseL (bytesI s) = r.map fun n => if bytesI s ≠ [] ∧ (bytesI s).headD 0 = 45 then -(n : Int) else n := by
        unfold parseL
        rw [hb, if_neg h', hr]
      obtain ⟨g1, g2⟩ := parse_of s _ hp
      have hsz : t.size ≤ 400 := by
        have h1 : s.size ≤ 400 := by rw [← hl]; exact Nat.le_of_not_lt fun hh => h' (.inl hh)
        have h2 : (bytesI t).length ≤ (bytesI s).length := by
          rw [← hb]; unfold bodyL
          split
          · rw [List.length_tail]; omega
          · exact Nat.le_refl _
        omega
      unfold PsGood
      rw [← hr]
      refine ⟨hsz, ?_, ?_⟩
      · rw [g1]
        cases r with
        | none => rfl
        | some n =>
          show ofZ (if bytesI s ≠ [] ∧ (bytesI s).headD 0 = 45 then -(n : Int) else n) = ofZ (if z = true then -(n : Int) else n)
          rw [hz']
          by_cases hh : bytesI s ≠ [] ∧ (bytesI s).headD 0 = 45
          · rw [if_pos hh, if_pos (decide_eq_true hh)]
          · rw [if_neg hh, if_neg (by simpa using hh)]
      · rw [g2]; cases r <;> rfl
    k1 := rfl
    k2 := rfl }

/-- what the loop keeps -/
def PsI (t : ByteArray) (i : Int) (a : Wd) : Prop := 0 ≤ i ∧ i ≤ t.size ∧ ∃ n : Nat, a = ofZ (n : Int) ∧ n < 2 ^ 1024 ∧ readL 0 (bytesI t) = readL n ((bytesI t).drop i.toNat)

theorem PsI.init (t : ByteArray) : PsI t 0 ⟨false, Dg.zero⟩ := ⟨Int.le_refl 0, Int.natCast_nonneg _, 0, rfl, Nat.two_pow_pos _, by rw [show (0 : Int).toNat = 0 from rfl, List.drop_zero]⟩

structure PsStep (A : Alg) (V : SV) (S : SW) (t : ByteArray) (i : Int) (a : Wd) (c d : Int) : Prop where
  o1 : A.cmp .leq 0 i = true
  o2 : A.cmp .lss i (A.slen t) = true
  o3 : A.imp (A.beq (A.cmp .lss c 48) false) (A.cmp .leq 0 i) = true
  o4 : A.imp (A.beq (A.cmp .lss c 48) false) (A.cmp .lss i (A.slen t)) = true
  o5 : A.cmp .leq (-9223372036854775808) d = true
  o6 : A.cmp .lss d 9223372036854775808 = true
  bad : A.ite (A.cmp .lss c 48) true (A.cmp .gtr c 57) = true → readL 0 (bytesI t) = none
  over : A.ite (A.cmp .lss c 48) true (A.cmp .gtr c 57) = false → A.ite (A.not (V.mulOK a (S.from64 10))) true (A.not (V.addOK (V.mul a (S.from64 10)) (S.from64 d))) = true → readL 0 (bytesI t) = none
  nx : A.ite (A.cmp .lss c 48) true (A.cmp .gtr c 57) = false → A.ite (A.not (V.mulOK a (S.from64 10))) true (A.not (V.addOK (V.mul a (S.from64 10)) (S.from64 d))) = false → PsI t (i + 1) (V.add (V.mul a (S.from64 10)) (S.from64 d))
  ad : t.size ≤ 400 → A.bin .add .i64 i 1 = i + 1
  ms : ((t.size : Int) - (i + 1)).toNat < ((t.size : Int) - i).toNat

theorem ps_step {t : ByteArray} {i : Int} {a : Wd} (hI : PsI t i a) (A : Alg) (hA : A = stdA) (V : SV) (hV : V = stdV) (S : SW) (hS : S = stdW) (hb : A.cmp .lss i (A.slen t) = true) (c d : Int) (hc : c = A.sb t i) (hd : d = A.wrap .i64 (A.bin .sub .u8 c 48)) : PsStep A V S t i a c d := by
  subst hA hV hS
  have hb' : i < (t.size : Int) := of_decide_eq_true hb
  obtain ⟨i0, i1, n, ha, hn, hr⟩ := hI
  have hl := bytesI_len t
  have hc' : c = (bytesI t).getD i.toNat 0 := by rw [hc]; exact sb_eq t i i0 hb'
  have hdr : (bytesI t).drop i.toNat = c :: (bytesI t).drop (i + 1).toNat := by
    have hlt : i.toNat < (bytesI t).length := by omega
    rw [show (i + 1).toNat = i.toNat + 1 by omega, List.drop_eq_getElem_cons hlt, hc', List.getD, List.getElem?_eq_getElem hlt]; rfl
  have hcb : 0 ≤ c ∧ c < 256 := by
    refine bytesI_byte t c ?_
    have : c ∈ (bytesI t).drop i.toNat := by rw [hdr]; exact List.mem_cons_self ..
    exact List.mem_of_mem_drop this
  rw [hdr, readL_cons] at hr
  have hd' : d = IntKind.i64.wrap (IntKind.u8.wrap (c - 48)) := hd
  rw [IntKind.wrap_u8, IntKind.wrap_i64] at hd'
  have o1 : stdA.cmp .leq 0 i = true := leq_of _ rfl _ _ i0
  have imp0 : ∀ a b : Bool, b = true → stdA.imp a b = true := fun a b h => by show (!a || b) = true; rw [h]; simp
  have hcc : ∀ b, stdA.ite (stdA.cmp .lss c 48) true (stdA.cmp .gtr c 57) = b → decide (c < 48 ∨ 57 < c) = b := fun b h => by
    rw [← h]
    show _ = (if decide (c < 48) = true then true else decide (c > 57))
    by_cases h1 : c < 48 <;> simp [h1]
  have hdc : 48 ≤ c → c ≤ 57 → d = (((c - 48).toNat : Nat) : Int) := fun h1 h2 => by omega
  obtain ⟨m1, m2⟩ := ofZ_mul10 n hn
  have hoo : ¬ (c < 48 ∨ 57 < c) → ∀ b, stdA.ite (stdA.not (stdV.mulOK a (stdW.from64 10))) true (stdA.not (stdV.addOK (stdV.mul a (stdW.from64 10)) (stdW.from64 d))) = b → decide (¬ (n * 10 < 2 ^ 1024 ∧ n * 10 + (c - 48).toNat < 2 ^ 1024)) = b := fun h b hb => by
    rw [← hb]
    show _ = (if (!stdV.mulOK a (stdW.from64 10)) = true then true else (!stdV.addOK (stdV.mul a (stdW.from64 10)) (stdW.from64 d)))
    rw [ha, m1]
    by_cases h1 : n * 10 < 2 ^ 1024
    · rw [m2 h1, hdc (by omega) (by omega), (ofZ_addC (n * 10) (c - 48).toNat h1 (by omega)).1]
      simp only [h1, decide_true, Bool.not_true, Bool.false_eq_true, if_false, true_and]
      by_cases h2 : n * 10 + (c - 48).toNat < 2 ^ 1024 <;> simp [h2]
    · simp [h1]
  exact {
    o1 := o1
    o2 := hb
    o3 := imp0 _ _ o1
    o4 := imp0 _ _ hb
    o5 := leq_of _ rfl _ _ (by omega)
    o6 := lss_of _ rfl _ _ (by omega)
    bad := fun h => by rw [hr, if_pos (of_decide_eq_true (hcc _ h))]
    over := fun h h2 => by
      have h1 := of_decide_eq_false (hcc _ h)
      rw [hr, if_neg h1, if_neg (of_decide_eq_true (hoo h1 _ h2))]
    nx := fun h h2 => by
      have h1 := of_decide_eq_false (hcc _ h)
      have h3 := Decidable.of_not_not (of_decide_eq_false (hoo h1 _ h2))
      refine ⟨by omega, by omega, n * 10 + (c - 48).toNat, ?_, h3.2, ?_⟩
      · rw [ha, m2 h3.1, hdc (by omega) (by omega)]
        exact (ofZ_addC (n * 10) (c - 48).toNat h3.1 (by omega)).2 h3.2
      · rw [hr, if_neg h1, if_pos h3]
    ad := fun _ => by show stdBin .add .i64 i 1 = i + 1; simp only [stdBin, IntKind.wrap_i64]; omega
    ms := by omega }

theorem ps_end {t : ByteArray} {i : Int} {a : Wd} (hI : PsI t i a) (A : Alg) (hA : A = stdA) (hb : A.cmp .lss i (A.slen t) = false) : ∃ n : Nat, a = ofZ (n : Int) ∧ n < 2 ^ 1024 ∧ readL 0 (bytesI t) = some n := by
  subst hA
  have hb : ¬ i < (t.size : Int) := of_decide_eq_false hb
  obtain ⟨i0, i1, n, ha, hn, hr⟩ := hI
  have hl := bytesI_len t
  rw [List.drop_eq_nil_of_le (by omega)] at hr
  exact ⟨n, ha, hn, by rw [hr]; rw [readL]⟩

theorem PsGood.none {s t : ByteArray} {z : Bool} (h : PsGood s t z) (hr : readL 0 (bytesI t) = none) : stdT.parse s = ⟨false, Dg.zero⟩ ∧ stdT.parseOK s = false := by
  obtain ⟨_, h1, h2⟩ := h
  rw [hr] at h1 h2
  exact ⟨h1, h2⟩

theorem PsGood.some {s t : ByteArray} {z : Bool} (h : PsGood s t z) {n : Nat} (hr : readL 0 (bytesI t) = some n) : stdT.parse s = ofZ (if z then -(n : Int) else n) ∧ stdT.parseOK s = true := by
  obtain ⟨_, h1, h2⟩ := h
  rw [hr] at h1 h2
  exact ⟨h1, h2⟩

def gParse (T : ST) : List CV → List Blk → Option LR
  | [.s (.str s)], [] => some ⟨[], .t [.g [.W (T.parse s)], .s (.bool (T.parseOK s))], []⟩
  | _, _ => none

theorem ok_wparse : CallOK Try.prog 23 (heapSem [.v] stdA (gParse stdT)) := by
  refine callOK_heap (un := ⟨false, some [0,2,3,4,5,6,7,21,39,44,45,85]⟩) tok tN19OK mixed (fn := Try.f23) (by kernel_rfl) (by kernel_rfl) (by kernel_rfl) (by decide +kernel) ?_
  intro w Wr args bs r hg ho hWr A L k hA hL hk
  obtain ⟨S, hS⟩ : ∃ S, S = stdW := ⟨_, rfl⟩
  obtain ⟨T, hT⟩ : ∃ T, T = stdT := ⟨_, rfl⟩
  obtain ⟨V, hV⟩ : ∃ V, V = stdV := ⟨_, rfl⟩
  (try rw [← hS])
  (try rw [← hT])
  (try rw [← hV])
  (try rw [← hA])
  unfold gParse at hg
  split at hg
  rotate_left
  · cases hg
  simp only [Option.some.injEq] at hg
  subst hg
  rename_i s
  have hd := fun (z : Bool) (hz : A.ite (A.not (A.seq s ⟨#[]⟩)) (A.cmp .eql (A.sb s 0) 45) false = z) => ps_head s _ z A hA hz rfl
  have h1 := fun hz => hd true hz
  have h0 := fun hz => hd false hz
  simp only [if_true, Bool.false_eq_true, if_false] at h1 h0
  have hp := hd _ rfl
  have p1 := hp.p1
  have p2 := hp.p2
  clear hd hp
  cbv
  repeat' first | (with_reducible intro hb; cbv) | with_reducible refine And.intro ?_ ?_
  all_goals first | exact p1 | exact p2 | (replace h1 := h1 hb; first | exact h1.p3 | exact h1.p4 rfl | exact h1.p5 | exact h1.q1 | exact h1.q2) | (replace h0 := h0 hb; first | exact h0.q1 | exact h0.q2) | skip
  · rename_i hb0
    replace h1 := (h1 hb0).bad hb
    refine hk _ _ (Good.pure rfl fun ρ => ?_)
    subst hT
    exact tupWt h1.1.symm h1.2.symm
  · rename_i hb0
    exact (h1 hb0).k1
  · rename_i hb0
    exact (h1 hb0).k2
  · rename_i hb0
    have hg := (h1 hb0).good hb
    obtain ⟨t, ht⟩ : ∃ t, t = A.ssub s 1 (A.slen s) := ⟨_, rfl⟩
    have hg : PsGood s t true := by rw [ht]; exact hg
    have i0 := PsI.init t
    clear h1 h0
    refine hL _ _ _ (loop_rule (un := ⟨false, some [2, 3, 4, 5, 6, 7, 8, 9, 10, 11, 12, 44, 45, 46, 57, 81]⟩) tok tN19OK mixed (fun p : Int × Wd => ⟨[(45, ⟨[], .c (.s (.int .i64 p.1))⟩), (44, ⟨[], .c (.s (.int .i64 (stdA.slen t)))⟩), (4, ⟨[], .c (.s (.str t))⟩), (5, ⟨[], .c (.s (.bool true))⟩), (6, ⟨[], .c (.s (.hp 1 0))⟩), (7, ⟨[], .c (.s (.hp 2 0))⟩), (2, ⟨[], .c (.s (.hp 0 0))⟩)], [(0, .fix true [.W ⟨false, Dg.zero⟩]), (1, .fix true [.W p.2]), (2, .fix true [.W (stdW.from64 10)])], 3⟩)
      (fun p => PsI t p.1 p.2) (fun p => ((t.size : Int) - p.1).toNat) (0, ⟨false, Dg.zero⟩) i0 ?_ (fun _ i hi => by have := hWr i hi; simp at this) ?_)
    · subst hS ht hA
      exact ⟨⟨⟨rfl, rfl, fun _ => rfl⟩, ⟨rfl, rfl, fun _ => rfl⟩, ⟨rfl, rfl, fun _ => rfl⟩, ⟨rfl, rfl, leBo hb0⟩, ⟨rfl, rfl, fun _ => rfl⟩, ⟨rfl, rfl, fun _ => rfl⟩, ⟨rfl, rfl, fun _ => rfl⟩, trivial⟩, ⟨leRefl rfl, leRefl rfl, leRefl rfl, trivial⟩, rfl, rfl⟩
    clear i0 hb hb0 ht
    rintro ⟨i, a⟩ hI A2 L2 k2 hA2 hL2 hnext hexit hret
    have st := fun hb : A2.cmp .lss i (A2.slen t) = true => ps_step hI A2 hA2 V hV S hS hb _ _ rfl rfl
    have en := fun hb : A2.cmp .lss i (A2.slen t) = false => ps_end hI A2 hA2 hb
    clear hI
    rw [← hA2, ← hS, ← hV]
    cbv
    repeat' first | (with_reducible intro hb; cbv) | with_reducible refine And.intro ?_ ?_
    all_goals first | exact (st hb).o1 | exact (st hb).o2 | exact (st hb).o3 | exact (st hb).o4 | (rename_i hb0; exact (st hb0).o1) | (rename_i hb0; exact (st hb0).o2) | (rename_i hb0; exact (st hb0).o5) | (rename_i hb0; exact (st hb0).o6) | skip
    · rename_i hb0
      have hz := hg.none ((st hb0).bad hb)
      apply hret
      clear hexit hnext hret st en
      cbv
      refine hk _ _ (Good.pure rfl fun ρ => ?_)
      subst hT
      exact tupWt hz.1.symm hz.2.symm
    · rename_i hb0 hb1
      have hz := hg.none ((st hb0).over hb1 hb)
      apply hret
      clear hexit hnext hret st en
      cbv
      refine hk _ _ (Good.pure rfl fun ρ => ?_)
      subst hT
      exact tupWt hz.1.symm hz.2.symm
    · rename_i hb0 hb1
      refine hnext _ (i + 1, _) ((st hb0).nx hb1 hb) (st hb0).ms ?_
      have ead := (st hb0).ad hg.1
      subst hA2 hS
      exact ⟨⟨⟨rfl, rfl, leI ead⟩, ⟨rfl, rfl, fun _ => rfl⟩, ⟨rfl, rfl, fun _ => rfl⟩, ⟨rfl, rfl, fun _ => rfl⟩, ⟨rfl, rfl, fun _ => rfl⟩, ⟨rfl, rfl, fun _ => rfl⟩, ⟨rfl, rfl, fun _ => rfl⟩, trivial⟩, ⟨leRefl rfl, leRefl rfl, leRefl rfl, trivial⟩, rfl, rfl⟩
    · obtain ⟨n, e1, e2, e3⟩ := en hb
      have hz := hg.some e3
      have hneg := neg_ofZ n e2
      apply hexit
      clear hexit hnext hret st en
      cbv
      with_reducible refine And.intro ?_ ?_
      · intro hb
        cbv
        refine hk _ _ (Good.pure rfl fun ρ => ?_)
        subst hT hS e1
        exact tupWt (hneg.trans hz.1.symm) hz.2.symm
      · intro hb
        cases hb
  · rename_i hb0
    replace h0 := (h0 hb0).bad hb
    refine hk _ _ (Good.pure rfl fun ρ => ?_)
    subst hT
    exact tupWt h0.1.symm h0.2.symm
  · rename_i hb0
    exact (h0 hb0).k1
  · rename_i hb0
    exact (h0 hb0).k2
  · rename_i hb0
    have hg := (h0 hb0).good hb
    obtain ⟨t, ht⟩ : ∃ t, t = s := ⟨_, rfl⟩
    have hg : PsGood s t false := by rw [ht]; exact hg
    have i0 := PsI.init t
    clear h1 h0
    refine hL _ _ _ (loop_rule (un := ⟨false, some [2, 3, 4, 5, 6, 7, 8, 9, 10, 11, 12, 44, 45, 46, 57, 81]⟩) tok tN19OK mixed (fun p : Int × Wd => ⟨[(45, ⟨[], .c (.s (.int .i64 p.1))⟩), (44, ⟨[], .c (.s (.int .i64 (stdA.slen t)))⟩), (4, ⟨[], .c (.s (.str t))⟩), (5, ⟨[], .c (.s (.bool false))⟩), (6, ⟨[], .c (.s (.hp 1 0))⟩), (7, ⟨[], .c (.s (.hp 2 0))⟩), (2, ⟨[], .c (.s (.hp 0 0))⟩)], [(0, .fix true [.W ⟨false, Dg.zero⟩]), (1, .fix true [.W p.2]), (2, .fix true [.W (stdW.from64 10)])], 3⟩)
      (fun p => PsI t p.1 p.2) (fun p => ((t.size : Int) - p.1).toNat) (0, ⟨false, Dg.zero⟩) i0 ?_ (fun _ i hi => by have := hWr i hi; simp at this) ?_)
    · subst hS ht hA
      exact ⟨⟨⟨rfl, rfl, fun _ => rfl⟩, ⟨rfl, rfl, fun _ => rfl⟩, ⟨rfl, rfl, fun _ => rfl⟩, ⟨rfl, rfl, leBo hb0⟩, ⟨rfl, rfl, fun _ => rfl⟩, ⟨rfl, rfl, fun _ => rfl⟩, ⟨rfl, rfl, fun _ => rfl⟩, trivial⟩, ⟨leRefl rfl, leRefl rfl, leRefl rfl, trivial⟩, rfl, rfl⟩
    clear i0 hb hb0 ht
    rintro ⟨i, a⟩ hI A2 L2 k2 hA2 hL2 hnext hexit hret
    have st := fun hb : A2.cmp .lss i (A2.slen t) = true => ps_step hI A2 hA2 V hV S hS hb _ _ rfl rfl
    have en := fun hb : A2.cmp .lss i (A2.slen t) = false => ps_end hI A2 hA2 hb
    clear hI
    rw [← hA2, ← hS, ← hV]
    cbv
    repeat' first | (with_reducible intro hb; cbv) | with_reducible refine And.intro ?_ ?_
    all_goals first | exact (st hb).o1 | exact (st hb).o2 | exact (st hb).o3 | exact (st hb).o4 | (rename_i hb0; exact (st hb0).o1) | (rename_i hb0; exact (st hb0).o2) | (rename_i hb0; exact (st hb0).o5) | (rename_i hb0; exact (st hb0).o6) | skip
    · rename_i hb0
      have hz := hg.none ((st hb0).bad hb)
      apply hret
      clear hexit hnext hret st en
      cbv
      refine hk _ _ (Good.pure rfl fun ρ => ?_)
      subst hT
      exact tupWt hz.1.symm hz.2.symm
    · rename_i hb0 hb1
      have hz := hg.none ((st hb0).over hb1 hb)
      apply hret
      clear hexit hnext hret st en
      cbv
      refine hk _ _ (Good.pure rfl fun ρ => ?_)
      subst hT
      exact tupWt hz.1.symm hz.2.symm
    · rename_i hb0 hb1
      refine hnext _ (i + 1, _) ((st hb0).nx hb1 hb) (st hb0).ms ?_
      have ead := (st hb0).ad hg.1
      subst hA2 hS
      exact ⟨⟨⟨rfl, rfl, leI ead⟩, ⟨rfl, rfl, fun _ => rfl⟩, ⟨rfl, rfl, fun _ => rfl⟩, ⟨rfl, rfl, fun _ => rfl⟩, ⟨rfl, rfl, fun _ => rfl⟩, ⟨rfl, rfl, fun _ => rfl⟩, ⟨rfl, rfl, fun _ => rfl⟩, trivial⟩, ⟨leRefl rfl, leRefl rfl, leRefl rfl, trivial⟩, rfl, rfl⟩
    · obtain ⟨n, e1, e2, e3⟩ := en hb
      have hz := hg.some e3
      have hneg := neg_ofZ n e2
      apply hexit
      clear hexit hnext hret st en
      cbv
      with_reducible refine And.intro ?_ ?_
      · intro hb
        cases hb
      · intro hb
        cbv
        refine hk _ _ (Good.pure rfl fun ρ => ?_)
        subst hT hS e1
        exact tupWt hz.1.symm hz.2.symm

def tN20 (A : Alg) (S : SW) (V : SV) (T : ST) : List (Nat × Sem') := (23, heapSem [.v] A (gParse T)) :: ((tN19 A S V T))
theorem tN20OK : COK Try.prog (look (tN20 stdA stdW stdV stdT)) := COK_cons ok_wparse (tN19OK)
end Go.Eng

/- Contract: what is known of whole numbers. -/
namespace Go.Eng
open Go.Proofs
set_option maxRecDepth 100000
set_option linter.all false
set_option exponentiation.threshold 3000
set_option maxHeartbeats 4000000

def gTrue1 : List CV → List Blk → Option LR
  | [], [] => some ⟨[], .c (.s (.bool true)), []⟩
  | _, _ => none

theorem ok_known1 : CallOK Try.prog 13 (heapSem [] stdA (gTrue1)) := by
  refine callOK_heap (un := ⟨false, some [0,1,2,3,4,5,6,7,8,9,10,11,12,13,14,15,16,17,18,19,20]⟩) tok tN20OK mixed (fn := Try.f13) (by kernel_rfl) (by kernel_rfl) (by kernel_rfl) (by decide +kernel) ?_
  intro w Wr args bs r hg ho hWr A L k hA hL hk
  obtain ⟨S, hS⟩ : ∃ S, S = stdW := ⟨_, rfl⟩
  obtain ⟨T, hT⟩ : ∃ T, T = stdT := ⟨_, rfl⟩
  obtain ⟨V, hV⟩ : ∃ V, V = stdV := ⟨_, rfl⟩
  (try rw [← hS])
  (try rw [← hT])
  (try rw [← hV])
  (try rw [← hA])
  unfold gTrue1 at hg
  split at hg
  rotate_left
  · cases hg
  simp only [Option.some.injEq] at hg
  subst hg
  refine runF_body rfl ?_
  with_reducible refine run_seq_cut fun kk hn hx => ?_
  cbv
  repeat' first | (with_reducible intro hb; cbv) | with_reducible refine And.intro ?_ ?_
  all_goals first | (with_reducible refine hn _ ?_; clear hn hx kk) | ((try subst hA); (try subst hS); (try subst hR); (try subst hX); (try subst hC); (try subst hV); (try subst hT); decide +kernel)
  with_reducible refine run_seq_cut fun kk hn hx => ?_
  cbv
  repeat' first | (with_reducible intro hb; cbv) | with_reducible refine And.intro ?_ ?_
  all_goals first | (with_reducible refine hn _ ?_; clear hn hx kk) | ((try subst hA); (try subst hS); (try subst hR); (try subst hX); (try subst hC); (try subst hV); (try subst hT); decide +kernel)
  with_reducible refine run_seq_cut fun kk hn hx => ?_
  cbv
  repeat' first | (with_reducible intro hb; cbv) | with_reducible refine And.intro ?_ ?_
  all_goals first | (with_reducible refine hn _ ?_; clear hn hx kk) | ((try subst hA); (try subst hS); (try subst hR); (try subst hX); (try subst hC); (try subst hV); (try subst hT); decide +kernel)
  with_reducible refine run_seq_cut fun kk hn hx => ?_
  cbv
  repeat' first | (with_reducible intro hb; cbv) | with_reducible refine And.intro ?_ ?_
  all_goals first | (with_reducible refine hn _ ?_; clear hn hx kk) | ((try subst hA); (try subst hS); (try subst hR); (try subst hX); (try subst hC); (try subst hV); (try subst hT); decide +kernel)
  with_reducible refine run_seq_cut fun kk hn hx => ?_
  cbv
  repeat' first | (with_reducible intro hb; cbv) | with_reducible refine And.intro ?_ ?_
  all_goals first | (with_reducible refine hn _ ?_; clear hn hx kk) | ((try subst hA); (try subst hS); (try subst hR); (try subst hX); (try subst hC); (try subst hV); (try subst hT); decide +kernel)
  with_reducible refine run_seq_cut fun kk hn hx => ?_
  cbv
  repeat' first | (with_reducible intro hb; cbv) | with_reducible refine And.intro ?_ ?_
  all_goals first | (with_reducible refine hn _ ?_; clear hn hx kk) | ((try subst hA); (try subst hS); (try subst hR); (try subst hX); (try subst hC); (try subst hV); (try subst hT); decide +kernel)
  with_reducible refine run_seq_cut fun kk hn hx => ?_
  cbv
  repeat' first | (with_reducible intro hb; cbv) | with_reducible refine And.intro ?_ ?_
  all_goals first | (with_reducible refine hn _ ?_; clear hn hx kk) | ((try subst hA); (try subst hS); (try subst hR); (try subst hX); (try subst hC); (try subst hV); (try subst hT); decide +kernel)
  with_reducible refine run_seq_cut fun kk hn hx => ?_
  cbv
  repeat' first | (with_reducible intro hb; cbv) | with_reducible refine And.intro ?_ ?_
  all_goals first | (with_reducible refine hn _ ?_; clear hn hx kk) | ((try subst hA); (try subst hS); (try subst hR); (try subst hX); (try subst hC); (try subst hV); (try subst hT); decide +kernel)
  with_reducible refine run_seq_cut fun kk hn hx => ?_
  cbv
  repeat' first | (with_reducible intro hb; cbv) | with_reducible refine And.intro ?_ ?_
  all_goals first | (with_reducible refine hn _ ?_; clear hn hx kk) | ((try subst hA); (try subst hS); (try subst hR); (try subst hX); (try subst hC); (try subst hV); (try subst hT); decide +kernel)
  with_reducible refine run_seq_cut fun kk hn hx => ?_
  cbv
  repeat' first | (with_reducible intro hb; cbv) | with_reducible refine And.intro ?_ ?_
  all_goals first | (with_reducible refine hn _ ?_; clear hn hx kk) | ((try subst hA); (try subst hS); (try subst hR); (try subst hX); (try subst hC); (try subst hV); (try subst hT); decide +kernel)
  with_reducible refine run_seq_cut fun kk hn hx => ?_
  with_reducible refine Dr_run (by decide +kernel) ?_
  with_reducible refine Dr_cut 20 fun P hP => ?_
  cbv
  with_reducible refine hP _ ?_
  clear hP P
  with_reducible refine Dr_cut 20 fun P hP => ?_
  cbv
  with_reducible refine hP _ ?_
  clear hP P
  with_reducible refine Dr_cut 20 fun P hP => ?_
  cbv
  with_reducible refine hP _ ?_
  clear hP P
  with_reducible refine Dr_cut 15 fun P hP => ?_
  cbv
  with_reducible refine hP _ ?_
  clear hP P
  with_reducible refine Dr_cut 10 fun P hP => ?_
  cbv
  with_reducible refine hP _ ?_
  clear hP P
  with_reducible refine Dr_cut 5 fun P hP => ?_
  cbv
  with_reducible refine hP _ ?_
  clear hP P
  with_reducible refine Dr_cut 3 fun P hP => ?_
  cbv
  with_reducible refine hP _ ?_
  clear hP P
  cbv
  repeat' with_reducible refine And.intro ?_ ?_
  all_goals first | (with_reducible refine hn _ ?_; clear hn hx kk) | ((try subst hA); (try subst hS); (try subst hR); (try subst hX); (try subst hC); (try subst hV); (try subst hT); decide +kernel)
  cbv
  refine hk _ _ (Good.pure rfl fun ρ => ?_)
  refine congrArg Value.bool ?_
  clear hk hL
  (try subst hA); (try subst hS); (try subst hR); (try subst hX); (try subst hC); (try subst hV); (try subst hT); decide +kernel

def tN21 (A : Alg) (S : SW) (V : SV) (T : ST) : List (Nat × Sem') := (13, heapSem [] A (gTrue1)) :: ((tN20 A S V T))
theorem tN21OK : COK Try.prog (look (tN21 stdA stdW stdV stdT)) := COK_cons ok_known1 (tN20OK)
end Go.Eng

