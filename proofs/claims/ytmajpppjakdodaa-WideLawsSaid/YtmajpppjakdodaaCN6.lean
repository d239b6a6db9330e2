/- Contracts: whole numbers, a window given back, a multiple taken from it. -/
import Derived.Test.YtmajpppjakdodaaCN5
import Derived.Test.YtmajpppjakdodaaSpecNA
namespace Go.Eng
open Go.Proofs
set_option maxRecDepth 100000
set_option linter.all false
set_option exponentiation.threshold 3000

structure WinOK (l v : List Int) (lo hi : Int) : Prop where
  lo0 : 0 ≤ lo
  loh : lo ≤ hi
  hl : hi ≤ l.length
  w : hi - lo = v.length + 1
  wl : W32 l
  wv : W32 v
  ln : (l.length : Int) ≤ 1000

theorem WinOK.of {l v : List Int} {lo hi : Int} {ob : List Bool} (h : ∀ b, b ∈ stdA.cmp .leq 0 lo :: stdA.cmp .leq lo hi :: stdA.cmp .leq hi (stdA.len l) :: stdA.cmp .eql (stdA.isub hi lo) (stdA.iadd (stdA.len v) 1) :: stdA.all32 l :: stdA.all32 v :: stdA.cmp .leq (stdA.len l) 1000 :: ob → b = true) : WinOK l v lo hi := by
  obtain ⟨h1, h⟩ := ho_cons h
  obtain ⟨h2, h⟩ := ho_cons h
  obtain ⟨h3, h⟩ := ho_cons h
  obtain ⟨h4, h⟩ := ho_cons h
  obtain ⟨h5, h⟩ := ho_cons h
  obtain ⟨h6, h⟩ := ho_cons h
  obtain ⟨h7, h⟩ := ho_cons h
  refine ⟨of_decide_eq_true h1, of_decide_eq_true h2, of_decide_eq_true h3, ?_, W32.all h5, W32.all h6, of_decide_eq_true h7⟩
  have h4 : (hi - lo == (v.length : Int) + 1) = true := h4
  simpa using h4

theorem WinOK.rest {a b c d e f g : Bool} {ob : List Bool} (h : ∀ x, x ∈ a :: b :: c :: d :: e :: f :: g :: ob → x = true) : ∀ x, x ∈ ob → x = true := fun x hx => h x (by simp [hx])

def GvI (l v : List Int) (lo i : Int) (M : List Int) (c : Int) : Prop :=
  0 ≤ i ∧ i ≤ v.length ∧ M = wst l lo.toNat ((lowV l lo.toNat i.toNat + lowV v 0 i.toNat) % 2 ^ (32 * i.toNat)) i.toNat ∧ c = (((lowV l lo.toNat i.toNat + lowV v 0 i.toNat) / 2 ^ (32 * i.toNat) : Nat) : Int)

theorem GvI.init (l v : List Int) (lo : Int) : GvI l v lo 0 l 0 := by
  refine ⟨Int.le_refl 0, Int.natCast_nonneg _, ?_, ?_⟩
  · exact (wst_zero _ _ _).symm
  · simp [lowV_zero]

/-- a sum's word: both cases *)-/
theorem gives_word {l v : List Int} {lo hi i c : Int} {M : List Int} (h : WinOK l v lo hi) (hI : GvI l v lo i M c) :
    M.length = l.length ∧ W32 M ∧ 0 ≤ c ∧ c ≤ 1 ∧ M.getD (lo + i).toNat 0 = l.getD (lo.toNat + i.toNat) 0 ∧
    ∀ y : Int, 0 ≤ y → y < 4294967296 → M.set (lo + i).toNat ((M.getD (lo + i).toNat 0 + y + c) % 4294967296) =
      wst l lo.toNat ((lowV l lo.toNat (i.toNat + 1) + (lowV v 0 i.toNat + 2 ^ (32 * i.toNat) * y.toNat)) % 2 ^ (32 * (i.toNat + 1))) (i.toNat + 1) ∧
      (M.getD (lo + i).toNat 0 + y + c) / 4294967296 = (((lowV l lo.toNat (i.toNat + 1) + (lowV v 0 i.toNat + 2 ^ (32 * i.toNat) * y.toNat)) / 2 ^ (32 * (i.toNat + 1)) : Nat) : Int) := by
  obtain ⟨lo0, loh, hl, hw, wl, wv, ln⟩ := h
  obtain ⟨i0, i1, hM, hc⟩ := hI
  have hP := Nat.two_pow_pos (32 * i.toNat)
  have hlt : lo.toNat + i.toNat < l.length := by omega
  have ht : (lo + i).toNat = lo.toNat + i.toNat := by omega
  have hcl := carry_le (lowV l lo.toNat i.toNat) (lowV v 0 i.toNat) _ hP
  rw [Nat.mod_eq_of_lt (lowV_lt wl _ _), Nat.mod_eq_of_lt (lowV_lt wv _ _)] at hcl
  have hx := wl.getD (lo.toNat + i.toNat)
  have hget : M.getD (lo + i).toNat 0 = l.getD (lo.toNat + i.toNat) 0 := by rw [hM, ht]; exact wst_get _ _ _ _ hlt
  refine ⟨by rw [hM]; exact wst_len _ _ _ _ (by omega), by rw [hM]; exact wst_W32 wl _ _ _, by rw [hc]; exact Int.natCast_nonneg _, by rw [hc]; exact_mod_cast hcl, hget, fun y y0 y1 => ?_⟩
  rw [hget, lowV_succ l _ _ hlt]
  generalize l.getD (lo.toNat + i.toNat) 0 = x at *
  obtain ⟨s1, s2⟩ := sum_word (lowV l lo.toNat i.toNat) (lowV v 0 i.toNat) _ i.toNat _ x.toNat y.toNat rfl rfl
  have hcn : c.toNat = (lowV l lo.toNat i.toNat + lowV v 0 i.toNat) / 2 ^ (32 * i.toNat) := by rw [hc]; exact Int.toNat_natCast _
  rw [← hcn] at s1 s2
  have hc0 : 0 ≤ c := by rw [hc]; exact Int.natCast_nonneg _
  rw [← s1, ← s2]
  have e : (x + y + c) % 4294967296 = (((x.toNat + y.toNat + c.toNat) % 4294967296 : Nat) : Int) := by omega
  refine ⟨?_, by omega⟩
  rw [e, hM, ht]
  exact wst_set _ _ _ _ _ hlt (Nat.mod_lt _ hP) (Nat.mod_lt _ (by decide))

structure GivesStep (A : Alg) (V : SV) (l v : List Int) (lo hi i : Int) (M : List Int) (c : Int) : Prop where
  o1 : A.cmp .leq 0 lo = true
  o2 : A.cmp .leq hi (A.len M) = true
  o3 : A.cmp .lss (A.iadd lo i) hi = true
  o4 : A.cmp .leq 0 (A.iadd lo i) = true
  o5 : A.cmp .lss (A.iadd lo i) (A.len M) = true
  o6 : A.cmp .leq 0 (A.get M (A.iadd lo i) 0) = true
  o7 : A.cmp .lss (A.get M (A.iadd lo i) 0) 4294967296 = true
  o8 : A.cmp .leq 0 (A.get v i 0) = true
  o9 : A.cmp .lss (A.get v i 0) 4294967296 = true
  o10 : A.cmp .leq 0 c = true
  o11 : A.cmp .leq c 1 = true
  nx : GvI l v lo (i + 1) (A.set M (A.iadd lo i) (V.adds (A.get M (A.iadd lo i) 0) (A.get v i 0) c)) (V.addc (A.get M (A.iadd lo i) 0) (A.get v i 0) c)
  ad : A.bin .add .i64 i 1 = i + 1
  ms : ((v.length : Int) - (i + 1)).toNat < ((v.length : Int) - i).toNat

theorem gives_step {l v : List Int} {lo hi i c : Int} {M : List Int} (h : WinOK l v lo hi) (hI : GvI l v lo i M c) (A : Alg) (hA : A = stdA) (V : SV) (hV : V = stdV) (hb : A.cmp .lss i (A.len v) = true) : GivesStep A V l v lo hi i M c := by
  subst hA hV
  obtain ⟨g1, g2, g3, g4, g5, g6⟩ := gives_word h hI
  have hb : i < (v.length : Int) := of_decide_eq_true hb
  obtain ⟨i0, i1, hM, hc⟩ := hI
  obtain ⟨lo0, loh, hl, hw, wl, wv, ln⟩ := h
  have hm := g2.getD (lo + i).toNat
  have hy := wv.getD i.toNat
  obtain ⟨n1, n2⟩ := g6 (v.getD i.toNat 0) hy.1 hy.2
  have hv1 := lowV_succ v 0 i.toNat (by omega)
  rw [Nat.zero_add] at hv1
  rw [← hv1] at n1 n2
  have hi1 : (i + 1).toNat = i.toNat + 1 := by omega
  have hiL : i < 1000 := by omega
  have hml : stdA.len M = (l.length : Int) := by show (M.length : Int) = _; rw [g1]
  exact {
    o1 := decide_eq_true lo0
    o2 := by rw [hml]; exact decide_eq_true hl
    o3 := decide_eq_true (show lo + i < hi by omega)
    o4 := decide_eq_true (show 0 ≤ lo + i by omega)
    o5 := by rw [hml]; exact decide_eq_true (show lo + i < (l.length : Int) by omega)
    o6 := decide_eq_true hm.1
    o7 := decide_eq_true hm.2
    o8 := decide_eq_true hy.1
    o9 := decide_eq_true hy.2
    o10 := decide_eq_true g3
    o11 := decide_eq_true g4
    nx := by
      refine ⟨by omega, by omega, ?_, ?_⟩
      · rw [hi1]; exact n1
      · rw [hi1]; exact n2
    ad := by show stdBin .add .i64 i 1 = i + 1; simp only [stdBin, IntKind.wrap_i64]; omega
    ms := by omega }

structure GivesEnd (A : Alg) (V : SV) (l v : List Int) (lo hi : Int) (M : List Int) (c : Int) : Prop where
  o1 : A.cmp .leq 0 lo = true
  o2 : A.cmp .leq hi (A.len M) = true
  o3 : A.cmp .lss (A.iadd lo (A.len v)) hi = true
  o4 : A.cmp .leq 0 (A.iadd lo (A.len v)) = true
  o5 : A.cmp .lss (A.iadd lo (A.len v)) (A.len M) = true
  o6 : A.cmp .leq 0 (A.len v) = true
  res : A.set M (A.iadd lo (A.len v)) (A.bin .add .u32 (A.get M (A.iadd lo (A.len v)) 0) c) = V.givesL l lo hi v

theorem gives_end {l v : List Int} {lo hi i c : Int} {M : List Int} (h : WinOK l v lo hi) (hI : GvI l v lo i M c) (A : Alg) (hA : A = stdA) (V : SV) (hV : V = stdV) (hb : A.cmp .lss i (A.len v) = false) : GivesEnd A V l v lo hi M c := by
  subst hA hV
  have hb : ¬ i < (v.length : Int) := of_decide_eq_false hb
  have hi : i = v.length := by have := hI.2.1; omega
  subst hi
  obtain ⟨g1, g2, g3, g4, g5, g6⟩ := gives_word h hI
  obtain ⟨lo0, loh, hl, hw, wl, wv, ln⟩ := h
  have hm := g2.getD (lo + (v.length : Int)).toNat
  obtain ⟨n1, -⟩ := g6 0 (Int.le_refl 0) (by decide)
  rw [Int.toNat_natCast, lowV_all] at n1
  have hml : stdA.len M = (l.length : Int) := by show (M.length : Int) = _; rw [g1]
  exact {
    o1 := decide_eq_true lo0
    o2 := by rw [hml]; exact decide_eq_true hl
    o3 := decide_eq_true (show lo + (v.length : Int) < hi by omega)
    o4 := decide_eq_true (show 0 ≤ lo + (v.length : Int) by omega)
    o5 := by rw [hml]; exact decide_eq_true (show lo + (v.length : Int) < (l.length : Int) by omega)
    o6 := decide_eq_true (show 0 ≤ (v.length : Int) by omega)
    res := by
      have e1 : stdA.bin .add .u32 (stdA.get M (stdA.iadd lo (stdA.len v)) 0) c = (M.getD (lo + (v.length : Int)).toNat 0 + 0 + c) % 4294967296 := by
        show IntKind.u32.wrap (M.getD (lo + (v.length : Int)).toNat 0 + c) = _
        rw [IntKind.wrap_u32, Int.add_zero]
      rw [e1]
      refine n1.trans ?_
      have hh : v.length + 1 = hi.toNat - lo.toNat := by omega
      show wst l lo.toNat _ (v.length + 1) = winS l lo.toNat hi.toNat (digL ((winV l lo.toNat hi.toNat + valL v) % 2 ^ (32 * (v.length + 1))) (v.length + 1))
      rw [hh, wst_full _ _ _ _ (by omega), lowV_win]
      simp only [Int.toNat_zero, Nat.mul_zero, Nat.add_zero] }

def gGives (A : Alg) (V : SV) : List CV → List Blk → Option LW
  | [.s (.hw 0 1 lo hi), .s (.hs 1)], [.vec true (.int .u32) l, .vec false (.int .u32) v] => some ⟨[A.cmp .leq 0 lo, A.cmp .leq lo hi, A.cmp .leq hi (A.len l), A.cmp .eql (A.isub hi lo) (A.iadd (A.len v) 1), A.all32 l, A.all32 v, A.cmp .leq (A.len l) 1000], .t [], [], [.vec true (.int .u32) (V.givesL l lo hi v)]⟩
  | _, _ => none

theorem ok_gives : CallOK Try.prog 94 (heapSemW [.sw (.int .u32), .s (.int .u32)] stdA (gGives stdA stdV)) := by
  refine callOK_heapW (un := ⟨false, none⟩) tok tN9OK mixed (fn := Try.f94) (by kernel_rfl) (by kernel_rfl) (by kernel_rfl) (by decide +kernel) ?_
  intro w Wr args bs r hg ho hWr A L k hA hL hk
  obtain ⟨S, hS⟩ : ∃ S, S = stdW := ⟨_, rfl⟩
  obtain ⟨V, hV⟩ : ∃ V, V = stdV := ⟨_, rfl⟩
  (try rw [← hS])
  (try rw [← hV])
  (try rw [← hA])
  unfold gGives at hg
  split at hg
  rotate_left
  · cases hg
  simp only [Option.some.injEq] at hg
  subst hg
  rename_i lo hi l v
  have hw := WinOK.of ho
  clear ho
  have init := GvI.init l v lo
  cbv
  refine hL _ _ _ (loop_rule (un := ⟨false, none⟩) tok tN9OK mixed (fun p : Int × List Int × Int => ⟨[(9, ⟨[], .c (.s (.int .i64 p.1))⟩), (4, ⟨[], .c (.s (.int .u32 p.2.2))⟩), (7, ⟨[], .c (.s (.hs 1))⟩), (8, ⟨[], .c (.s (.int .i64 (stdA.len v)))⟩), (0, ⟨[], .c (.s (.hw 0 1 lo hi))⟩), (1, ⟨[], .c (.s (.hs 1))⟩)], [(0, .vec true (.int .u32) p.2.1), (1, .vec false (.int .u32) v)], 2⟩)
    (fun p => GvI l v lo p.1 p.2.1 p.2.2) (fun p => ((v.length : Int) - p.1).toNat) (0, l, 0) init ?_ (fun _ i hi => by have := hWr i hi; simp at this ⊢; omega) ?_)
  · exact ⟨⟨⟨rfl, rfl, fun _ => rfl⟩, ⟨rfl, rfl, fun _ => rfl⟩, ⟨rfl, rfl, fun _ => rfl⟩, ⟨rfl, rfl, leI (by subst hA; rfl)⟩, ⟨rfl, rfl, fun _ => rfl⟩, ⟨rfl, rfl, fun _ => rfl⟩, trivial⟩, ⟨leRefl rfl, leRefl rfl, trivial⟩, rfl, rfl⟩
  clear init
  rintro ⟨i, M, c⟩ hI A2 L2 k2 hA2 hL2 hnext hexit hret
  have o0 : A2.cmp .leq 0 i = true := by subst hA2; exact decide_eq_true hI.1
  have st := gives_step hw hI A2 hA2 V hV
  have en := gives_end hw hI A2 hA2 V hV
  rw [← hA2, ← hS, ← hV]
  cbv
  repeat' first | (with_reducible intro hb; cbv) | with_reducible refine And.intro ?_ ?_
  all_goals first | exact o0 | exact hb | exact (st hb).o1 | exact (st hb).o2 | exact (st hb).o3 | exact (st hb).o4 | exact (st hb).o5 | exact (st hb).o6 | exact (st hb).o7 | exact (st hb).o8 | exact (st hb).o9 | exact (st hb).o10 | exact (st hb).o11 | skip
  · exact hnext _ (i + 1, _, _) (st hb).nx (st hb).ms ⟨⟨⟨rfl, rfl, leI (st hb).ad⟩, ⟨rfl, rfl, fun _ => rfl⟩, ⟨rfl, rfl, fun _ => rfl⟩, ⟨rfl, rfl, leI (by subst hA2; rfl)⟩, ⟨rfl, rfl, fun _ => rfl⟩, ⟨rfl, rfl, fun _ => rfl⟩, trivial⟩, ⟨leV rfl, leRefl rfl, trivial⟩, rfl, rfl⟩
  · apply hexit
    have en := en hb
    have eA : A2 = A := hA2.trans hA.symm
    rw [eA] at en
    clear hexit hnext hret st
    cbv
    repeat' first | (with_reducible intro hb; cbv) | with_reducible refine And.intro ?_ ?_
    all_goals first | exact en.o1 | exact en.o2 | exact en.o3 | exact en.o4 | exact en.o5 | exact en.o6 | skip
    refine hk _ _ (GoodW.one (t := 0) rfl (fun ρ => rfl) rfl rfl rfl (leV ?_))
    subst hV
    exact en.res

def tN10 (A : Alg) (S : SW) (V : SV) : List (Nat × Sem') := (94, heapSemW [.sw (.int .u32), .s (.int .u32)] A (gGives A V)) :: ((tN9 A S V))
theorem tN10OK : COK Try.prog (look (tN10 stdA stdW stdV)) := COK_cons ok_gives (tN9OK)

/-- what the loop of takes keeps -/
def TkP (l : List Int) (lo S P i : Nat) (M : List Int) (cu bo : Int) : Prop :=
  ∃ D : Nat, M = wst l lo D i ∧ D < 2 ^ (32 * i) ∧ (D : Int) = S - (P % 2 ^ (32 * i) : Nat) + (2 ^ (32 * i) : Nat) * bo ∧ cu = ((P / 2 ^ (32 * i) : Nat) : Int) ∧ 0 ≤ bo ∧ bo ≤ 1

def TkI (l v : List Int) (lo q i : Int) (M : List Int) (cu bo : Int) : Prop :=
  0 ≤ i ∧ i ≤ v.length ∧ TkP l lo.toNat (lowV l lo.toNat i.toNat) (q.toNat * lowV v 0 i.toNat) i.toNat M cu bo

theorem TkI.init (l v : List Int) (lo q : Int) : TkI l v lo q 0 l 0 0 := by
  refine ⟨Int.le_refl 0, Int.natCast_nonneg _, 0, (wst_zero _ _ _).symm, Nat.two_pow_pos _, ?_, ?_, by decide, by decide⟩
  · simp [lowV_zero]
  · simp [lowV_zero]

theorem takes_word {l v : List Int} {lo hi i q cu bo : Int} {M : List Int} (h : WinOK l v lo hi) (hq0 : 0 ≤ q) (hq1 : q ≤ 4294967295) (hI : TkI l v lo q i M cu bo) :
    M.length = l.length ∧ W32 M ∧ 0 ≤ bo ∧ bo ≤ 1 ∧ 0 ≤ cu ∧ cu ≤ q ∧
    ∀ y w s : Int, 0 ≤ y → y < 4294967296 → w = q * y + cu → s = M.getD (lo + i).toNat 0 - w % 4294967296 - bo → 0 ≤ w ∧ w < 18446744073709551616 ∧
      TkP l lo.toNat (lowV l lo.toNat (i.toNat + 1)) (q.toNat * (lowV v 0 i.toNat + 2 ^ (32 * i.toNat) * y.toNat)) (i.toNat + 1) (M.set (lo + i).toNat (s % 4294967296)) (w / 4294967296) (if s < 0 then 1 else 0) := by
  obtain ⟨lo0, loh, hl, hw, wl, wv, ln⟩ := h
  obtain ⟨i0, i1, D, hM, hD, hDe, hcu, hb0, hb1⟩ := hI
  have hP := Nat.two_pow_pos (32 * i.toNat)
  have hlt : lo.toNat + i.toNat < l.length := by omega
  have ht : (lo + i).toNat = lo.toNat + i.toNat := by omega
  have hx := wl.getD (lo.toNat + i.toNat)
  have hget : M.getD (lo + i).toNat 0 = l.getD (lo.toNat + i.toNat) 0 := by rw [hM, ht]; exact wst_get _ _ _ _ hlt
  have hc0 : 0 ≤ cu := by rw [hcu]; exact Int.natCast_nonneg _
  have hcq : cu ≤ q := by
    have h1 : q.toNat * lowV v 0 i.toNat / 2 ^ (32 * i.toNat) ≤ q.toNat := by
      have := Nat.mul_le_mul_left q.toNat (Nat.le_of_lt (lowV_lt wv 0 i.toNat))
      exact Nat.div_le_of_le_mul (by rw [Nat.mul_comm (2 ^ (32 * i.toNat))]; exact this)
    rw [hcu]; omega
  refine ⟨by rw [hM]; exact wst_len _ _ _ _ (by omega), by rw [hM]; exact wst_W32 wl _ _ _, hb0, hb1, hc0, hcq, fun y w s y0 y1 hw' hs => ?_⟩
  rw [hget] at hs
  rw [lowV_succ l _ _ hlt]
  generalize l.getD (lo.toNat + i.toNat) 0 = x at *
  have hcn : cu.toNat = q.toNat * lowV v 0 i.toNat / 2 ^ (32 * i.toNat) := by rw [hcu]; exact Int.toNat_natCast _
  have ewn : w = ((q.toNat * y.toNat + cu.toNat : Nat) : Int) := by
    rw [hw', Int.natCast_add, Int.natCast_mul, Int.toNat_of_nonneg hq0, Int.toNat_of_nonneg y0, Int.toNat_of_nonneg hc0]
  have hwl : w < 18446744073709551616 := by
    have h1 : q * y ≤ q * 4294967295 := Int.mul_le_mul_of_nonneg_left (by omega) hq0
    omega
  have es : s = (x.toNat : Int) - ((q.toNat * y.toNat + cu.toNat) % 4294967296 : Nat) - bo := by rw [hs, ewn]; omega
  obtain ⟨d1, d2, d3⟩ := dif_word (lowV l lo.toNat i.toNat) (q.toNat * lowV v 0 i.toNat) D i.toNat cu.toNat x.toNat y.toNat q.toNat bo hb0 hb1 (by omega) hD hDe hcn s es
  refine ⟨by rw [ewn]; exact Int.natCast_nonneg _, hwl, D + 2 ^ (32 * i.toNat) * (s % 4294967296).toNat, ?_, d2, ?_, ?_, by split <;> decide, by split <;> decide⟩
  · rw [hM, ht]
    have := wst_set l lo.toNat D i.toNat (s % 4294967296).toNat hlt hD (by omega)
    rw [← this]
    congr 1
    omega
  · rw [Nat.mul_add, ← Nat.mul_assoc, Nat.mul_comm q.toNat (2 ^ (32 * i.toNat)), Nat.mul_assoc]; exact d1
  · rw [Nat.mul_add, ← Nat.mul_assoc, Nat.mul_comm q.toNat (2 ^ (32 * i.toNat)), Nat.mul_assoc, ← d3, ewn]
    omega

structure TakesStep (A : Alg) (V : SV) (l v : List Int) (lo hi q i : Int) (M : List Int) (cu bo : Int) : Prop where
  o1 : A.cmp .leq 0 lo = true
  o2 : A.cmp .leq hi (A.len M) = true
  o3 : A.cmp .lss (A.iadd lo i) hi = true
  o4 : A.cmp .leq 0 (A.iadd lo i) = true
  o5 : A.cmp .lss (A.iadd lo i) (A.len M) = true
  o6 : A.cmp .leq 0 (A.get M (A.iadd lo i) 0) = true
  o7 : A.cmp .lss (A.get M (A.iadd lo i) 0) 4294967296 = true
  o8 : A.cmp .leq 0 (A.wrap .u32 (A.bin .and .u64 (A.bin .add .u64 (A.bin .mul .u64 q (A.wrap .u64 (A.get v i 0))) cu) 4294967295)) = true
  o9 : A.cmp .lss (A.wrap .u32 (A.bin .and .u64 (A.bin .add .u64 (A.bin .mul .u64 q (A.wrap .u64 (A.get v i 0))) cu) 4294967295)) 4294967296 = true
  o10 : A.cmp .leq 0 bo = true
  o11 : A.cmp .leq bo 1 = true
  nx : TkI l v lo q (i + 1) (A.set M (A.iadd lo i) (V.subs (A.get M (A.iadd lo i) 0) (A.wrap .u32 (A.bin .and .u64 (A.bin .add .u64 (A.bin .mul .u64 q (A.wrap .u64 (A.get v i 0))) cu) 4294967295)) bo)) (A.bin .shr .u64 (A.bin .add .u64 (A.bin .mul .u64 q (A.wrap .u64 (A.get v i 0))) cu) 32) (V.subc (A.get M (A.iadd lo i) 0) (A.wrap .u32 (A.bin .and .u64 (A.bin .add .u64 (A.bin .mul .u64 q (A.wrap .u64 (A.get v i 0))) cu) 4294967295)) bo)
  ad : A.bin .add .i64 i 1 = i + 1
  ms : ((v.length : Int) - (i + 1)).toNat < ((v.length : Int) - i).toNat

theorem takes_step {l v : List Int} {lo hi i q cu bo : Int} {M : List Int} (h : WinOK l v lo hi) (hq0 : 0 ≤ q) (hq1 : q ≤ 4294967295) (hI : TkI l v lo q i M cu bo) (A : Alg) (hA : A = stdA) (V : SV) (hV : V = stdV) (hb : A.cmp .lss i (A.len v) = true) : TakesStep A V l v lo hi q i M cu bo := by
  subst hA hV
  obtain ⟨g1, g2, g3, g4, g5, g6, g7⟩ := takes_word h hq0 hq1 hI
  have hb : i < (v.length : Int) := of_decide_eq_true hb
  obtain ⟨i0, i1, -⟩ := hI
  obtain ⟨lo0, loh, hl, hw, wl, wv, ln⟩ := h
  have hm := g2.getD (lo + i).toNat
  have hy := wv.getD i.toNat
  obtain ⟨n1, n2, n3⟩ := g7 (v.getD i.toNat 0) _ _ hy.1 hy.2 rfl rfl
  have hv1 := lowV_succ v 0 i.toNat (by omega)
  rw [Nat.zero_add] at hv1
  rw [← hv1] at n3
  have hi1 : (i + 1).toNat = i.toNat + 1 := by omega
  have hml : stdA.len M = (l.length : Int) := by show (M.length : Int) = _; rw [g1]
  have ew : stdA.bin .add .u64 (stdA.bin .mul .u64 q (stdA.wrap .u64 (stdA.get v i 0))) cu = q * v.getD i.toNat 0 + cu := by
    have hm0 : 0 ≤ q * v.getD i.toNat 0 := Int.mul_nonneg hq0 hy.1
    show IntKind.u64.wrap (IntKind.u64.wrap (q * IntKind.u64.wrap (v.getD i.toNat 0)) + cu) = _
    rw [u64_id _ hy.1 (by omega), u64_id _ hm0 (by omega), u64_id _ n1 n2]
  have el : stdA.wrap .u32 (stdA.bin .and .u64 (stdA.bin .add .u64 (stdA.bin .mul .u64 q (stdA.wrap .u64 (stdA.get v i 0))) cu) 4294967295) = (q * v.getD i.toNat 0 + cu) % 4294967296 := by
    rw [ew]; exact low_word _ n1 n2
  have eh : stdA.bin .shr .u64 (stdA.bin .add .u64 (stdA.bin .mul .u64 q (stdA.wrap .u64 (stdA.get v i 0))) cu) 32 = (q * v.getD i.toNat 0 + cu) / 4294967296 := by
    rw [ew]; exact u64_high _ n1
  exact {
    o1 := decide_eq_true lo0
    o2 := by rw [hml]; exact decide_eq_true hl
    o3 := decide_eq_true (show lo + i < hi by omega)
    o4 := decide_eq_true (show 0 ≤ lo + i by omega)
    o5 := by rw [hml]; exact decide_eq_true (show lo + i < (l.length : Int) by omega)
    o6 := decide_eq_true hm.1
    o7 := decide_eq_true hm.2
    o8 := by rw [el]; exact decide_eq_true (show 0 ≤ (q * v.getD i.toNat 0 + cu) % 4294967296 by omega)
    o9 := by rw [el]; exact decide_eq_true (show (q * v.getD i.toNat 0 + cu) % 4294967296 < 4294967296 by omega)
    o10 := decide_eq_true g3
    o11 := decide_eq_true g4
    nx := by
      rw [el, eh]
      refine ⟨by omega, by omega, ?_⟩
      rw [hi1]; exact n3
    ad := by show stdBin .add .i64 i 1 = i + 1; simp only [stdBin, IntKind.wrap_i64]; omega
    ms := by omega }

structure TakesEnd (A : Alg) (V : SV) (l v : List Int) (lo hi q : Int) (M : List Int) (cu bo : Int) : Prop where
  o1 : A.cmp .leq 0 lo = true
  o2 : A.cmp .leq hi (A.len M) = true
  o3 : A.cmp .lss (A.iadd lo (A.len v)) hi = true
  o4 : A.cmp .leq 0 (A.iadd lo (A.len v)) = true
  o5 : A.cmp .lss (A.iadd lo (A.len v)) (A.len M) = true
  o6 : A.cmp .leq 0 (A.len v) = true
  o7 : A.cmp .leq 0 (A.get M (A.iadd lo (A.len v)) 0) = true
  o8 : A.cmp .lss (A.get M (A.iadd lo (A.len v)) 0) 4294967296 = true
  o9 : A.cmp .leq 0 (A.wrap .u32 cu) = true
  o10 : A.cmp .lss (A.wrap .u32 cu) 4294967296 = true
  o11 : A.cmp .leq 0 bo = true
  o12 : A.cmp .leq bo 1 = true
  res : A.set M (A.iadd lo (A.len v)) (V.subs (A.get M (A.iadd lo (A.len v)) 0) (A.wrap .u32 cu) bo) = V.takesL l lo hi v q
  resB : A.cmp .eql (V.subc (A.get M (A.iadd lo (A.len v)) 0) (A.wrap .u32 cu) bo) 0 = V.takesB l lo hi v q

theorem takes_end {l v : List Int} {lo hi i q cu bo : Int} {M : List Int} (h : WinOK l v lo hi) (hq0 : 0 ≤ q) (hq1 : q ≤ 4294967295) (hI : TkI l v lo q i M cu bo) (A : Alg) (hA : A = stdA) (V : SV) (hV : V = stdV) (hb : A.cmp .lss i (A.len v) = false) : TakesEnd A V l v lo hi q M cu bo := by
  subst hA hV
  have hb : ¬ i < (v.length : Int) := of_decide_eq_false hb
  have hi : i = v.length := by have := hI.2.1; omega
  subst hi
  obtain ⟨g1, g2, g3, g4, g5, g6, g7⟩ := takes_word h hq0 hq1 hI
  obtain ⟨lo0, loh, hl, hw, wl, wv, ln⟩ := h
  have hm := g2.getD (lo + (v.length : Int)).toNat
  obtain ⟨-, -, n3⟩ := g7 0 cu _ (Int.le_refl 0) (by decide) (by rw [Int.mul_zero, Int.zero_add]) rfl
  rw [Int.toNat_natCast, lowV_all] at n3
  simp only [Int.toNat_zero, Nat.mul_zero, Nat.add_zero] at n3
  have hml : stdA.len M = (l.length : Int) := by show (M.length : Int) = _; rw [g1]
  have el : stdA.wrap .u32 cu = cu % 4294967296 := IntKind.wrap_u32 cu
  have hh : v.length + 1 = hi.toNat - lo.toNat := by omega
  have hWlt : winV l lo.toNat hi.toNat < 2 ^ (32 * (v.length + 1)) := by rw [hh, ← lowV_win]; exact lowV_lt wl _ _
  have hPlt : q.toNat * valL v < 2 ^ (32 * (v.length + 1)) := by
    have h1 := valL_lt wv
    rw [pow_step]
    calc q.toNat * valL v ≤ 4294967295 * valL v := Nat.mul_le_mul_right _ (by omega)
      _ < 2 ^ (32 * v.length) * 2 ^ 32 := by generalize 2 ^ (32 * v.length) = P at h1 ⊢; omega
  obtain ⟨D, hM', hD, hDe, -, b0, b1⟩ := n3
  rw [hh] at hDe
  rw [lowV_win, ← hh, Nat.mod_eq_of_lt hPlt] at hDe
  exact {
    o1 := decide_eq_true lo0
    o2 := by rw [hml]; exact decide_eq_true hl
    o3 := decide_eq_true (show lo + (v.length : Int) < hi by omega)
    o4 := decide_eq_true (show 0 ≤ lo + (v.length : Int) by omega)
    o5 := by rw [hml]; exact decide_eq_true (show lo + (v.length : Int) < (l.length : Int) by omega)
    o6 := decide_eq_true (show 0 ≤ (v.length : Int) by omega)
    o7 := decide_eq_true hm.1
    o8 := decide_eq_true hm.2
    o9 := by rw [el]; exact decide_eq_true (show 0 ≤ cu % 4294967296 by omega)
    o10 := by rw [el]; exact decide_eq_true (show cu % 4294967296 < 4294967296 by omega)
    o11 := decide_eq_true g3
    o12 := decide_eq_true g4
    res := by
      rw [el]
      refine hM'.trans ?_
      show wst l lo.toNat D (v.length + 1) = winS l lo.toNat hi.toNat (digL ((2 ^ (32 * (v.length + 1)) * 2 ^ 64 + winV l lo.toNat hi.toNat - q.toNat * valL v) % 2 ^ (32 * (v.length + 1))) (v.length + 1))
      rw [hh, wst_full _ _ _ _ (by omega), ← hh]
      congr 2
      generalize (if M.getD (lo + (v.length : Int)).toNat 0 - cu % 4294967296 - bo < 0 then (1 : Int) else 0) = z at *
      generalize winV l lo.toNat hi.toNat = W at *
      generalize q.toNat * valL v = P at *
      generalize (2 : Nat) ^ (32 * (v.length + 1)) = B at *
      have hz : z = 0 ∨ z = 1 := by omega
      rcases hz with rfl | rfl
      · rw [show B * 2 ^ 64 + W - P = D + B * 2 ^ 64 by omega, Nat.add_mul_mod_self_left, Nat.mod_eq_of_lt hD]
      · rw [show B * 2 ^ 64 + W - P = D + B * (2 ^ 64 - 1) by omega, Nat.add_mul_mod_self_left, Nat.mod_eq_of_lt hD]
    resB := by
      rw [el]
      show ((if M.getD (lo + (v.length : Int)).toNat 0 - cu % 4294967296 - bo < 0 then (1 : Int) else 0) == 0) = decide (q.toNat * valL v ≤ winV l lo.toNat hi.toNat)
      generalize (if M.getD (lo + (v.length : Int)).toNat 0 - cu % 4294967296 - bo < 0 then (1 : Int) else 0) = z at *
      generalize winV l lo.toNat hi.toNat = W at *
      generalize q.toNat * valL v = P at *
      generalize (2 : Nat) ^ (32 * (v.length + 1)) = B at *
      have hz : z = 0 ∨ z = 1 := by omega
      rcases hz with rfl | rfl
      · have : P ≤ W := by omega
        simp [this]
      · have : ¬ P ≤ W := by omega
        simp [this] }

def gTakes (A : Alg) (V : SV) : List CV → List Blk → Option LW
  | [.s (.hw 0 1 lo hi), .s (.hs 1), .s (.int .u64 q)], [.vec true (.int .u32) l, .vec false (.int .u32) v] => some ⟨[A.cmp .leq 0 lo, A.cmp .leq lo hi, A.cmp .leq hi (A.len l), A.cmp .eql (A.isub hi lo) (A.iadd (A.len v) 1), A.all32 l, A.all32 v, A.cmp .leq (A.len l) 1000, A.cmp .leq 0 q, A.cmp .leq q 4294967295], .c (.s (.bool (V.takesB l lo hi v q))), [], [.vec true (.int .u32) (V.takesL l lo hi v q)]⟩
  | _, _ => none

theorem ok_takes : CallOK Try.prog 93 (heapSemW [.sw (.int .u32), .s (.int .u32), .v] stdA (gTakes stdA stdV)) := by
  refine callOK_heapW (un := ⟨false, none⟩) tok tN10OK mixed (fn := Try.f93) (by kernel_rfl) (by kernel_rfl) (by kernel_rfl) (by decide +kernel) ?_
  intro w Wr args bs r hg ho hWr A L k hA hL hk
  obtain ⟨S, hS⟩ : ∃ S, S = stdW := ⟨_, rfl⟩
  obtain ⟨V, hV⟩ : ∃ V, V = stdV := ⟨_, rfl⟩
  (try rw [← hS])
  (try rw [← hV])
  (try rw [← hA])
  unfold gTakes at hg
  split at hg
  rotate_left
  · cases hg
  simp only [Option.some.injEq] at hg
  subst hg
  rename_i lo hi q l v
  have hw := WinOK.of ho
  have hr := WinOK.rest ho
  have hq0 : 0 ≤ q := of_decide_eq_true (ho_cons hr).1
  have hq1 : q ≤ 4294967295 := of_decide_eq_true (ho_cons (ho_cons hr).2).1
  clear hr
  clear ho
  have init := TkI.init l v lo q
  cbv
  refine hL _ _ _ (loop_rule (un := ⟨false, none⟩) tok tN10OK mixed (fun p : Int × List Int × Int × Int => ⟨[(14, ⟨[], .c (.s (.int .i64 p.1))⟩), (7, ⟨[], .c (.s (.int .u64 p.2.2.1))⟩), (8, ⟨[], .c (.s (.int .u32 p.2.2.2))⟩), (12, ⟨[], .c (.s (.hs 1))⟩), (13, ⟨[], .c (.s (.int .i64 (stdA.len v)))⟩), (0, ⟨[], .c (.s (.hw 0 1 lo hi))⟩), (1, ⟨[], .c (.s (.hs 1))⟩), (2, ⟨[], .c (.s (.int .u64 q))⟩)], [(0, .vec true (.int .u32) p.2.1), (1, .vec false (.int .u32) v)], 2⟩)
    (fun p => TkI l v lo q p.1 p.2.1 p.2.2.1 p.2.2.2) (fun p => ((v.length : Int) - p.1).toNat) (0, l, 0, 0) init ?_ (fun _ i hi => by have := hWr i hi; simp at this ⊢; omega) ?_)
  · exact ⟨⟨⟨rfl, rfl, fun _ => rfl⟩, ⟨rfl, rfl, fun _ => rfl⟩, ⟨rfl, rfl, fun _ => rfl⟩, ⟨rfl, rfl, fun _ => rfl⟩, ⟨rfl, rfl, leI (by subst hA; rfl)⟩, ⟨rfl, rfl, fun _ => rfl⟩, ⟨rfl, rfl, fun _ => rfl⟩, ⟨rfl, rfl, fun _ => rfl⟩, trivial⟩, ⟨leRefl rfl, leRefl rfl, trivial⟩, rfl, rfl⟩
  clear init
  rintro ⟨i, M, cu, bo⟩ hI A2 L2 k2 hA2 hL2 hnext hexit hret
  have o0 : A2.cmp .leq 0 i = true := by subst hA2; exact decide_eq_true hI.1
  have st := takes_step hw hq0 hq1 hI A2 hA2 V hV
  have en := takes_end hw hq0 hq1 hI A2 hA2 V hV
  rw [← hA2, ← hS, ← hV]
  cbv
  repeat' first | (with_reducible intro hb; cbv) | with_reducible refine And.intro ?_ ?_
  all_goals first | exact o0 | exact hb | exact (st hb).o1 | exact (st hb).o2 | exact (st hb).o3 | exact (st hb).o4 | exact (st hb).o5 | exact (st hb).o6 | exact (st hb).o7 | exact (st hb).o8 | exact (st hb).o9 | exact (st hb).o10 | exact (st hb).o11 | skip
  · exact hnext _ (i + 1, _, _, _) (st hb).nx (st hb).ms ⟨⟨⟨rfl, rfl, leI (st hb).ad⟩, ⟨rfl, rfl, fun _ => rfl⟩, ⟨rfl, rfl, fun _ => rfl⟩, ⟨rfl, rfl, fun _ => rfl⟩, ⟨rfl, rfl, leI (by subst hA2; rfl)⟩, ⟨rfl, rfl, fun _ => rfl⟩, ⟨rfl, rfl, fun _ => rfl⟩, ⟨rfl, rfl, fun _ => rfl⟩, trivial⟩, ⟨leV rfl, leRefl rfl, trivial⟩, rfl, rfl⟩
  · apply hexit
    have en := en hb
    have eA : A2 = A := hA2.trans hA.symm
    rw [eA] at en
    clear hexit hnext hret st
    cbv
    repeat' first | (with_reducible intro hb; cbv) | with_reducible refine And.intro ?_ ?_
    all_goals first | exact en.o1 | exact en.o2 | exact en.o3 | exact en.o4 | exact en.o5 | exact en.o6 | exact en.o7 | exact en.o8 | exact en.o9 | exact en.o10 | exact en.o11 | exact en.o12 | skip
    refine hk _ _ (GoodW.one (t := 0) rfl (fun ρ => ?_) rfl rfl rfl (leV ?_))
    · subst hV
      exact retB en.resB
    · subst hV
      exact en.res

def tN11 (A : Alg) (S : SW) (V : SV) : List (Nat × Sem') := (93, heapSemW [.sw (.int .u32), .s (.int .u32), .v] A (gTakes A V)) :: ((tN10 A S V))
theorem tN11OK : COK Try.prog (look (tN11 stdA stdW stdV)) := COK_cons ok_takes (tN10OK)
end Go.Eng
