
import Derived.Test.YtjjmpghdjoohfaaCU1
import Derived.Test.YtjjmpghdjoohfaaSpecFA
import Derived.Test.YtjjmpghdjoohfaaEngZA
set_option linter.all false
set_option exponentiation.threshold 3000
namespace Go.Eng
open Go.Proofs
set_option maxRecDepth 100000
set_option linter.all false
set_option exponentiation.threshold 3000
set_option maxHeartbeats 2000000
def tK1 (A : Alg) (H : SH) : List (Nat × Sem') := (44, heapSem [.v] A (gIsP H)) :: ([])
theorem tK1OK : COK Try.prog (look (tK1 stdA stdH)) := COK_cons ok_pis (COK_nil)
theorem ok_lare : CallOK Try.prog 21 (heapSem [.s .pt] stdA (gAllP stdA stdH)) := by
  refine callOK_heap (un := ⟨false, some [0,2,4,5,6,7,8,13]⟩) tok tK1OK mixed (fn := Try.f21) (by kernel_rfl) (by kernel_rfl) (by kernel_rfl) (by decide +kernel) ?_
  intro w Wr args bs r hg ho hWr A L k hA hL hk
  obtain ⟨H, hH⟩ : ∃ H, H = stdH := ⟨_, rfl⟩
  (try rw [← hH])
  (try rw [← hA])
  unfold gAllP at hg
  split at hg
  rotate_left
  · cases hg
  simp only [Option.some.injEq] at hg
  subst hg
  rename_i l
  have hlen := (ho_cons ho).1
  simp only [stdA, stdCmp, decide_eq_true_eq] at hlen
  have hlen : l.length < 1000000 := by omega
  clear ho
  have i0 : ApI l 0 := ⟨Int.le_refl 0, Int.natCast_nonneg _, rfl⟩
  cbv
  refine hL _ _ _ (loop_rule (un := ⟨false, some [0, 2, 4, 5, 6, 7, 8, 13]⟩) tok tK1OK mixed (fun k : Int => ⟨[(7, ⟨[], .c (.s (.int .i64 k))⟩), (6, ⟨[], .c (.s (.int .i64 (stdA.len l)))⟩), (5, ⟨[], .c (.s (.hs 0))⟩), (2, ⟨[], .c (.s (.tt false))⟩)], [(0, .vec false .pt l)], 1⟩)
    (fun k => ApI l k) (fun k => ((l.length : Int) - k).toNat) 0 i0 ?_ (fun _ i hi => by have := hWr i hi; simp at this; show i < 1; omega) ?_)
  · exact ⟨⟨⟨rfl, rfl, fun _ => rfl⟩, ⟨rfl, rfl, leI (by subst hA; rfl)⟩, ⟨rfl, rfl, fun _ => rfl⟩, ⟨rfl, rfl, fun _ => rfl⟩, trivial⟩, ⟨leRefl rfl, trivial⟩, rfl, rfl⟩
  clear i0
  rintro k hI A2 L2 k2 hA2 hL2 hnext hexit hret
  have st := fun hb : A2.cmp .lss k (A2.len l) = true => aq_step hlen hI A2 hA2 H hH hb _ rfl
  have en := fun hb : A2.cmp .lss k (A2.len l) = false => ap_end hI A2 hA2 H hH hb
  clear hI
  rw [← hA2, ← hH]
  cbv
  repeat' first | (with_reducible intro hb; cbv) | with_reducible refine And.intro ?_ ?_
  all_goals first | exact (st hb).o1 | exact hb | skip
  · rename_i hb0
    have e := (st hb0).no hb
    apply hret
    clear hexit hnext hret st en
    cbv
    refine hk _ _ (Good.pure rfl fun ρ => ?_)
    subst hH
    exact retT e
  · rename_i hb0
    refine hnext _ (k + 1) ((st hb0).nx hb) (st hb0).ms ?_
    have ead := (st hb0).ad
    subst hA2
    exact ⟨⟨⟨rfl, rfl, leI ead⟩, ⟨rfl, rfl, fun _ => rfl⟩, ⟨rfl, rfl, fun _ => rfl⟩, ⟨rfl, rfl, fun _ => rfl⟩, trivial⟩, ⟨leRefl rfl, trivial⟩, rfl, rfl⟩
  · have e := en hb
    apply hexit
    clear hexit hnext hret st en
    cbv
    refine hk _ _ (Good.pure rfl fun ρ => ?_)
    subst hH
    exact retT e
def gSide (H : SH) : List CV → List Blk → Option LR
  | [.g [.P a, .P b], .g [.P p]], [] => some ⟨[], .c (.s (.int .i64 (H.turn a b p))), []⟩
  | _, _ => none
def gIsE (A : Alg) : List CV → List Blk → Option LR
  | [.g [.P a, .P b], .g [.P p]], [] => some ⟨[], .c (.s (.bool (A.ite (A.eqP p a) true (A.eqP p b)))), []⟩
  | _, _ => none
def tK2 (A : Alg) (H : SH) : List (Nat × Sem') := (46, heapSem [.v, .v, .v] A (gTurn H)) :: ([])
theorem tK2OK : COK Try.prog (look (tK2 stdA stdH)) := COK_cons ok_pturn (COK_nil)
theorem ok_lside : CallOK Try.prog 24 (heapSem [.v, .v] stdA (gSide stdH)) := by
  refine callOK_heap (un := ⟨false, some [2,3,4,5,6]⟩) tok tK2OK mixed (fn := Try.f24) (by kernel_rfl) (by kernel_rfl) (by kernel_rfl) (by decide +kernel) ?_
  intro w Wr args bs r hg ho hWr A L k hA hL hk
  obtain ⟨H, hH⟩ : ∃ H, H = stdH := ⟨_, rfl⟩
  (try rw [← hH])
  (try rw [← hA])
  unfold gSide at hg
  split at hg
  rotate_left
  · cases hg
  simp only [Option.some.injEq] at hg
  subst hg
  cbv
  refine hk _ _ (Good.pure rfl fun ρ => ?_)
  subst hH
  exact ret1 rfl
theorem ok_lis : CallOK Try.prog 23 (heapSem [.v, .v] stdA (gIsE stdA)) := by
  refine callOK_heap (un := ⟨false, some [2,3,4]⟩) tok tK2OK mixed (fn := Try.f23) (by kernel_rfl) (by kernel_rfl) (by kernel_rfl) (by decide +kernel) ?_
  intro w Wr args bs r hg ho hWr A L k hA hL hk
  obtain ⟨H, hH⟩ : ∃ H, H = stdH := ⟨_, rfl⟩
  (try rw [← hH])
  (try rw [← hA])
  unfold gIsE at hg
  split at hg
  rotate_left
  · cases hg
  simp only [Option.some.injEq] at hg
  subst hg
  cbv
  refine hk _ _ (Good.pure rfl fun ρ => ?_)
  subst hA
  exact retB rfl
def gHas (H : SH) (J : SJ) : List CV → List Blk → Option LR
  | [.g [.P a, .P b], .g [.P p]], [] => some ⟨[H.all [a, b, p]], .c (.s (.bool (J.on a b p))), []⟩
  | _, _ => none
theorem has_f {a b p : Pt} (A : Alg) (hA : A = stdA) (H : SH) (hH : H = stdH) (J : SJ) (hJ : J = stdJ) (h : H.all [a, b, p] = true) :
    A.ite (A.ite (A.cmp .geq (A.bin .mul .i64 (H.cmp a p) (H.cmp p b)) 0) (A.cmp .eql (H.turn a b p) 0) false) (A.ite (A.ite (A.cmp .neq (H.cmp a p) 0) true (A.cmp .neq (H.cmp p b) 0)) true (A.ite (A.eqP p a) true (A.eqP p b))) false = J.on a b p := by
  subst hA hH hJ
  have h : allP [a, b, p] = true := h
  obtain ⟨ha, hb, hp⟩ := allP_three h
  have e1 : stdH.cmp a p = pcmp a p := cmp_ok (all2 (isPt_iff.2 ha) (isPt_iff.2 hp))
  have e2 : stdH.cmp p b = pcmp p b := cmp_ok (all2 (isPt_iff.2 hp) (isPt_iff.2 hb))
  rw [e1, e2, turn_ok h]
  have hm : stdA.bin .mul .i64 (pcmp a p) (pcmp p b) = pcmp a p * pcmp p b := by
    show IntKind.i64.wrap (pcmp a p * pcmp p b) = _
    rw [IntKind.wrap_i64]
    rcases pcmp_cases a p with ⟨_, e, _⟩ | ⟨_, _, e, _⟩ | ⟨_, e, _⟩ <;> rcases pcmp_cases p b with ⟨_, e', _⟩ | ⟨_, _, e', _⟩ | ⟨_, e', _⟩ <;> rw [e, e'] <;> rfl
  rw [hm]
  show _ = onP a b p
  rw [← has_on h]
  show (if (if decide (pcmp a p * pcmp p b ≥ 0) = true then (sgnQ (crossQ a b p) 0 == 0) else false) = true then (if (if (pcmp a p != 0) = true then true else (pcmp p b != 0)) = true then true else (if decide (p = a) = true then true else decide (p = b))) else false) = _
  have q : ∀ z : Int, (z != 0) = decide (z ≠ 0) := fun z => by by_cases h : z = 0 <;> simp [h]
  have q2 : ∀ z : Int, (z == 0) = decide (z = 0) := fun z => by by_cases h : z = 0 <;> simp [h]
  rw [q, q, q2]
  simp only [ge_iff_le]
  cases decide (0 ≤ pcmp a p * pcmp p b) <;> cases decide (sgnQ (crossQ a b p) 0 = 0) <;> cases decide (pcmp a p ≠ 0) <;> cases decide (pcmp p b ≠ 0) <;> cases decide (p = a) <;> cases decide (p = b) <;> rfl
def tK3 (A : Alg) (H : SH) : List (Nat × Sem') := (47, heapSem [.v, .v] A (gCmpP H)) :: (24, heapSem [.v, .v] A (gSide H)) :: (23, heapSem [.v, .v] A (gIsE A)) :: ([])
theorem tK3OK : COK Try.prog (look (tK3 stdA stdH)) := COK_cons ok_pcmp (COK_cons ok_lside (COK_cons ok_lis (COK_nil)))
theorem ok_lhas : CallOK Try.prog 25 (heapSem [.v, .v] stdA (gHas stdH stdJ)) := by
  refine callOK_heap (un := ⟨false, some [2,3,4,5,6,7,8]⟩) tok tK3OK mixed (fn := Try.f25) (by kernel_rfl) (by kernel_rfl) (by kernel_rfl) (by decide +kernel) ?_
  intro w Wr args bs r hg ho hWr A L k hA hL hk
  obtain ⟨H, hH⟩ : ∃ H, H = stdH := ⟨_, rfl⟩
  obtain ⟨J, hJ⟩ : ∃ J, J = stdJ := ⟨_, rfl⟩
  (try rw [← hH])
  (try rw [← hJ])
  (try rw [← hA])
  unfold gHas at hg
  split at hg
  rotate_left
  · cases hg
  simp only [Option.some.injEq] at hg
  subst hg
  rename_i a b p
  have h0 := (ho_cons ho).1
  clear ho
  rw [← hH] at h0
  have hf := has_f A hA H hH J hJ h0
  cbv
  refine hk _ _ (Good.pure rfl fun ρ => ?_)
  subst hJ
  exact retB hf
end Go.Eng
namespace Go.Eng
open Go.Proofs
set_option maxRecDepth 100000
set_option linter.all false
set_option exponentiation.threshold 3000
set_option maxHeartbeats 2000000
theorem len_lt {α : Type} {A : Alg} (hA : A = stdA) (l : List α) (h : l.length < 1000000) : A.cmp .lss (A.len l) 1000000 = true := by
  subst hA; exact lss_of _ rfl _ _ (by show (l.length : Int) < 1000000; omega)
def gOnP (A : Alg) (H : SH) (J : SJ) : List CV → List Blk → Option LR
  | [.g [.P a], .g [.P b], .g [.P p]], [] => some ⟨[], .t [.s (.bool (A.ite (H.all [a, b, p]) (J.on a b p) false)), .s (.bool (H.all [a, b, p]))], []⟩
  | _, _ => none
theorem ono_f {A : Alg} (hA : A = stdA) {o c : Bool} : (A.not o = true → false = A.ite o c false ∧ false = o) ∧ (A.not o = false → c = A.ite o c false ∧ true = o) := by
  subst hA
  constructor
  · intro h; have h : (!o) = true := h; cases o
    · exact ⟨rfl, rfl⟩
    · cases h
  · intro h; have h : (!o) = false := h; cases o
    · cases h
    · exact ⟨rfl, rfl⟩
section
variable {ρ : Rho} {f : Nat → Nat}
theorem tupTT {a b c d : Bool} (h1 : a = c) (h2 : b = d) : (XV.t [.s (.tt a), .s (.tt b)]).den ρ = ((XV.t [.s (.bool c), .s (.bool d)]).ren f).den ρ := by subst h1 h2; rfl
theorem tupBT {a b c d : Bool} (h1 : a = c) (h2 : b = d) : (XV.t [.s (.bool a), .s (.tt b)]).den ρ = ((XV.t [.s (.bool c), .s (.bool d)]).ren f).den ρ := by subst h1 h2; rfl
end
def tK4 (A : Alg) (H : SH) (J : SJ) : List (Nat × Sem') := (21, heapSem [.s .pt] A (gAllP A H)) :: (25, heapSem [.v, .v] A (gHas H J)) :: ([])
theorem tK4OK : COK Try.prog (look (tK4 stdA stdH stdJ)) := COK_cons ok_lare (COK_cons ok_lhas (COK_nil))
theorem ok_lon : CallOK Try.prog 10 (heapSem [.v, .v, .v] stdA (gOnP stdA stdH stdJ)) := by
  refine callOK_heap (un := ⟨false, some [3,4,5,6,7,13]⟩) tok tK4OK mixed (fn := Try.f10) (by kernel_rfl) (by kernel_rfl) (by kernel_rfl) (by decide +kernel) ?_
  intro w Wr args bs r hg ho hWr A L k hA hL hk
  obtain ⟨H, hH⟩ : ∃ H, H = stdH := ⟨_, rfl⟩
  obtain ⟨J, hJ⟩ : ∃ J, J = stdJ := ⟨_, rfl⟩
  (try rw [← hH])
  (try rw [← hJ])
  (try rw [← hA])
  unfold gOnP at hg
  split at hg
  rotate_left
  · cases hg
  simp only [Option.some.injEq] at hg
  subst hg
  rename_i a b p
  have al := len_lt hA [a, b, p] (by show 3 < 1000000; decide)
  have of := ono_f hA (o := H.all [a, b, p]) (c := J.on a b p)
  cbv
  repeat' first | (with_reducible intro hb; cbv) | with_reducible refine And.intro ?_ ?_
  all_goals first | exact al | skip
  · have e := of.1 hb
    refine hk _ _ (Good.pure rfl fun ρ => ?_)
    subst hA hH hJ
    exact tupTT e.1 e.2
  · exact (of.2 hb).2.symm
  · have e := of.2 hb
    refine hk _ _ (Good.pure rfl fun ρ => ?_)
    subst hA hH hJ
    exact tupBT e.1 e.2
def gAddC (A : Alg) (J : SJ) : List CV → List Pt → Option (List Bool × XV × List Pt)
  | [.s (.bool on), .g [.P p]], l => some ([A.cmp .lss (A.len l) 1000], .t [], J.add on p l)
  | _, _ => none
structure AcI (on0 : Bool) (p : Pt) (l : List Pt) (k : Int) (on : Bool) : Prop where
  k0 : 0 ≤ k
  k1 : k ≤ l.length
  eq : on = (on0 && (l.take k.toNat).all fun q => decide (q ≠ p))
structure AcStep (A : Alg) (on0 : Bool) (p : Pt) (l : List Pt) (k : Int) (on : Bool) (q : Pt) : Prop where
  o1 : A.cmp .leq 0 k = true
  nx : AcI on0 p l (k + 1) (A.ite on (A.not (A.eqP q p)) false)
  ad : A.bin .add .i64 k 1 = k + 1
  ms : ((l.length : Int) - (k + 1)).toNat < ((l.length : Int) - k).toNat
theorem ac_step {on0 : Bool} {p : Pt} {l : List Pt} (hn : l.length < 1000) {k : Int} {on : Bool} (hI : AcI on0 p l k on) (A : Alg) (hA : A = stdA) (hb : A.cmp .lss k (A.len l) = true) (q : Pt) (hq : q = A.get l k ⟨⟨⟨false, A.zD⟩, ⟨false, A.zD⟩⟩, ⟨⟨false, A.zD⟩, ⟨false, A.zD⟩⟩⟩) : AcStep A on0 p l k on q := by
  subst hA
  have hb : k < (l.length : Int) := of_decide_eq_true hb
  obtain ⟨k0, k1, h⟩ := hI
  have hlt : k.toNat < l.length := by omega
  have er : q = l[k.toNat] := by
    rw [hq]
    show (l[k.toNat]?).getD _ = _
    rw [List.getElem?_eq_getElem hlt]; rfl
  exact {
    o1 := leq_of _ rfl _ _ k0
    nx := by
      refine ⟨by omega, by omega, ?_⟩
      rw [show (k + 1).toNat = k.toNat + 1 by omega, List.take_succ_eq_append_getElem hlt, List.all_append, ← Bool.and_assoc, ← h, ← er]
      show (if on = true then !decide (q = p) else false) = (on && (decide (q ≠ p) && true))
      rw [Bool.and_true]
      cases on
      · rfl
      · show (!decide (q = p)) = (true && decide (q ≠ p))
        rw [Bool.true_and]
        by_cases h : q = p <;> simp [h]
    ad := by show stdBin .add .i64 k 1 = k + 1; simp only [stdBin, IntKind.wrap_i64]; omega
    ms := by omega }
structure AcEnd (A : Alg) (J : SJ) (on0 : Bool) (p : Pt) (l : List Pt) (on : Bool) : Prop where
  y : on = true → A.app l [p] = J.add on0 p l
  n : on = false → l = J.add on0 p l
  o : A.cmp .leq (A.iadd (A.len l) (A.len [p])) 1000000 = true
theorem ac_end {on0 : Bool} {p : Pt} {l : List Pt} (hn : l.length < 1000) {k : Int} {on : Bool} (hI : AcI on0 p l k on) (A : Alg) (hA : A = stdA) (J : SJ) (hJ : J = stdJ) (hb : A.cmp .lss k (A.len l) = false) : AcEnd A J on0 p l on := by
  subst hA hJ
  have hb : ¬ k < (l.length : Int) := of_decide_eq_false hb
  obtain ⟨k0, k1, h⟩ := hI
  rw [List.take_of_length_le (by omega)] at h
  refine ⟨fun hy => ?_, fun hy => ?_, leq_of _ rfl _ _ (by show (l.length : Int) + ((1 : Nat) : Int) ≤ 1000000; omega)⟩
  · show l ++ [p] = addL on0 p l
    unfold addL
    rw [← h, hy]; rfl
  · show l = addL on0 p l
    unfold addL
    rw [← h, hy]; rfl
theorem ok_ladd : CallOK Try.prog 45 (cellSem .pt (gAddC stdA stdJ)) := by
  refine callOK_cell (un := ⟨false, some [0,2,4,6,7,8,9,10,20]⟩) tok noCOK mixed (fn := Try.f45) (by kernel_rfl) (by kernel_rfl) (by kernel_rfl) ?_ ?_
  · intro vs l r hg
    unfold gAddC at hg
    split at hg
    · simp only [List.length_cons, List.length_nil]
      decide +kernel
    · cases hg
  intro w Wr vs l ob v l' hg ho hWr A L k hA hL hk
  obtain ⟨J, hJ⟩ : ∃ J, J = stdJ := ⟨_, rfl⟩
  (try rw [← hJ] at hg)
  (try rw [← hA] at hg)
  unfold gAddC at hg
  split at hg
  rotate_left
  · cases hg
  simp only [Option.some.injEq, Prod.mk.injEq] at hg
  obtain ⟨rfl, rfl, rfl⟩ := hg
  (try rw [← hJ])
  (try rw [← hA])
  rename_i on p
  have hlen := (ho_cons ho).1
  have hlen : l.length < 1000 := by
    rw [hA] at hlen
    have hlen : (l.length : Int) < 1000 := of_decide_eq_true hlen
    omega
  clear ho
  have i0 : AcI on p l 0 on := ⟨Int.le_refl 0, Int.natCast_nonneg _, by simp⟩
  cbv
  refine hL _ _ _ (loop_rule (un := ⟨false, some [0, 2, 4, 6, 7, 8, 9, 10, 20]⟩) tok noCOK mixed (fun p' : Int × Bool => ⟨[(9, ⟨[], .c (.s (.int .i64 p'.1))⟩), (8, ⟨[], .c (.s (.int .i64 (stdA.len l)))⟩), (7, ⟨[], .c (.s (.hs 1))⟩), (4, ⟨[], .c (.s (.hp 2 0))⟩), (0, ⟨[], .c (.s (.bool p'.2))⟩), (2, ⟨[], .c (.s (.hp 0 0))⟩)], [(2, .fix true [.P p]), (0, .fix true [.s (.hs 1)]), (1, .vec true .pt l)], 3⟩)
    (fun p' => AcI on p l p'.1 p'.2) (fun p' => ((l.length : Int) - p'.1).toNat) (0, _) i0 ?_ (fun _ i hi => by have := hWr i hi; show i < 3; omega) ?_)
  · exact ⟨⟨⟨rfl, rfl, fun _ => rfl⟩, ⟨rfl, rfl, leI (by subst hA; rfl)⟩, ⟨rfl, rfl, fun _ => rfl⟩, ⟨rfl, rfl, fun _ => rfl⟩, ⟨rfl, rfl, fun _ => rfl⟩, ⟨rfl, rfl, fun _ => rfl⟩, trivial⟩, ⟨leRefl rfl, leRefl rfl, leRefl rfl, trivial⟩, rfl, rfl⟩
  clear i0
  rintro ⟨k, o⟩ hI A2 L2 k2 hA2 hL2 hnext hexit hret
  have st := fun hb : A2.cmp .lss k (A2.len l) = true => ac_step hlen hI A2 hA2 hb _ rfl
  have en := fun hb : A.cmp .lss k (A.len l) = false => ac_end hlen hI A hA J hJ hb
  clear hI
  rw [← hA2]
  cbv
  repeat' first | (with_reducible intro hb; cbv) | with_reducible refine And.intro ?_ ?_
  all_goals first | exact (st hb).o1 | exact hb | skip
  · refine hnext _ (_, _) (st hb).nx (st hb).ms ?_
    have ead := (st hb).ad
    subst hA2
    exact ⟨⟨⟨rfl, rfl, leI ead⟩, ⟨rfl, rfl, fun _ => rfl⟩, ⟨rfl, rfl, fun _ => rfl⟩, ⟨rfl, rfl, fun _ => rfl⟩, ⟨rfl, rfl, fun _ => rfl⟩, ⟨rfl, rfl, fun _ => rfl⟩, trivial⟩, ⟨leRefl rfl, leRefl rfl, leRefl rfl, trivial⟩, rfl, rfl⟩
  · have em := en (by rw [hA, ← hA2]; exact hb)
    apply hexit
    clear hexit hnext hret st en hb
    cbv
    repeat' first | (with_reducible intro hb; cbv) | with_reducible refine And.intro ?_ ?_
    all_goals first | exact em.o | skip
    · refine hk _ _ ⟨⟨4, by decide, rfl, ?_, fun _ => rfl⟩⟩
      rw [← em.y hb]; rfl
    · refine hk _ _ ⟨⟨1, by decide, rfl, ?_, fun _ => rfl⟩⟩
      rw [← em.n hb]; rfl
def gCom4 (H : SH) (J : SJ) : List CV → List Blk → Option LR
  | [.g [.P a, .P b], .g [.P c, .P d]], [] => some ⟨[H.all [a, b, c, d]], .c (.s (.hs 0)), [.vec false .pt (J.com a b c d)]⟩
  | _, _ => none
theorem all4 {a b c d : Pt} (h : allP [a, b, c, d] = true) : ptOK a = true ∧ ptOK b = true ∧ ptOK c = true ∧ ptOK d = true := by
  have h : (ptOK a && (ptOK b && (ptOK c && (ptOK d && true)))) = true := h
  simp only [Bool.and_true, Bool.and_eq_true] at h
  exact h
theorem addL_len (o : Bool) (p : Pt) (l : List Pt) : (addL o p l).length ≤ l.length + 1 := by
  unfold addL
  split
  · simp
  · omega
structure C4F (A : Alg) (H : SH) (J : SJ) (a b c d : Pt) : Prop where
  o1 : H.all [c, d, a] = true
  o2 : H.all [c, d, b] = true
  o3 : H.all [a, b, c] = true
  o4 : H.all [a, b, d] = true
  l0 : A.cmp .lss (A.len ([] : List Pt)) 1000 = true
  l1 : ∀ o p, A.cmp .lss (A.len (J.add o p [])) 1000 = true
  l2 : ∀ o p o' p', A.cmp .lss (A.len (J.add o p (J.add o' p' []))) 1000 = true
  l3 : ∀ o p o' p' o2 p2, A.cmp .lss (A.len (J.add o p (J.add o' p' (J.add o2 p2 [])))) 1000 = true
theorem c4_f {a b c d : Pt} (A : Alg) (hA : A = stdA) (H : SH) (hH : H = stdH) (J : SJ) (hJ : J = stdJ) (h : H.all [a, b, c, d] = true) : C4F A H J a b c d := by
  subst hA hH hJ
  obtain ⟨ha, hb, hc, hd⟩ := all4 h
  have k : ∀ l : List Pt, l.length < 1000 → stdA.cmp .lss (stdA.len l) 1000 = true := fun l hl => lss_of _ rfl _ _ (by show (l.length : Int) < 1000; omega)
  refine ⟨all3 hc hd ha, all3 hc hd hb, all3 ha hb hc, all3 ha hb hd, k [] (by decide), fun o p => k _ ?_, fun o p o' p' => k _ ?_, fun o p o' p' o2 p2 => k _ ?_⟩
  · have := addL_len o p []
    show (addL o p []).length < 1000
    simp only [List.length_nil] at this; omega
  · have h1 := addL_len o' p' []
    have h2 := addL_len o p (addL o' p' [])
    show (addL o p (addL o' p' [])).length < 1000
    simp only [List.length_nil] at h1; omega
  · have h1 := addL_len o2 p2 []
    have h2 := addL_len o' p' (addL o2 p2 [])
    have h3 := addL_len o p (addL o' p' (addL o2 p2 []))
    show (addL o p (addL o' p' (addL o2 p2 []))).length < 1000
    simp only [List.length_nil] at h1; omega
def tK5 (A : Alg) (H : SH) (J : SJ) : List (Nat × Sem') := (25, heapSem [.v, .v] A (gHas H J)) :: (45, cellSem .pt (gAddC A J)) :: ([])
theorem tK5OK : COK Try.prog (look (tK5 stdA stdH stdJ)) := COK_cons ok_lhas (COK_cons ok_ladd (COK_nil))
theorem ok_lcom : CallOK Try.prog 22 (heapSemF [.v, .v] stdA (gCom4 stdH stdJ)) := by
  refine callOK_heapF (un := ⟨false, some [2,3,4,5,6]⟩) tok tK5OK mixed (fn := Try.f22) (by kernel_rfl) (by kernel_rfl) (by kernel_rfl) (by decide +kernel) ?_
  intro w Wr args bs r hg ho hWr A L k hA hL hk
  obtain ⟨H, hH⟩ : ∃ H, H = stdH := ⟨_, rfl⟩
  obtain ⟨J, hJ⟩ : ∃ J, J = stdJ := ⟨_, rfl⟩
  (try rw [← hH])
  (try rw [← hJ])
  (try rw [← hA])
  unfold gCom4 at hg
  split at hg
  rotate_left
  · cases hg
  simp only [Option.some.injEq] at hg
  subst hg
  rename_i a b c d
  have h0 := (ho_cons ho).1
  clear ho
  rw [← hH] at h0
  have cf := c4_f A hA H hH J hJ h0
  cbv
  repeat' first | (with_reducible intro hb; cbv) | with_reducible refine And.intro ?_ ?_
  all_goals first | exact cf.o1 | exact cf.o2 | exact cf.o3 | exact cf.o4 | exact cf.l0 | exact cf.l1 _ _ | exact cf.l2 _ _ _ _ | exact cf.l3 _ _ _ _ _ _ | skip
  exact hk _ _ (GoodF.one _ _ rfl (fun ρ => retF) (SrcOK.hs rfl (by subst hJ; rfl)))
def gMeet (H : SH) (J : SJ) : List CV → List Blk → Option LR
  | [.g [.P a], .g [.P b], .g [.P c], .g [.P d]], [] => some ⟨[], .t [.s (.int .i64 (J.meet a b c d)), .s (.bool (H.all [a, b, c, d]))], []⟩
  | _, _ => none
theorem crossing_A (a b c d : Pt) (h : allP [a, b, c, d] = true) : stdA.ite (stdA.cmp .lss (stdA.bin .mul .i64 (stdH.turn a b c) (stdH.turn a b d)) 0) (stdA.cmp .lss (stdA.bin .mul .i64 (stdH.turn c d a) (stdH.turn c d b)) 0) false = crossing a b c d := by
  obtain ⟨ha, hb, hc, hd⟩ := all4 h
  rw [turn_ok (all3 ha hb hc), turn_ok (all3 ha hb hd), turn_ok (all3 hc hd ha), turn_ok (all3 hc hd hb)]
  have e : ∀ p q : Rat, stdA.bin .mul .i64 (sgnQ p 0) (sgnQ q 0) = sgnQ p 0 * sgnQ q 0 := fun p q => by
    show stdBin .mul .i64 _ _ = _
    rcases sgnQ_cases p 0 with ⟨_, e, _⟩ | ⟨_, e, _⟩ | ⟨_, e, _⟩ <;> rcases sgnQ_cases q 0 with ⟨_, e', _⟩ | ⟨_, e', _⟩ | ⟨_, e', _⟩ <;> rw [e, e'] <;> rfl
  rw [e, e]
  unfold crossing
  show (if decide (sgnQ (crossQ a b c) 0 * sgnQ (crossQ a b d) 0 < 0) = true then decide (sgnQ (crossQ c d a) 0 * sgnQ (crossQ c d b) 0 < 0) else false) = _
  cases decide (sgnQ (crossQ a b c) 0 * sgnQ (crossQ a b d) 0 < 0) <;> rfl
def zP : Pt := ⟨⟨⟨false, Dg.zero⟩, ⟨false, Dg.zero⟩⟩, ⟨⟨false, Dg.zero⟩, ⟨false, Dg.zero⟩⟩⟩
def mtC (A : Alg) (l : List Pt) (a b c d g : Pt) : Bool := A.ite (A.ite (A.cmp .eql (A.len l) 1) (A.ite (A.eqP g a) true (A.eqP g b)) false) (A.ite (A.eqP g c) true (A.eqP g d)) false
structure MtF (A : Alg) (H : SH) (J : SJ) (a b c d g : Pt) : Prop where
  al : A.cmp .lss (A.len [a, b, c, d]) 1000000 = true
  no : A.not (H.all [a, b, c, d]) = true → 0 = J.meet a b c d ∧ false = H.all [a, b, c, d]
  ok : A.not (H.all [a, b, c, d]) = false → true = H.all [a, b, c, d]
  l0 : A.cmp .leq 0 0 = true
  l1 : A.imp (A.beq (A.cmp .eql (A.len (J.com a b c d)) 1) true) (A.cmp .lss 0 (A.len (J.com a b c d))) = true
  l2 : A.imp (A.beq (A.ite (A.cmp .eql (A.len (J.com a b c d)) 1) (A.ite (A.eqP g a) true (A.eqP g b)) false) true) (A.cmp .lss 0 (A.len (J.com a b c d))) = true
  c1 : A.not (H.all [a, b, c, d]) = false → mtC A (J.com a b c d) a b c d g = true → 1 = J.meet a b c d
  c2 : A.not (H.all [a, b, c, d]) = false → mtC A (J.com a b c d) a b c d g = false → A.cmp .gtr (A.len (J.com a b c d)) 0 = true → 2 = J.meet a b c d
  c3 : A.not (H.all [a, b, c, d]) = false → mtC A (J.com a b c d) a b c d g = false → A.cmp .gtr (A.len (J.com a b c d)) 0 = false → A.ite (A.cmp .lss (A.bin .mul .i64 (H.turn a b c) (H.turn a b d)) 0) (A.cmp .lss (A.bin .mul .i64 (H.turn c d a) (H.turn c d b)) 0) false = true → 2 = J.meet a b c d
  c4 : A.not (H.all [a, b, c, d]) = false → mtC A (J.com a b c d) a b c d g = false → A.cmp .gtr (A.len (J.com a b c d)) 0 = false → A.ite (A.cmp .lss (A.bin .mul .i64 (H.turn a b c) (H.turn a b d)) 0) (A.cmp .lss (A.bin .mul .i64 (H.turn c d a) (H.turn c d b)) 0) false = false → 0 = J.meet a b c d
theorem imp_chain {X Y Z : Bool} (h : stdA.imp (stdA.beq X true) Y = true) : stdA.imp (stdA.beq (stdA.ite X Z false) true) Y = true := by
  revert h
  cases X <;> cases Y <;> cases Z <;> decide
theorem mt_c {a b c d g : Pt} (hg : g = (comL a b c d)[0]?.getD zP) : mtC stdA (comL a b c d) a b c d g = oneP a b c d := by
  have h : mtC stdA (comL a b c d) a b c d g = true ↔ oneP a b c d = true := by
    rw [← com_one]
    have hb : mtC stdA (comL a b c d) a b c d g = ((((comL a b c d).length : Int) == 1) && ((decide (g = a) || decide (g = b)) && (decide (g = c) || decide (g = d)))) := by
      unfold mtC
      show (if (if (((comL a b c d).length : Int) == 1) = true then (if decide (g = a) = true then true else decide (g = b)) else false) = true then (if decide (g = c) = true then true else decide (g = d)) else false) = _
      cases (((comL a b c d).length : Int) == 1) <;> cases decide (g = a) <;> cases decide (g = b) <;> cases decide (g = c) <;> cases decide (g = d) <;> rfl
    rw [hb, Bool.and_eq_true, Bool.and_eq_true, Bool.or_eq_true, Bool.or_eq_true, decide_eq_true_eq, decide_eq_true_eq, decide_eq_true_eq, decide_eq_true_eq, beq_iff_eq]
    constructor
    · rintro ⟨h2, h3, h4⟩
      match hl : comL a b c d with
      | [] => rw [hl] at h2; cases h2
      | x :: y :: r => rw [hl] at h2; simp at h2; omega
      | [x] =>
        rw [hl] at hg
        have hg : g = x := hg
        subst hg
        exact ⟨g, rfl, h3, h4⟩
    · rintro ⟨e, hl, h1, h2⟩
      rw [hl] at hg ⊢
      have hg : g = e := hg
      subst hg
      exact ⟨rfl, h1, h2⟩
  rw [Bool.eq_iff_iff]
  exact h
theorem mt_f (a b c d : Pt) (A : Alg) (hA : A = stdA) (H : SH) (hH : H = stdH) (J : SJ) (hJ : J = stdJ) (g : Pt) (hg : g = A.get (J.com a b c d) 0 ⟨⟨⟨false, A.zD⟩, ⟨false, A.zD⟩⟩, ⟨⟨false, A.zD⟩, ⟨false, A.zD⟩⟩⟩) : MtF A H J a b c d g := by
  subst hA hH hJ
  have hg : g = (comL a b c d)[0]?.getD zP := hg
  have hm := mt_c hg
  have em : ∀ c', allP [a, b, c, d] = c' → stdJ.meet a b c d = if c' then meetP a b c d else 0 := fun c' h => by
    show (if allP [a, b, c, d] = true then _ else _) = _
    rw [h]
  have hn : stdA.not (stdH.all [a, b, c, d]) = !allP [a, b, c, d] := rfl
  have hgt : stdA.cmp .gtr (stdA.len (stdJ.com a b c d)) 0 = anyP a b c d := by
    rw [← com_any]
    show decide (((comL a b c d).length : Int) > 0) = _
    rw [decide_eq_decide]; omega
  have hmt : mtC stdA (stdJ.com a b c d) a b c d g = oneP a b c d := hm
  have l1 : ∀ l : List Pt, stdA.imp (stdA.beq (stdA.cmp .eql (stdA.len l) 1) true) (stdA.cmp .lss 0 (stdA.len l)) = true := fun l => by
    have e1 : stdA.cmp .eql (stdA.len l) 1 = decide (l.length = 1) := by
      show (((l.length : Nat) : Int) == 1) = _
      by_cases h : l.length = 1
      · rw [h]; rfl
      · rw [decide_eq_false h, beq_eq_false_iff_ne]; omega
    have e2 : stdA.cmp .lss 0 (stdA.len l) = decide (0 < l.length) := by
      show decide (0 < ((l.length : Nat) : Int)) = _
      rw [decide_eq_decide]; omega
    rw [e1, e2]
    by_cases h : l.length = 1
    · rw [h]; rfl
    · rw [decide_eq_false h]; cases decide (0 < l.length) <;> rfl
  refine ⟨len_lt rfl _ (by show 4 < 1000000; decide), fun h => ?_, fun h => ?_, rfl, l1 _, ?_, fun h h1 => ?_, fun h h1 h2 => ?_, fun h h1 h2 h3 => ?_, fun h h1 h2 h3 => ?_⟩
  · rw [hn, Bool.not_eq_true'] at h
    exact ⟨(em _ h).symm, h.symm⟩
  · rw [hn, Bool.not_eq_false'] at h
    exact h.symm
  · exact imp_chain (l1 _)
  · rw [hn, Bool.not_eq_false'] at h
    rw [hmt] at h1
    rw [em _ h]
    show 1 = meetP a b c d
    unfold meetP; rw [h1]; rfl
  · rw [hn, Bool.not_eq_false'] at h
    rw [hmt] at h1
    rw [hgt] at h2
    rw [em _ h]
    show 2 = meetP a b c d
    unfold meetP; rw [h1, h2]; rfl
  · rw [hn, Bool.not_eq_false'] at h
    rw [hmt] at h1
    rw [hgt] at h2
    rw [crossing_A a b c d h] at h3
    rw [em _ h]
    show 2 = meetP a b c d
    unfold meetP; rw [h1, h2, h3]; rfl
  · rw [hn, Bool.not_eq_false'] at h
    rw [hmt] at h1
    rw [hgt] at h2
    rw [crossing_A a b c d h] at h3
    rw [em _ h]
    show 0 = meetP a b c d
    unfold meetP; rw [h1, h2, h3]; rfl
def tK6 (A : Alg) (H : SH) (J : SJ) : List (Nat × Sem') := (21, heapSem [.s .pt] A (gAllP A H)) :: (22, heapSemF [.v, .v] A (gCom4 H J)) :: (23, heapSem [.v, .v] A (gIsE A)) :: (24, heapSem [.v, .v] A (gSide H)) :: ([])
theorem tK6OK : COK Try.prog (look (tK6 stdA stdH stdJ)) := COK_cons ok_lare (COK_cons ok_lcom (COK_cons ok_lis (COK_cons ok_lside (COK_nil))))
theorem ok_lmeet : CallOK Try.prog 9 (heapSem [.v, .v, .v, .v] stdA (gMeet stdH stdJ)) := by
  refine callOK_heap (un := ⟨false, some [4,5,6,7,8,9,10,11,12,19,31,51,55]⟩) tok tK6OK mixed (fn := Try.f9) (by kernel_rfl) (by kernel_rfl) (by kernel_rfl) (by decide +kernel) ?_
  intro w Wr args bs r hg ho hWr A L k hA hL hk
  obtain ⟨H, hH⟩ : ∃ H, H = stdH := ⟨_, rfl⟩
  obtain ⟨J, hJ⟩ : ∃ J, J = stdJ := ⟨_, rfl⟩
  (try rw [← hH])
  (try rw [← hJ])
  (try rw [← hA])
  unfold gMeet at hg
  split at hg
  rotate_left
  · cases hg
  simp only [Option.some.injEq] at hg
  subst hg
  rename_i a b c d
  have mt := mt_f a b c d A hA H hH J hJ _ rfl
  cbv
  repeat' first | (with_reducible intro hb; cbv) | with_reducible refine And.intro ?_ ?_
  all_goals first | exact mt.al | exact (mt.ok (by assumption)).symm | exact imp_t hA mt.l0 | exact mt.l1 | exact mt.l2 | skip
  · have e := mt.no hb
    refine hk _ _ (Good.pure rfl fun ρ => ?_)
    subst hH hJ
    exact tupLtt e.1 e.2
  · rename_i h0
    have e := mt.c1 h0 hb
    have e2 := mt.ok h0
    refine hk _ _ (Good.pure rfl fun ρ => ?_)
    subst hH hJ
    exact tupLtt e e2
  · rename_i h0 h1
    have e := mt.c2 h0 h1 hb
    have e2 := mt.ok h0
    refine hk _ _ (Good.pure rfl fun ρ => ?_)
    subst hH hJ
    exact tupLtt e e2
  · rename_i h0 h1 h2
    have e := mt.c3 h0 h1 h2 hb
    have e2 := mt.ok h0
    refine hk _ _ (Good.pure rfl fun ρ => ?_)
    subst hH hJ
    exact tupLtt e e2
  · rename_i h0 h1 h2
    have e := mt.c4 h0 h1 h2 hb
    have e2 := mt.ok h0
    refine hk _ _ (Good.pure rfl fun ρ => ?_)
    subst hH hJ
    exact tupLtt e e2
end Go.Eng

