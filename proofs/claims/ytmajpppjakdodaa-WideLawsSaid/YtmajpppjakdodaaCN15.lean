/- Contracts: whole numbers, Text. -/
import Derived.Test.YtmajpppjakdodaaCN14
namespace Go.Eng
open Go.Proofs
set_option maxRecDepth 100000
set_option linter.all false
set_option exponentiation.threshold 3000

/-- the digits so far -/
def TxI (x : Wd) (d : Dg) (M : List Int) : Prop := M.length ≤ 400 ∧ d.n < 10 ^ (400 - M.length) ∧ digD 400 x.d.n = M ++ digD (400 - M.length) d.n

theorem digD_zero (f : Nat) : digD f 0 = [] := by cases f <;> simp [digD]

theorem digD_succ (f n : Nat) (h : n ≠ 0) : digD (f + 1) n = (48 + (n % 10 : Nat) : Int) :: digD f (n / 10) := by
  rw [digD, if_neg h]

theorem TxI.init (x : Wd) : TxI x x.d [] := by
  refine ⟨Nat.zero_le _, ?_, rfl⟩
  exact Nat.lt_of_lt_of_le x.d.lt (by decide : 2 ^ 1024 ≤ 10 ^ 400)

structure TxStep (A : Alg) (V : SV) (x : Wd) (d : Dg) (M : List Int) (c : Int) : Prop where
  o1 : A.cmp .leq 1 10 = true
  o2 : A.cmp .lss 10 4294967296 = true
  o3 : A.cmp .leq (A.iadd (A.len M) (A.len [c])) 1000000 = true
  nx : TxI x (V.byQ d 10) (A.app M [c])
  ms : (V.byQ d 10).n < d.n

theorem tx_step {x : Wd} {d : Dg} {M : List Int} (hI : TxI x d M) (A : Alg) (hA : A = stdA) (V : SV) (hV : V = stdV) (S : SW) (hS : S = stdW) (hb : A.cmp .gtr (S.size d) 0 = true) (c : Int) (hc : c = A.wrap .u8 (A.bin .add .u32 48 (V.byR d 10))) : TxStep A V x d M c := by
  have h0 := (gcd_test ⟨false, d⟩ A hA S hS).2.2.1 hb
  subst hA hV hS
  have h0 : d.n ≠ 0 := h0
  obtain ⟨h1, h2, h3⟩ := hI
  have hlt : M.length < 400 := by
    rcases Nat.lt_or_ge M.length 400 with h | h
    · exact h
    · rw [show 400 - M.length = 0 by omega, Nat.pow_zero] at h2; omega
  obtain ⟨f, hf⟩ : ∃ f, 400 - M.length = f + 1 := ⟨400 - M.length - 1, by omega⟩
  rw [hf] at h2 h3
  rw [digD_succ _ _ h0] at h3
  have hc' : c = 48 + ((d.n % 10 : Nat) : Int) := by
    rw [hc]
    show IntKind.u8.wrap (IntKind.u32.wrap (48 + ((d.n % (10 : Int).toNat : Nat) : Int))) = _
    rw [show (10 : Int).toNat = 10 from rfl, IntKind.wrap_u32, IntKind.wrap_u8]
    omega
  have hq : (stdV.byQ d 10).n = d.n / 10 := rfl
  exact {
    o1 := rfl
    o2 := rfl
    o3 := by
      refine leq_of _ rfl _ _ ?_
      show (M.length : Int) + (1 : Nat) ≤ 1000000
      omega
    nx := by
      show TxI x (stdV.byQ d 10) (M ++ [c])
      refine ⟨by simp; omega, ?_, ?_⟩
      · rw [hq, List.length_append, List.length_singleton, show 400 - (M.length + 1) = f by omega, Nat.div_lt_iff_lt_mul (by decide), ← Nat.pow_succ]
        exact h2
      · rw [h3, hq, List.length_append, List.length_singleton, show 400 - (M.length + 1) = f by omega, hc', List.append_assoc]; rfl
    ms := by rw [hq]; omega }

structure TxEnd (A : Alg) (T : ST) (x : Wd) (M : List Int) : Prop where
  o1 : A.cmp .leq (A.iadd (A.len M) (A.len [(45 : Int)])) 1000000 = true
  o2 : A.cmp .eql 0 0 = true
  o3 : A.cmp .eql (A.len (A.app M [45])) (A.len (A.app M [45])) = true
  o4 : A.cmp .lss (A.len (A.app M [45])) 1000000 = true
  o5 : A.cmp .eql (A.len M) (A.len M) = true
  o6 : A.cmp .lss (A.len M) 1000000 = true
  r1 : A.cmp .eql (A.len M) 0 = true → T.text x = ⟨#[48]⟩
  r2 : A.cmp .eql (A.len M) 0 = false → x.neg = true → T.text x = A.ofB (T.rev (A.app M [45]))
  r3 : A.cmp .eql (A.len M) 0 = false → x.neg = false → T.text x = A.ofB (T.rev M)

theorem tx_end {x : Wd} {d : Dg} {M : List Int} (hI : TxI x d M) (A : Alg) (hA : A = stdA) (S : SW) (hS : S = stdW) (T : ST) (hT : T = stdT) (hb : A.cmp .gtr (S.size d) 0 = false) : TxEnd A T x M := by
  have h0 := (gcd_test ⟨false, d⟩ A hA S hS).2.2.2.1 hb
  subst hA hS hT
  have h0 : d.n = 0 := h0
  obtain ⟨h1, h2, h3⟩ := hI
  rw [h0, digD_zero, List.append_nil] at h3
  have e0 : stdA.len M = (M.length : Int) := rfl
  have e1 : stdA.len (stdA.app M [45]) = (M.length : Int) + 1 := by show ((M ++ [(45 : Int)]).length : Int) = _; simp
  have hz : ∀ b, stdA.cmp .eql (stdA.len M) 0 = b → decide (x.d.n = 0) = b := fun b h => by
    have h : ((M.length : Int) == 0) = b := h
    rw [← h]
    by_cases hx : x.d.n = 0
    · rw [hx, digD_zero] at h3; rw [← h3]; simp [hx]
    · rw [digD_succ 399 _ hx] at h3; rw [← h3]; simp [hx]; omega
  have eq : ∀ z : Int, stdA.cmp .eql z z = true := fun z => by show (z == z) = true; simp
  have ht : stdT.text x = stdA.ofB (textL x) := rfl
  exact {
    o1 := leq_of _ rfl _ _ (by show (M.length : Int) + (1 : Nat) ≤ 1000000; omega)
    o2 := eq 0
    o3 := eq _
    o4 := by rw [e1]; exact lss_of _ rfl _ _ (by omega)
    o5 := eq _
    o6 := by rw [e0]; exact lss_of _ rfl _ _ (by omega)
    r1 := fun h => by
      rw [ht]; unfold textL
      rw [if_pos (of_decide_eq_true (hz _ h))]; rfl
    r2 := fun h hn => by
      rw [ht]; unfold textL
      rw [if_neg (of_decide_eq_false (hz _ h)), hn, h3]; rfl
    r3 := fun h hn => by
      rw [ht]; unfold textL
      rw [if_neg (of_decide_eq_false (hz _ h)), hn, h3]
      simp only [Bool.false_eq_true, if_false, List.append_nil]; rfl }

def gText (T : ST) : List CV → List Blk → Option LR
  | [.g [.W x]], [] => some ⟨[], .c (.s (.str (T.text x))), []⟩
  | _, _ => none

theorem ok_wtext : CallOK Try.prog 22 (heapSem [.v] stdA (gText stdT)) := by
  refine callOK_heap (un := ⟨false, some [1,2,3,4,10,22,26]⟩) tok tN18OK mixed (fn := Try.f22) (by kernel_rfl) (by kernel_rfl) (by kernel_rfl) (by decide +kernel) ?_
  intro w Wr args bs r hg ho hWr A L k hA hL hk
  obtain ⟨S, hS⟩ : ∃ S, S = stdW := ⟨_, rfl⟩
  obtain ⟨T, hT⟩ : ∃ T, T = stdT := ⟨_, rfl⟩
  obtain ⟨V, hV⟩ : ∃ V, V = stdV := ⟨_, rfl⟩
  (try rw [← hS])
  (try rw [← hT])
  (try rw [← hV])
  (try rw [← hA])
  unfold gText at hg
  split at hg
  rotate_left
  · cases hg
  simp only [Option.some.injEq] at hg
  subst hg
  rename_i x
  have i0 := TxI.init x
  cbv
  refine hL _ _ _ (loop_ruleR (un := ⟨false, some [1, 3, 4, 10, 5, 11]⟩) tok tN18OK mixed 0 (fun i hi => by have := hWr i hi; simp at this) (fun p : Dg × List Int => ⟨[(4, ⟨[], .c (.s (.hs 2))⟩), (3, ⟨[], .c (.s (.hp 1 0))⟩), (1, ⟨[], .c (.s (.hp 0 0))⟩)], [(0, .fix true [.W x]), (1, .fix true [.D p.1]), (2, .vec true (.int .u8) p.2)], 3⟩)
    (fun p => TxI x p.1 p.2) (fun p => p.1.n) (x.d, []) i0 [(2, .nils)] ?_ (fun _ => Nat.zero_le _) ?_)
  · exact ⟨⟨⟨rfl, rfl, fun _ => rfl⟩, ⟨rfl, rfl, fun _ => rfl⟩, ⟨rfl, rfl, fun _ => rfl⟩, trivial⟩, ⟨⟨rfl, rfl, fun _ => rfl⟩, ⟨rfl, rfl, fun _ => rfl⟩, rfl, trivial⟩, rfl, rfl, rfl, rfl⟩
  clear i0
  rintro ⟨d, M⟩ hI A2 L2 k2 hA2 hL2 hnext hexit hret
  have st := fun hb : A2.cmp .gtr (S.size d) 0 = true => tx_step hI A2 hA2 V hV S hS hb _ rfl
  have en := fun hb : A2.cmp .gtr (S.size d) 0 = false => tx_end hI A hA S hS T hT (by rw [hA, ← hA2]; exact hb)
  clear hI
  rw [← hA2, ← hS, ← hV, ← hT]
  cbv
  repeat' first | (with_reducible intro hb; cbv) | with_reducible refine And.intro ?_ ?_
  all_goals first | exact (st hb).o1 | exact (st hb).o2 | exact (st hb).o3 | skip
  · exact hnext _ (_, _) [(1, .hp 3 0), (2, .hs 5)] (st hb).nx (st hb).ms ⟨⟨⟨rfl, rfl, fun _ => rfl⟩, ⟨rfl, rfl, leHP rfl⟩, ⟨rfl, rfl, fun _ => rfl⟩, trivial⟩, ⟨⟨rfl, rfl, fun _ => rfl⟩, ⟨rfl, rfl, fun _ => rfl⟩, ⟨rfl, rfl, rfl, rfl, fun h => h⟩, trivial⟩, rfl, rfl, rfl, rfl⟩
  · apply hexit
    have em := en hb
    clear hexit hnext hret st en hb
    cbv
    repeat' first | (with_reducible intro hb; cbv) | with_reducible refine And.intro ?_ ?_
    all_goals first | exact em.o1 | exact em.o2 | exact em.o3 | exact em.o4 | exact em.o5 | exact em.o6 | skip
    · refine hk _ _ (Good.pure rfl fun ρ => ?_)
      subst hT
      exact retS (em.r1 hb).symm
    · rename_i hb0
      refine hk _ _ (Good.pure rfl fun ρ => ?_)
      subst hT
      exact retS (em.r2 hb0 hb).symm
    · rename_i hb0
      refine hk _ _ (Good.pure rfl fun ρ => ?_)
      subst hT
      exact retS (em.r3 hb0 hb).symm

def tN19 (A : Alg) (S : SW) (V : SV) (T : ST) : List (Nat × Sem') := (22, heapSem [.v] A (gText T)) :: ((tN18 A S V T))
theorem tN19OK : COK Try.prog (look (tN19 stdA stdW stdV stdT)) := COK_cons ok_wtext (tN18OK)
end Go.Eng
