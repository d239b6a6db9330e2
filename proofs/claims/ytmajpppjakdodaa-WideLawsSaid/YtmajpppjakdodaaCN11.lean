/- Contracts: whole numbers, the Gcd. -/
import Derived.Test.YtmajpppjakdodaaCN9
namespace Go.Eng
open Go.Proofs
set_option maxRecDepth 100000
set_option linter.all false
set_option exponentiation.threshold 3000

def gGcdZ (V : SV) : List CV → List Blk → Option LR
  | [.g [.W x], .g [.W y]], [] => some ⟨[], .c (.g [.W (V.gcd x y)]), []⟩
  | _, _ => none

/-- the loop's test -/
theorem gcd_test (p : Wd) (A : Alg) (hA : A = stdA) (S : SW) (hS : S = stdW) : (A.cmp .gtr (S.size p.d) 2 = true → p.d.n ≠ 0) ∧ (A.cmp .gtr (S.size p.d) 2 = false → p.d.n < 2 ^ 64) ∧ (A.cmp .gtr (S.size p.d) 0 = true → p.d.n ≠ 0) ∧ (A.cmp .gtr (S.size p.d) 0 = false → p.d.n = 0) ∧
    (A.cmp .eql (S.size p.d) 0 = true → p.d.n = 0) ∧ (A.cmp .eql (S.size p.d) 0 = false → p.d.n ≠ 0) := by
  subst hA hS
  have z := dSize_le p.d 0
  rw [show 32 * 0 = 0 from rfl, Nat.pow_zero] at z
  obtain ⟨z1, z2⟩ := dSize_zero p.d
  have zz : dSize p.d = 0 ↔ p.d.n = 0 := ⟨fun h => by have := z.1 (by omega); omega, fun h => by have := z.2 (by omega); omega⟩
  refine ⟨fun h => ?_, fun h => ?_, fun h => ?_, fun h => ?_, z1, z2⟩
  · have h : (dSize p.d : Int) > 2 := of_decide_eq_true h
    intro h0; have := zz.2 h0; omega
  · have h : ¬ (dSize p.d : Int) > 2 := of_decide_eq_false h
    exact dSize_le2' _ h
  · have h : (dSize p.d : Int) > 0 := of_decide_eq_true h
    intro h0; have := zz.2 h0; omega
  · have h : ¬ (dSize p.d : Int) > 0 := of_decide_eq_false h
    exact zz.1 (by omega)

/-- numbers of two words -/
def GsI (g : Nat) (a b : Int) : Prop := 0 ≤ a ∧ a < 18446744073709551616 ∧ 0 ≤ b ∧ b < 18446744073709551616 ∧ Nat.gcd a.toNat b.toNat = g

theorem GsI.init (p q : Wd) (g : Nat) (A : Alg) (hA : A = stdA) (hp : p.d.n < 2 ^ 64) (hq : q.d.n < 2 ^ 64) (hg : Nat.gcd p.d.n q.d.n = g) :
    GsI g (A.bin .or .u64 (A.bin .shl .u64 (A.wrap .u64 (A.dig p.d 1)) 32) (A.wrap .u64 (A.dig p.d 0))) (A.bin .or .u64 (A.bin .shl .u64 (A.wrap .u64 (A.dig q.d 1)) 32) (A.wrap .u64 (A.dig q.d 0))) := by
  subst hA
  have e1 := to_u64 p.d hp
  have e2 := to_u64 q.d hq
  show GsI g (stdBin .or .u64 (stdBin .shl .u64 (IntKind.u64.wrap ((p.d.dig 1 : Nat) : Int)) 32) (IntKind.u64.wrap ((p.d.dig 0 : Nat) : Int))) (stdBin .or .u64 (stdBin .shl .u64 (IntKind.u64.wrap ((q.d.dig 1 : Nat) : Int)) 32) (IntKind.u64.wrap ((q.d.dig 0 : Nat) : Int)))
  rw [e1, e2]
  exact ⟨by omega, by omega, by omega, by omega, by rw [Int.toNat_natCast, Int.toNat_natCast]; exact hg⟩

theorem GsI.step {g : Nat} {a b : Int} (h : GsI g a b) (A : Alg) (hA : A = stdA) (hb : A.cmp .neq b 0 = true) : GsI g b (A.bin .rem .u64 a b) ∧ (A.bin .rem .u64 a b).toNat < b.toNat := by
  subst hA
  obtain ⟨p1, p2, p3, p4, p5⟩ := h
  have hb : (b != 0) = true := hb
  rw [bne_iff_ne] at hb
  have hx : stdA.bin .rem .u64 a b = a % b := by
    show a.tmod b = _
    rw [Int.tmod_eq_emod_of_nonneg p1]
  have h1 := Int.emod_nonneg a hb
  have h2 := Int.emod_lt_of_pos a (show 0 < b by omega)
  rw [hx]
  refine ⟨⟨p3, p4, h1, by omega, ?_⟩, by omega⟩
  rw [← p5, Int.toNat_emod p1 p3, Nat.gcd_comm, ← Nat.gcd_rec, Nat.gcd_comm]

structure GsEnd (A : Alg) (S : SW) (g : Nat) (a : Int) : Prop where
  o1 : A.cmp .leq 0 (A.wrap .u32 (A.bin .and .u64 a 4294967295)) = true
  o2 : A.cmp .lss (A.wrap .u32 (A.bin .and .u64 a 4294967295)) 4294967296 = true
  o3 : A.cmp .leq 0 (A.wrap .u32 (A.bin .shr .u64 a 32)) = true
  o4 : A.cmp .lss (A.wrap .u32 (A.bin .shr .u64 a 32)) 4294967296 = true
  res : S.told false (A.setD (A.setD Dg.zero 0 (A.wrap .u32 (A.bin .and .u64 a 4294967295))) 1 (A.wrap .u32 (A.bin .shr .u64 a 32))) = ⟨false, mk1024 g⟩

theorem GsI.fin {g : Nat} {a b : Int} (h : GsI g a b) (A : Alg) (hA : A = stdA) (S : SW) (hS : S = stdW) (hb : A.cmp .neq b 0 = false) : GsEnd A S g a := by
  subst hA hS
  obtain ⟨p1, p2, p3, p4, p5⟩ := h
  have hb : (b != 0) = false := hb
  rw [bne_eq_false_iff_eq] at hb
  subst hb
  rw [show (0 : Int).toNat = 0 from rfl, Nat.gcd_zero_right] at p5
  have hw : 0 ≤ IntKind.u32.wrap (stdBin .and .u64 a 4294967295) ∧ IntKind.u32.wrap (stdBin .and .u64 a 4294967295) < 4294967296 ∧ 0 ≤ IntKind.u32.wrap (stdBin .shr .u64 a 32) ∧ IntKind.u32.wrap (stdBin .shr .u64 a 32) < 4294967296 := by rw [IntKind.wrap_u32, IntKind.wrap_u32]; omega
  refine ⟨(word_ok _ hw.1 hw.2.1).1, (word_ok _ hw.1 hw.2.1).2, (word_ok _ hw.2.2.1 hw.2.2.2).1, (word_ok _ hw.2.2.1 hw.2.2.2).2, ?_⟩
  show tld false (stdA.setD (stdA.setD Dg.zero 0 (IntKind.u32.wrap (stdBin .and .u64 a 4294967295))) 1 (IntKind.u32.wrap (stdBin .shr .u64 a 32))) = _
  rw [from_words a p1 p2, p5]; rfl

theorem ok_wgcd : CallOK Try.prog 20 (heapSem [.v, .v] stdA (gGcdZ stdV)) := by
  refine callOK_heap (un := ⟨false, some [2,3,4,27,40,63,8,9,5,6]⟩) tok tN13OK mixed (fn := Try.f20) (by kernel_rfl) (by kernel_rfl) (by kernel_rfl) (by decide +kernel) ?_
  intro w Wr args bs r hg ho hWr A L k hA hL hk
  obtain ⟨S, hS⟩ : ∃ S, S = stdW := ⟨_, rfl⟩
  obtain ⟨V, hV⟩ : ∃ V, V = stdV := ⟨_, rfl⟩
  (try rw [← hS])
  (try rw [← hV])
  (try rw [← hA])
  unfold gGcdZ at hg
  split at hg
  rotate_left
  · cases hg
  simp only [Option.some.injEq] at hg
  subst hg
  rename_i x y
  have hx : (⟨false, x.d⟩ : Wd).d = x.d := rfl
  have gp := gcd_plain x y
  have i0 : GcI x y ⟨false, x.d⟩ ⟨false, y.d⟩ := ⟨rfl, rfl, rfl⟩
  cbv
  refine hL _ _ _ (loop_rule (un := ⟨false, some [2,3,4,27,40,63,8,9,5,6]⟩) tok tN13OK mixed (fun p : Wd × Wd => ⟨[(2, ⟨[], .c (.s (.hp 0 0))⟩), (3, ⟨[], .c (.s (.hp 1 0))⟩), (4, ⟨[], .c (.s (.hp 2 0))⟩)], [(0, .fix true [.W p.1]), (1, .fix true [.W p.2]), (2, .fix true [.W ⟨false, Dg.zero⟩])], 3⟩)
    (fun p => GcI x y p.1 p.2) (fun p => p.2.d.n) (⟨false, x.d⟩, ⟨false, y.d⟩) i0 ?_ (fun _ i hi => by have := hWr i hi; simp at this ⊢) ?_)
  · exact ⟨⟨⟨rfl, rfl, fun _ => rfl⟩, ⟨rfl, rfl, fun _ => rfl⟩, ⟨rfl, rfl, fun _ => rfl⟩, trivial⟩, ⟨leRefl rfl, leRefl rfl, leRefl rfl, trivial⟩, rfl, rfl⟩
  clear i0 hx
  rintro ⟨p, q⟩ hI A2 L2 k2 hA2 hL2 hnext hexit hret
  have tq := gcd_test q A2 hA2 S hS
  have tp := gcd_test p A2 hA2 S hS
  have st := fun h => GcI.step hI (q := q) h
  rw [← hA2, ← hS, ← hV]
  cbv
  repeat' first | (with_reducible intro hb; cbv) | with_reducible refine And.intro ?_ ?_
  · have h0 := st (tq.1 hb)
    refine hnext _ (_, V.dmR p q) (by subst hV; exact h0.1) (by subst hV; exact h0.2) ?_
    exact ⟨⟨⟨rfl, rfl, fun _ => rfl⟩, ⟨rfl, rfl, fun _ => rfl⟩, ⟨rfl, rfl, fun _ => rfl⟩, trivial⟩, ⟨leRefl rfl, leRefl rfl, leRefl rfl, trivial⟩, rfl, rfl⟩
  · have h0 := st (tq.2.2.1 hb)
    refine hnext _ (_, V.dmR p q) (by subst hV; exact h0.1) (by subst hV; exact h0.2) ?_
    exact ⟨⟨⟨rfl, rfl, fun _ => rfl⟩, ⟨rfl, rfl, fun _ => rfl⟩, ⟨rfl, rfl, fun _ => rfl⟩, trivial⟩, ⟨leRefl rfl, leRefl rfl, leRefl rfl, trivial⟩, rfl, rfl⟩
  · rename_i hb0 hb1
    apply hexit
    have hq64 := tq.2.1 hb0
    have hor : q.d.n = 0 ∨ p.d.n < 2 ^ 64 := .inl (tq.2.2.2.1 hb)
    have eA : A2 = A := hA2.trans hA.symm
    rw [eA] at tq
    clear hexit hnext hret
    obtain ⟨hp0, hq0, hg⟩ := hI
    have hp' : p.d.n = Nat.gcd x.d.n y.d.n → p = stdV.gcd x y := fun h => by rw [gp]; obtain ⟨b, d⟩ := p; simp only at hp0 h; subst hp0; congr 1; exact Dg.ext' h
    have hmk : (⟨false, mk1024 (Nat.gcd x.d.n y.d.n)⟩ : Wd) = stdV.gcd x y := by rw [gp]; congr 1; exact Dg.ext' (Nat.mod_eq_of_lt (gcd_lt x.d.lt y.d.lt))
    clear gp
    cbv
    with_reducible refine And.intro ?_ ?_
    · intro hb
      cbv
      have h0 := tq.2.2.2.2.1 hb
      refine hk _ _ (Good.pure rfl fun ρ => ?_)
      subst hV
      exact retW (hp' (by rw [← hg, h0, Nat.gcd_zero_right]))
    · intro hb
      have h0 := tq.2.2.2.2.2 hb
      have hp64 : p.d.n < 2 ^ 64 := hor.resolve_left h0
      have g0 := GsI.init p q _ A hA hp64 hq64 hg
      cbv
      refine hL _ _ _ (loop_rule (un := ⟨false, some [8, 9, 4, 63]⟩) tok tN13OK mixed (fun p : Int × Int => ⟨[(8, ⟨[], .c (.s (.int .u64 p.1))⟩), (9, ⟨[], .c (.s (.int .u64 p.2))⟩), (4, ⟨[], .c (.s (.hp 2 0))⟩)], [(2, .fix true [.W ⟨false, Dg.zero⟩])], 3⟩)
        (fun p => GsI (Nat.gcd x.d.n y.d.n) p.1 p.2) (fun p => p.2.toNat) (_, _) g0 ?_ (fun _ i hi => by have := hWr i hi; simp at this ⊢) ?_)
      · exact ⟨⟨⟨rfl, rfl, fun _ => rfl⟩, ⟨rfl, rfl, fun _ => rfl⟩, ⟨rfl, rfl, fun _ => rfl⟩, trivial⟩, ⟨leRefl rfl, trivial⟩, rfl, rfl⟩
      clear g0
      rintro ⟨a, b⟩ hI A3 L3 k3 hA3 hL3 hnext hexit hret
      have st := GsI.step hI A3 hA3
      have en := GsI.fin hI A3 hA3 S hS
      rw [← hA3, ← hS, ← hV]
      cbv
      repeat' first | (with_reducible intro hb; cbv) | with_reducible refine And.intro ?_ ?_
      · exact hb
      · exact hnext _ (_, _) (st hb).1 (st hb).2 ⟨⟨⟨rfl, rfl, fun _ => rfl⟩, ⟨rfl, rfl, fun _ => rfl⟩, ⟨rfl, rfl, fun _ => rfl⟩, trivial⟩, ⟨leRefl rfl, trivial⟩, rfl, rfl⟩
      · apply hexit
        have en := en hb
        have eA3 : A3 = A := hA3.trans hA.symm
        rw [eA3] at en
        clear hexit hnext hret st
        cbv
        repeat' first | (with_reducible intro hb; cbv) | with_reducible refine And.intro ?_ ?_
        all_goals first | exact en.o1 | exact en.o2 | exact en.o3 | exact en.o4 | skip
        refine hk _ _ (Good.pure rfl fun ρ => ?_)
        subst hV
        exact retW (en.res.trans hmk)
  · rename_i hb0
    apply hexit
    have hq64 := tq.2.1 hb0
    have hor : q.d.n = 0 ∨ p.d.n < 2 ^ 64 := .inr (tp.2.1 hb)
    have eA : A2 = A := hA2.trans hA.symm
    rw [eA] at tq
    clear hexit hnext hret
    obtain ⟨hp0, hq0, hg⟩ := hI
    have hp' : p.d.n = Nat.gcd x.d.n y.d.n → p = stdV.gcd x y := fun h => by rw [gp]; obtain ⟨b, d⟩ := p; simp only at hp0 h; subst hp0; congr 1; exact Dg.ext' h
    have hmk : (⟨false, mk1024 (Nat.gcd x.d.n y.d.n)⟩ : Wd) = stdV.gcd x y := by rw [gp]; congr 1; exact Dg.ext' (Nat.mod_eq_of_lt (gcd_lt x.d.lt y.d.lt))
    clear gp
    cbv
    with_reducible refine And.intro ?_ ?_
    · intro hb
      cbv
      have h0 := tq.2.2.2.2.1 hb
      refine hk _ _ (Good.pure rfl fun ρ => ?_)
      subst hV
      exact retW (hp' (by rw [← hg, h0, Nat.gcd_zero_right]))
    · intro hb
      have h0 := tq.2.2.2.2.2 hb
      have hp64 : p.d.n < 2 ^ 64 := hor.resolve_left h0
      have g0 := GsI.init p q _ A hA hp64 hq64 hg
      cbv
      refine hL _ _ _ (loop_rule (un := ⟨false, some [8, 9, 4, 63]⟩) tok tN13OK mixed (fun p : Int × Int => ⟨[(8, ⟨[], .c (.s (.int .u64 p.1))⟩), (9, ⟨[], .c (.s (.int .u64 p.2))⟩), (4, ⟨[], .c (.s (.hp 2 0))⟩)], [(2, .fix true [.W ⟨false, Dg.zero⟩])], 3⟩)
        (fun p => GsI (Nat.gcd x.d.n y.d.n) p.1 p.2) (fun p => p.2.toNat) (_, _) g0 ?_ (fun _ i hi => by have := hWr i hi; simp at this ⊢) ?_)
      · exact ⟨⟨⟨rfl, rfl, fun _ => rfl⟩, ⟨rfl, rfl, fun _ => rfl⟩, ⟨rfl, rfl, fun _ => rfl⟩, trivial⟩, ⟨leRefl rfl, trivial⟩, rfl, rfl⟩
      clear g0
      rintro ⟨a, b⟩ hI A3 L3 k3 hA3 hL3 hnext hexit hret
      have st := GsI.step hI A3 hA3
      have en := GsI.fin hI A3 hA3 S hS
      rw [← hA3, ← hS, ← hV]
      cbv
      repeat' first | (with_reducible intro hb; cbv) | with_reducible refine And.intro ?_ ?_
      · exact hb
      · exact hnext _ (_, _) (st hb).1 (st hb).2 ⟨⟨⟨rfl, rfl, fun _ => rfl⟩, ⟨rfl, rfl, fun _ => rfl⟩, ⟨rfl, rfl, fun _ => rfl⟩, trivial⟩, ⟨leRefl rfl, trivial⟩, rfl, rfl⟩
      · apply hexit
        have en := en hb
        have eA3 : A3 = A := hA3.trans hA.symm
        rw [eA3] at en
        clear hexit hnext hret st
        cbv
        repeat' first | (with_reducible intro hb; cbv) | with_reducible refine And.intro ?_ ?_
        all_goals first | exact en.o1 | exact en.o2 | exact en.o3 | exact en.o4 | skip
        refine hk _ _ (Good.pure rfl fun ρ => ?_)
        subst hV
        exact retW (en.res.trans hmk)

def tN14 (A : Alg) (S : SW) (V : SV) : List (Nat × Sem') := (20, heapSem [.v, .v] A (gGcdZ V)) :: ((tN13 A S V))
theorem tN14OK : COK Try.prog (look (tN14 stdA stdW stdV)) := COK_cons ok_wgcd (tN13OK)
end Go.Eng
