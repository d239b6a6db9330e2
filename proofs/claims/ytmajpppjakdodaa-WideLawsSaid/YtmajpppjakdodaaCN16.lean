/- Contracts: whole numbers, Parse. -/
import Derived.Test.YtmajpppjakdodaaCN15
import Derived.Test.YtmajpppjakdodaaSpecNA
namespace Go.Eng
open Go.Proofs
set_option maxRecDepth 100000
set_option linter.all false
set_option exponentiation.threshold 3000

theorem leBo {a b : Bool} (h : a = b) : ∀ ρ, (XV.c (.s (.bool a))).den ρ = (XV.c (.s (.bool b))).den ρ := fun _ => by rw [h]

/-- what Parse tells once its text's body stands -/
def PsGood (s t : ByteArray) (z : Bool) : Prop := t.size ≤ 400 ∧ stdT.parse s = (match readL 0 (bytesI t) with
    | some n => ofZ (if z then -(n : Int) else n)
    | none => ⟨false, Dg.zero⟩) ∧ stdT.parseOK s = (readL 0 (bytesI t)).isSome

structure PsHead (A : Alg) (s t : ByteArray) (z : Bool) : Prop where
  p1 : A.imp (A.beq (A.not (A.seq s ⟨#[]⟩)) true) (A.cmp .leq 0 0) = true
  p2 : A.imp (A.beq (A.not (A.seq s ⟨#[]⟩)) true) (A.cmp .lss 0 (A.slen s)) = true
  p3 : A.cmp .leq 0 1 = true
  p4 : z = true → A.cmp .leq 1 (A.slen s) = true
  p5 : A.cmp .leq (A.slen s) (A.slen s) = true
  q1 : A.imp (A.beq (A.ite (A.cmp .gtr (A.slen s) 400) true (A.seq t ⟨#[]⟩)) false) (A.cmp .leq 0 0) = true
  q2 : A.imp (A.beq (A.ite (A.cmp .gtr (A.slen s) 400) true (A.seq t ⟨#[]⟩)) false) (A.cmp .lss 0 (A.slen t)) = true
  bad : A.ite (A.ite (A.cmp .gtr (A.slen s) 400) true (A.seq t ⟨#[]⟩)) true (A.ite (A.cmp .eql (A.sb t 0) 48) (A.not (A.seq s ⟨#[48]⟩)) false) = true → stdT.parse s = ⟨false, Dg.zero⟩ ∧ stdT.parseOK s = false
  good : A.ite (A.ite (A.cmp .gtr (A.slen s) 400) true (A.seq t ⟨#[]⟩)) true (A.ite (A.cmp .eql (A.sb t 0) 48) (A.not (A.seq s ⟨#[48]⟩)) false) = false → PsGood s t z
  k1 : A.cmp .leq (-9223372036854775808) 10 = true
  k2 : A.cmp .lss 10 9223372036854775808 = true

theorem headD_getD (l : List Int) : l.headD 0 = l.getD 0 0 := by cases l <;> rfl

def optW : Option Int → Wd
  | some z => ofZ z
  | none => ⟨false, Dg.zero⟩

theorem parse_eq (s : ByteArray) : stdT.parse s = optW (parseL (bytesI s)) := by
  show (match parseL (bytesI s) with | some z => ofZ z | none => ⟨false, Dg.zero⟩) = _
  cases parseL (bytesI s) <;> rfl

theorem parse_of (s : ByteArray) (r : Option Int) (h : parseL (bytesI s) = r) : stdT.parse s = optW r ∧ stdT.parseOK s = r.isSome := by
  refine ⟨by rw [parse_eq, h], ?_⟩
  show (parseL (bytesI s)).isSome = _
  rw [h]

theorem ps_head (s t : ByteArray) (z : Bool) (A : Alg) (hA : A = stdA) (hz : A.ite (A.not (A.seq s ⟨#[]⟩)) (A.cmp .eql (A.sb s 0) 45) false = z) (ht : t = if z then A.ssub s 1 (A.slen s) else s) : PsHead A s t z := by
  subst hA
  have hs0 : ∀ b, stdA.seq s ⟨#[]⟩ = b → decide (bytesI s = []) = b := fun b h => seq_eq s _ _ bytesI_nil b h
  have ht0 : ∀ b, stdA.seq t ⟨#[]⟩ = b → decide (bytesI t = []) = b := fun b h => seq_eq t _ _ bytesI_nil b h
  have hs1 : ∀ b, stdA.seq s ⟨#[48]⟩ = b → decide (bytesI s = [48]) = b := fun b h => seq_eq s _ _ bytesI_zero b h
  have hl := bytesI_len s
  have hlt := bytesI_len t
  have es : ∀ u : ByteArray, bytesI u ≠ [] → stdA.sb u 0 = (bytesI u).headD 0 := fun u h => by
    have h1 := bytesI_len u
    have h2 : 0 < (bytesI u).length := List.length_pos_iff.2 h
    rw [sb_eq u 0 (Int.le_refl 0) (by omega), headD_getD]; rfl
  have hz' : z = decide (bytesI s ≠ [] ∧ (bytesI s).headD 0 = 45) := by
    rw [← hz]
    show (if (!stdA.seq s ⟨#[]⟩) = true then (stdA.sb s 0 == 45) else false) = _
    have e := hs0 _ rfl
    rw [← e]
    by_cases h : bytesI s = []
    · simp [h]
    · rw [es s h, Bool.eq_iff_iff]; simp [h]
  have hb : bodyL (bytesI s) = bytesI t := by
    unfold bodyL
    rw [ht]
    cases hzz : z
    · rw [hz', decide_eq_false_iff_not] at hzz
      rw [if_neg hzz]; rfl
    · rw [hz', decide_eq_true_eq] at hzz
      rw [if_pos hzz, if_pos rfl, bytesI_tail, List.drop_one]
  have hcond : ∀ b, stdA.ite (stdA.ite (stdA.cmp .gtr (stdA.slen s) 400) true (stdA.seq t ⟨#[]⟩)) true (stdA.ite (stdA.cmp .eql (stdA.sb t 0) 48) (stdA.not (stdA.seq s ⟨#[48]⟩)) false) = b →
      decide (400 < (bytesI s).length ∨ bytesI t = [] ∨ ((bytesI t).headD 0 = 48 ∧ bytesI s ≠ [48])) = b := fun b h => by
    rw [← h]
    show _ = (if (if decide ((s.size : Int) > 400) = true then true else stdA.seq t ⟨#[]⟩) = true then true else if (stdA.sb t 0 == 48) = true then (!stdA.seq s ⟨#[48]⟩) else false)
    rw [← ht0 _ rfl, ← hs1 _ rfl, hl]
    by_cases h1 : (s.size : Int) > 400
    · have : 400 < s.size := by omega
      simp [h1, this]
    · have h1' : ¬ 400 < s.size := by omega
      by_cases h2 : bytesI t = []
      · simp [h2]
      · rw [es t h2]
        simp only [h1, h1', h2, decide_false, Bool.false_eq_true, if_false, false_or]
        by_cases h3 : (bytesI t).headD 0 = 48 <;> by_cases h4 : bytesI s = [48] <;> simp [h3, h4]
  have imp : ∀ a b : Bool, (a = true → b = true) → stdA.imp (stdA.beq a true) b = true := fun a b h => by
    show (!(a == true) || b) = true
    cases a
    · rfl
    · rw [h rfl]; rfl
  have imp0 : ∀ a b : Bool, (a = false → b = true) → stdA.imp (stdA.beq a false) b = true := fun a b h => by
    show (!(a == false) || b) = true
    cases a
    · rw [h rfl]; rfl
    · rfl
  have z00 : stdA.cmp .leq 0 0 = true := rfl
  have pos : ∀ u : ByteArray, bytesI u ≠ [] → 0 < u.size := fun u h => by rw [← bytesI_len]; exact List.length_pos_iff.2 h
  exact {
    p1 := imp _ _ fun _ => z00
    p2 := imp _ _ fun h => by
      have h : (!stdA.seq s ⟨#[]⟩) = true := h
      rw [Bool.not_eq_true'] at h
      have := pos s (of_decide_eq_false (hs0 _ h))
      exact lss_of _ rfl _ _ (show (0 : Int) < (s.size : Int) by omega)
    p3 := rfl
    p4 := fun h => by
      rw [hz', decide_eq_true_eq] at h
      have := pos s h.1
      exact leq_of _ rfl _ _ (show (1 : Int) ≤ (s.size : Int) by omega)
    p5 := leq_of _ rfl _ _ (Int.le_refl _)
    q1 := imp0 _ _ fun _ => z00
    q2 := imp0 _ _ fun h => by
      have h : (if decide ((s.size : Int) > 400) = true then true else stdA.seq t ⟨#[]⟩) = false := h
      split at h
      · cases h
      · have := pos t (of_decide_eq_false (ht0 _ h))
        exact lss_of _ rfl _ _ (show (0 : Int) < (t.size : Int) by omega)
    bad := fun h => by
      have h' := of_decide_eq_true (hcond _ h)
      refine parse_of s none ?_
      unfold parseL
      rw [hb, if_pos h']
    good := fun h => by
      have h' := of_decide_eq_false (hcond _ h)
      obtain ⟨r, hr⟩ : ∃ r, r = readL 0 (bytesI t) := ⟨_, rfl⟩
      have hp : parseL (bytesI s) = r.map fun n => if bytesI s ≠ [] ∧ (bytesI s).headD 0 = 45 then -(n : Int) else n := by
        unfold parseL
        rw [hb, if_neg h', hr]
      obtain ⟨g1, g2⟩ := parse_of s _ hp
      have hsz : t.size ≤ 400 := by
        have h1 : s.size ≤ 400 := by rw [← hl]; exact Nat.le_of_not_lt fun hh => h' (.inl hh)
        have h2 : (bytesI t).length ≤ (bytesI s).length := by
          rw [← hb]; unfold bodyL
          split
          · rw [List.length_tail]; omega
          · exact Nat.le_refl _
        omega
      unfold PsGood
      rw [← hr]
      refine ⟨hsz, ?_, ?_⟩
      · rw [g1]
        cases r with
        | none => rfl
        | some n =>
          show ofZ (if bytesI s ≠ [] ∧ (bytesI s).headD 0 = 45 then -(n : Int) else n) = ofZ (if z = true then -(n : Int) else n)
          rw [hz']
          by_cases hh : bytesI s ≠ [] ∧ (bytesI s).headD 0 = 45
          · rw [if_pos hh, if_pos (decide_eq_true hh)]
          · rw [if_neg hh, if_neg (by simpa using hh)]
      · rw [g2]; cases r <;> rfl
    k1 := rfl
    k2 := rfl }

/-- what the loop keeps -/
def PsI (t : ByteArray) (i : Int) (a : Wd) : Prop := 0 ≤ i ∧ i ≤ t.size ∧ ∃ n : Nat, a = ofZ (n : Int) ∧ n < 2 ^ 1024 ∧ readL 0 (bytesI t) = readL n ((bytesI t).drop i.toNat)

theorem PsI.init (t : ByteArray) : PsI t 0 ⟨false, Dg.zero⟩ := ⟨Int.le_refl 0, Int.natCast_nonneg _, 0, rfl, Nat.two_pow_pos _, by rw [show (0 : Int).toNat = 0 from rfl, List.drop_zero]⟩

structure PsStep (A : Alg) (V : SV) (S : SW) (t : ByteArray) (i : Int) (a : Wd) (c d : Int) : Prop where
  o1 : A.cmp .leq 0 i = true
  o2 : A.cmp .lss i (A.slen t) = true
  o3 : A.imp (A.beq (A.cmp .lss c 48) false) (A.cmp .leq 0 i) = true
  o4 : A.imp (A.beq (A.cmp .lss c 48) false) (A.cmp .lss i (A.slen t)) = true
  o5 : A.cmp .leq (-9223372036854775808) d = true
  o6 : A.cmp .lss d 9223372036854775808 = true
  bad : A.ite (A.cmp .lss c 48) true (A.cmp .gtr c 57) = true → readL 0 (bytesI t) = none
  over : A.ite (A.cmp .lss c 48) true (A.cmp .gtr c 57) = false → A.ite (A.not (V.mulOK a (S.from64 10))) true (A.not (V.addOK (V.mul a (S.from64 10)) (S.from64 d))) = true → readL 0 (bytesI t) = none
  nx : A.ite (A.cmp .lss c 48) true (A.cmp .gtr c 57) = false → A.ite (A.not (V.mulOK a (S.from64 10))) true (A.not (V.addOK (V.mul a (S.from64 10)) (S.from64 d))) = false → PsI t (i + 1) (V.add (V.mul a (S.from64 10)) (S.from64 d))
  ad : t.size ≤ 400 → A.bin .add .i64 i 1 = i + 1
  ms : ((t.size : Int) - (i + 1)).toNat < ((t.size : Int) - i).toNat

theorem ps_step {t : ByteArray} {i : Int} {a : Wd} (hI : PsI t i a) (A : Alg) (hA : A = stdA) (V : SV) (hV : V = stdV) (S : SW) (hS : S = stdW) (hb : A.cmp .lss i (A.slen t) = true) (c d : Int) (hc : c = A.sb t i) (hd : d = A.wrap .i64 (A.bin .sub .u8 c 48)) : PsStep A V S t i a c d := by
  subst hA hV hS
  have hb' : i < (t.size : Int) := of_decide_eq_true hb
  obtain ⟨i0, i1, n, ha, hn, hr⟩ := hI
  have hl := bytesI_len t
  have hc' : c = (bytesI t).getD i.toNat 0 := by rw [hc]; exact sb_eq t i i0 hb'
  have hdr : (bytesI t).drop i.toNat = c :: (bytesI t).drop (i + 1).toNat := by
    have hlt : i.toNat < (bytesI t).length := by omega
    rw [show (i + 1).toNat = i.toNat + 1 by omega, List.drop_eq_getElem_cons hlt, hc', List.getD, List.getElem?_eq_getElem hlt]; rfl
  have hcb : 0 ≤ c ∧ c < 256 := by
    refine bytesI_byte t c ?_
    have : c ∈ (bytesI t).drop i.toNat := by rw [hdr]; exact List.mem_cons_self ..
    exact List.mem_of_mem_drop this
  rw [hdr, readL_cons] at hr
  have hd' : d = IntKind.i64.wrap (IntKind.u8.wrap (c - 48)) := hd
  rw [IntKind.wrap_u8, IntKind.wrap_i64] at hd'
  have o1 : stdA.cmp .leq 0 i = true := leq_of _ rfl _ _ i0
  have imp0 : ∀ a b : Bool, b = true → stdA.imp a b = true := fun a b h => by show (!a || b) = true; rw [h]; simp
  have hcc : ∀ b, stdA.ite (stdA.cmp .lss c 48) true (stdA.cmp .gtr c 57) = b → decide (c < 48 ∨ 57 < c) = b := fun b h => by
    rw [← h]
    show _ = (if decide (c < 48) = true then true else decide (c > 57))
    by_cases h1 : c < 48 <;> simp [h1]
  have hdc : 48 ≤ c → c ≤ 57 → d = (((c - 48).toNat : Nat) : Int) := fun h1 h2 => by omega
  obtain ⟨m1, m2⟩ := ofZ_mul10 n hn
  have hoo : ¬ (c < 48 ∨ 57 < c) → ∀ b, stdA.ite (stdA.not (stdV.mulOK a (stdW.from64 10))) true (stdA.not (stdV.addOK (stdV.mul a (stdW.from64 10)) (stdW.from64 d))) = b → decide (¬ (n * 10 < 2 ^ 1024 ∧ n * 10 + (c - 48).toNat < 2 ^ 1024)) = b := fun h b hb => by
    rw [← hb]
    show _ = (if (!stdV.mulOK a (stdW.from64 10)) = true then true else (!stdV.addOK (stdV.mul a (stdW.from64 10)) (stdW.from64 d)))
    rw [ha, m1]
    by_cases h1 : n * 10 < 2 ^ 1024
    · rw [m2 h1, hdc (by omega) (by omega), (ofZ_addC (n * 10) (c - 48).toNat h1 (by omega)).1]
      simp only [h1, decide_true, Bool.not_true, Bool.false_eq_true, if_false, true_and]
      by_cases h2 : n * 10 + (c - 48).toNat < 2 ^ 1024 <;> simp [h2]
    · simp [h1]
  exact {
    o1 := o1
    o2 := hb
    o3 := imp0 _ _ o1
    o4 := imp0 _ _ hb
    o5 := leq_of _ rfl _ _ (by omega)
    o6 := lss_of _ rfl _ _ (by omega)
    bad := fun h => by rw [hr, if_pos (of_decide_eq_true (hcc _ h))]
    over := fun h h2 => by
      have h1 := of_decide_eq_false (hcc _ h)
      rw [hr, if_neg h1, if_neg (of_decide_eq_true (hoo h1 _ h2))]
    nx := fun h h2 => by
      have h1 := of_decide_eq_false (hcc _ h)
      have h3 := Decidable.of_not_not (of_decide_eq_false (hoo h1 _ h2))
      refine ⟨by omega, by omega, n * 10 + (c - 48).toNat, ?_, h3.2, ?_⟩
      · rw [ha, m2 h3.1, hdc (by omega) (by omega)]
        exact (ofZ_addC (n * 10) (c - 48).toNat h3.1 (by omega)).2 h3.2
      · rw [hr, if_neg h1, if_pos h3]
    ad := fun _ => by show stdBin .add .i64 i 1 = i + 1; simp only [stdBin, IntKind.wrap_i64]; omega
    ms := by omega }

theorem ps_end {t : ByteArray} {i : Int} {a : Wd} (hI : PsI t i a) (A : Alg) (hA : A = stdA) (hb : A.cmp .lss i (A.slen t) = false) : ∃ n : Nat, a = ofZ (n : Int) ∧ n < 2 ^ 1024 ∧ readL 0 (bytesI t) = some n := by
  subst hA
  have hb : ¬ i < (t.size : Int) := of_decide_eq_false hb
  obtain ⟨i0, i1, n, ha, hn, hr⟩ := hI
  have hl := bytesI_len t
  rw [List.drop_eq_nil_of_le (by omega)] at hr
  exact ⟨n, ha, hn, by rw [hr]; rw [readL]⟩

theorem PsGood.none {s t : ByteArray} {z : Bool} (h : PsGood s t z) (hr : readL 0 (bytesI t) = none) : stdT.parse s = ⟨false, Dg.zero⟩ ∧ stdT.parseOK s = false := by
  obtain ⟨_, h1, h2⟩ := h
  rw [hr] at h1 h2
  exact ⟨h1, h2⟩

theorem PsGood.some {s t : ByteArray} {z : Bool} (h : PsGood s t z) {n : Nat} (hr : readL 0 (bytesI t) = some n) : stdT.parse s = ofZ (if z then -(n : Int) else n) ∧ stdT.parseOK s = true := by
  obtain ⟨_, h1, h2⟩ := h
  rw [hr] at h1 h2
  exact ⟨h1, h2⟩

def gParse (T : ST) : List CV → List Blk → Option LR
  | [.s (.str s)], [] => some ⟨[], .t [.g [.W (T.parse s)], .s (.bool (T.parseOK s))], []⟩
  | _, _ => none

theorem ok_wparse : CallOK Try.prog 23 (heapSem [.v] stdA (gParse stdT)) := by
  refine callOK_heap (un := ⟨false, some [0,2,3,4,5,6,7,21,39,44,45,85]⟩) tok tN19OK mixed (fn := Try.f23) (by kernel_rfl) (by kernel_rfl) (by kernel_rfl) (by decide +kernel) ?_
  intro w Wr args bs r hg ho hWr A L k hA hL hk
  obtain ⟨S, hS⟩ : ∃ S, S = stdW := ⟨_, rfl⟩
  obtain ⟨T, hT⟩ : ∃ T, T = stdT := ⟨_, rfl⟩
  obtain ⟨V, hV⟩ : ∃ V, V = stdV := ⟨_, rfl⟩
  (try rw [← hS])
  (try rw [← hT])
  (try rw [← hV])
  (try rw [← hA])
  unfold gParse at hg
  split at hg
  rotate_left
  · cases hg
  simp only [Option.some.injEq] at hg
  subst hg
  rename_i s
  have hd := fun (z : Bool) (hz : A.ite (A.not (A.seq s ⟨#[]⟩)) (A.cmp .eql (A.sb s 0) 45) false = z) => ps_head s _ z A hA hz rfl
  have h1 := fun hz => hd true hz
  have h0 := fun hz => hd false hz
  simp only [if_true, Bool.false_eq_true, if_false] at h1 h0
  have hp := hd _ rfl
  have p1 := hp.p1
  have p2 := hp.p2
  clear hd hp
  cbv
  repeat' first | (with_reducible intro hb; cbv) | with_reducible refine And.intro ?_ ?_
  all_goals first | exact p1 | exact p2 | (replace h1 := h1 hb; first | exact h1.p3 | exact h1.p4 rfl | exact h1.p5 | exact h1.q1 | exact h1.q2) | (replace h0 := h0 hb; first | exact h0.q1 | exact h0.q2) | skip
  · rename_i hb0
    replace h1 := (h1 hb0).bad hb
    refine hk _ _ (Good.pure rfl fun ρ => ?_)
    subst hT
    exact tupWt h1.1.symm h1.2.symm
  · rename_i hb0
    exact (h1 hb0).k1
  · rename_i hb0
    exact (h1 hb0).k2
  · rename_i hb0
    have hg := (h1 hb0).good hb
    obtain ⟨t, ht⟩ : ∃ t, t = A.ssub s 1 (A.slen s) := ⟨_, rfl⟩
    have hg : PsGood s t true := by rw [ht]; exact hg
    have i0 := PsI.init t
    clear h1 h0
    refine hL _ _ _ (loop_rule (un := ⟨false, some [2, 3, 4, 5, 6, 7, 8, 9, 10, 11, 12, 44, 45, 46, 57, 81]⟩) tok tN19OK mixed (fun p : Int × Wd => ⟨[(45, ⟨[], .c (.s (.int .i64 p.1))⟩), (44, ⟨[], .c (.s (.int .i64 (stdA.slen t)))⟩), (4, ⟨[], .c (.s (.str t))⟩), (5, ⟨[], .c (.s (.bool true))⟩), (6, ⟨[], .c (.s (.hp 1 0))⟩), (7, ⟨[], .c (.s (.hp 2 0))⟩), (2, ⟨[], .c (.s (.hp 0 0))⟩)], [(0, .fix true [.W ⟨false, Dg.zero⟩]), (1, .fix true [.W p.2]), (2, .fix true [.W (stdW.from64 10)])], 3⟩)
      (fun p => PsI t p.1 p.2) (fun p => ((t.size : Int) - p.1).toNat) (0, ⟨false, Dg.zero⟩) i0 ?_ (fun _ i hi => by have := hWr i hi; simp at this) ?_)
    · subst hS ht hA
      exact ⟨⟨⟨rfl, rfl, fun _ => rfl⟩, ⟨rfl, rfl, fun _ => rfl⟩, ⟨rfl, rfl, fun _ => rfl⟩, ⟨rfl, rfl, leBo hb0⟩, ⟨rfl, rfl, fun _ => rfl⟩, ⟨rfl, rfl, fun _ => rfl⟩, ⟨rfl, rfl, fun _ => rfl⟩, trivial⟩, ⟨leRefl rfl, leRefl rfl, leRefl rfl, trivial⟩, rfl, rfl⟩
    clear i0 hb hb0 ht
    rintro ⟨i, a⟩ hI A2 L2 k2 hA2 hL2 hnext hexit hret
    have st := fun hb : A2.cmp .lss i (A2.slen t) = true => ps_step hI A2 hA2 V hV S hS hb _ _ rfl rfl
    have en := fun hb : A2.cmp .lss i (A2.slen t) = false => ps_end hI A2 hA2 hb
    clear hI
    rw [← hA2, ← hS, ← hV]
    cbv
    repeat' first | (with_reducible intro hb; cbv) | with_reducible refine And.intro ?_ ?_
    all_goals first | exact (st hb).o1 | exact (st hb).o2 | exact (st hb).o3 | exact (st hb).o4 | (rename_i hb0; exact (st hb0).o1) | (rename_i hb0; exact (st hb0).o2) | (rename_i hb0; exact (st hb0).o5) | (rename_i hb0; exact (st hb0).o6) | skip
    · rename_i hb0
      have hz := hg.none ((st hb0).bad hb)
      apply hret
      clear hexit hnext hret st en
      cbv
      refine hk _ _ (Good.pure rfl fun ρ => ?_)
      subst hT
      exact tupWt hz.1.symm hz.2.symm
    · rename_i hb0 hb1
      have hz := hg.none ((st hb0).over hb1 hb)
      apply hret
      clear hexit hnext hret st en
      cbv
      refine hk _ _ (Good.pure rfl fun ρ => ?_)
      subst hT
      exact tupWt hz.1.symm hz.2.symm
    · rename_i hb0 hb1
      refine hnext _ (i + 1, _) ((st hb0).nx hb1 hb) (st hb0).ms ?_
      have ead := (st hb0).ad hg.1
      subst hA2 hS
      exact ⟨⟨⟨rfl, rfl, leI ead⟩, ⟨rfl, rfl, fun _ => rfl⟩, ⟨rfl, rfl, fun _ => rfl⟩, ⟨rfl, rfl, fun _ => rfl⟩, ⟨rfl, rfl, fun _ => rfl⟩, ⟨rfl, rfl, fun _ => rfl⟩, ⟨rfl, rfl, fun _ => rfl⟩, trivial⟩, ⟨leRefl rfl, leRefl rfl, leRefl rfl, trivial⟩, rfl, rfl⟩
    · obtain ⟨n, e1, e2, e3⟩ := en hb
      have hz := hg.some e3
      have hneg := neg_ofZ n e2
      apply hexit
      clear hexit hnext hret st en
      cbv
      with_reducible refine And.intro ?_ ?_
      · intro hb
        cbv
        refine hk _ _ (Good.pure rfl fun ρ => ?_)
        subst hT hS e1
        exact tupWt (hneg.trans hz.1.symm) hz.2.symm
      · intro hb
        cases hb
  · rename_i hb0
    replace h0 := (h0 hb0).bad hb
    refine hk _ _ (Good.pure rfl fun ρ => ?_)
    subst hT
    exact tupWt h0.1.symm h0.2.symm
  · rename_i hb0
    exact (h0 hb0).k1
  · rename_i hb0
    exact (h0 hb0).k2
  · rename_i hb0
    have hg := (h0 hb0).good hb
    obtain ⟨t, ht⟩ : ∃ t, t = s := ⟨_, rfl⟩
    have hg : PsGood s t false := by rw [ht]; exact hg
    have i0 := PsI.init t
    clear h1 h0
    refine hL _ _ _ (loop_rule (un := ⟨false, some [2, 3, 4, 5, 6, 7, 8, 9, 10, 11, 12, 44, 45, 46, 57, 81]⟩) tok tN19OK mixed (fun p : Int × Wd => ⟨[(45, ⟨[], .c (.s (.int .i64 p.1))⟩), (44, ⟨[], .c (.s (.int .i64 (stdA.slen t)))⟩), (4, ⟨[], .c (.s (.str t))⟩), (5, ⟨[], .c (.s (.bool false))⟩), (6, ⟨[], .c (.s (.hp 1 0))⟩), (7, ⟨[], .c (.s (.hp 2 0))⟩), (2, ⟨[], .c (.s (.hp 0 0))⟩)], [(0, .fix true [.W ⟨false, Dg.zero⟩]), (1, .fix true [.W p.2]), (2, .fix true [.W (stdW.from64 10)])], 3⟩)
      (fun p => PsI t p.1 p.2) (fun p => ((t.size : Int) - p.1).toNat) (0, ⟨false, Dg.zero⟩) i0 ?_ (fun _ i hi => by have := hWr i hi; simp at this) ?_)
    · subst hS ht hA
      exact ⟨⟨⟨rfl, rfl, fun _ => rfl⟩, ⟨rfl, rfl, fun _ => rfl⟩, ⟨rfl, rfl, fun _ => rfl⟩, ⟨rfl, rfl, leBo hb0⟩, ⟨rfl, rfl, fun _ => rfl⟩, ⟨rfl, rfl, fun _ => rfl⟩, ⟨rfl, rfl, fun _ => rfl⟩, trivial⟩, ⟨leRefl rfl, leRefl rfl, leRefl rfl, trivial⟩, rfl, rfl⟩
    clear i0 hb hb0 ht
    rintro ⟨i, a⟩ hI A2 L2 k2 hA2 hL2 hnext hexit hret
    have st := fun hb : A2.cmp .lss i (A2.slen t) = true => ps_step hI A2 hA2 V hV S hS hb _ _ rfl rfl
    have en := fun hb : A2.cmp .lss i (A2.slen t) = false => ps_end hI A2 hA2 hb
    clear hI
    rw [← hA2, ← hS, ← hV]
    cbv
    repeat' first | (with_reducible intro hb; cbv) | with_reducible refine And.intro ?_ ?_
    all_goals first | exact (st hb).o1 | exact (st hb).o2 | exact (st hb).o3 | exact (st hb).o4 | (rename_i hb0; exact (st hb0).o1) | (rename_i hb0; exact (st hb0).o2) | (rename_i hb0; exact (st hb0).o5) | (rename_i hb0; exact (st hb0).o6) | skip
    · rename_i hb0
      have hz := hg.none ((st hb0).bad hb)
      apply hret
      clear hexit hnext hret st en
      cbv
      refine hk _ _ (Good.pure rfl fun ρ => ?_)
      subst hT
      exact tupWt hz.1.symm hz.2.symm
    · rename_i hb0 hb1
      have hz := hg.none ((st hb0).over hb1 hb)
      apply hret
      clear hexit hnext hret st en
      cbv
      refine hk _ _ (Good.pure rfl fun ρ => ?_)
      subst hT
      exact tupWt hz.1.symm hz.2.symm
    · rename_i hb0 hb1
      refine hnext _ (i + 1, _) ((st hb0).nx hb1 hb) (st hb0).ms ?_
      have ead := (st hb0).ad hg.1
      subst hA2 hS
      exact ⟨⟨⟨rfl, rfl, leI ead⟩, ⟨rfl, rfl, fun _ => rfl⟩, ⟨rfl, rfl, fun _ => rfl⟩, ⟨rfl, rfl, fun _ => rfl⟩, ⟨rfl, rfl, fun _ => rfl⟩, ⟨rfl, rfl, fun _ => rfl⟩, ⟨rfl, rfl, fun _ => rfl⟩, trivial⟩, ⟨leRefl rfl, leRefl rfl, leRefl rfl, trivial⟩, rfl, rfl⟩
    · obtain ⟨n, e1, e2, e3⟩ := en hb
      have hz := hg.some e3
      have hneg := neg_ofZ n e2
      apply hexit
      clear hexit hnext hret st en
      cbv
      with_reducible refine And.intro ?_ ?_
      · intro hb
        cases hb
      · intro hb
        cbv
        refine hk _ _ (Good.pure rfl fun ρ => ?_)
        subst hT hS e1
        exact tupWt hz.1.symm hz.2.symm

def tN20 (A : Alg) (S : SW) (V : SV) (T : ST) : List (Nat × Sem') := (23, heapSem [.v] A (gParse T)) :: ((tN19 A S V T))
theorem tN20OK : COK Try.prog (look (tN20 stdA stdW stdV stdT)) := COK_cons ok_wparse (tN19OK)
end Go.Eng
