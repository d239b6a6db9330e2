/- The engine, part Q: the call of such a function. -/
import Derived.Test.YtmajpppjakdodaaEngP
set_option linter.all false
set_option exponentiation.threshold 3000
namespace Go.Eng

def Sc.ren (f : Nat → Nat) : Sc → Sc
  | .hp id o => .hp (f id) o
  | .pe id a e i o => .pe (f id) a e i o
  | .hs id => .hs (f id)
  | .ve id e i o => .ve (f id) e i o
  | .hw id z lo hi => .hw (f id) z lo hi
  | .ha id o e lo hi c => .ha (f id) o e lo hi c
  | .hm id => .hm (f id)
  | .fn g caps => .fn g (caps.map fun c => (f c.1, c.2))
  | x => x

def At.ren (f : Nat → Nat) : At → At
  | .s x => .s (x.ren f)
  | a => a

def CV.ren (f : Nat → Nat) : CV → CV
  | .s x => .s (x.ren f)
  | .g l => .g (l.map (At.ren f))

def XV.ren (f : Nat → Nat) : XV → XV
  | .c v => .c (v.ren f)
  | .t l => .t (l.map (CV.ren f))

/-- the callee's own handles of the new blocks -/
def lf (q : Nat) (τ : List Nat) (j : Nat) : Nat := if j < q then j else τ.getD (j - q) 0

/-- what a callee ends with is what it told -/
structure Good (q : Nat) (r : LR) (v : XV) (h : Heap) : Prop where
  ex : ∃ τ : List Nat, τ.length = r.new.length ∧ τ.Nodup ∧ (∀ t, t ∈ τ → q ≤ t) ∧ (∀ ρ, v.den ρ = (r.val.ren (lf q τ)).den ρ) ∧ ∀ (i t : Nat) (b : Blk), τ[i]? = some t → r.new[i]? = some b → ∃ b', look h t = some b' ∧ BlkLe b' b

/-- the callee's handles of arguments that are written -/
def ownIdx : List Blk → Nat → List Nat
  | [], _ => []
  | b :: r, j => if b.own then j :: ownIdx r (j + 1) else ownIdx r (j + 1)

/-- the same of a callee that writes: what its written arguments' blocks hold at the end -/
structure GoodW (bs : List Blk) (r : LW) (v : XV) (h : Heap) : Prop where
  ex : ∃ τ : List Nat, τ.length = r.new.length ∧ τ.Nodup ∧ (∀ t, t ∈ τ → bs.length ≤ t) ∧ (∀ ρ, v.den ρ = (r.val.ren (lf bs.length τ)).den ρ) ∧
    (∀ (i t : Nat) (b : Blk), τ[i]? = some t → r.new[i]? = some b → ∃ b', look h t = some b' ∧ BlkLe b' b) ∧
    ∀ (i t : Nat) (b : Blk), (ownIdx bs 0)[i]? = some t → r.wr[i]? = some b → ∃ b', look h t = some b' ∧ BlkLe b' b

theorem GoodW.pure {bs : List Blk} {r : LW} {v : XV} {h : Heap} (hn : r.new = []) (hv : ∀ ρ, v.den ρ = (r.val.ren (lf bs.length [])).den ρ)
    (hw : ∀ (i t : Nat) (b : Blk), (ownIdx bs 0)[i]? = some t → r.wr[i]? = some b → ∃ b', look h t = some b' ∧ BlkLe b' b) : GoodW bs r v h :=
  ⟨[], by simp [hn], by simp, by simp, hv, fun i t b ht => by simp at ht, hw⟩

theorem Good.pure {q : Nat} {r : LR} {v : XV} {h : Heap} (hn : r.new = []) (hv : ∀ ρ, v.den ρ = (r.val.ren (lf q [])).den ρ) : Good q r v h :=
  ⟨[], by simp [hn], by simp, by simp, hv, fun i t b ht => by simp at ht⟩

theorem addOff_add {v : Value} {a c : Nat} (hv : ∃ b o, v = .pointer (some ⟨b, o, none⟩)) : addOff (addOff v a) c = addOff v (a + c) := by
  obtain ⟨b, o, rfl⟩ := hv
  simp [addOff, Addr.add_mid, Nat.add_assoc]

section
variable {ρ ρ2 ρ3 : Rho} {n : Ids} {L m q : Nat} {σ : List Sc} {f : Nat → Nat}

theorem renS_sound (hq : σ.length = q) (h1 : ∀ j x, σ[j]? = some x → ρ2 (f j) = x.den ρ) (h2 : ∀ j, q ≤ j → j < q + L → ρ3 (m + (j - q)) = ρ2 (f j)) (hag : Agree n ρ ρ3)
    (hsc : ∀ x, x ∈ σ → ScOK n ρ x) {x y : Sc} {o : List Bool} (e : renS stdA L m q σ x = some (o, y)) (ho : ∀ b, b ∈ o → b = true) :
    y.den ρ3 = (x.ren f).den ρ2 ∧ StbV (addI n m L) ρ3 (.s y) := by
  have hnew : ∀ j, q ≤ j → j < q + L → addI n m L (m + (j - q)) := fun j h1 h2 => .inr ⟨by omega, by omega⟩
  have hold : ∀ y : Sc, StbV n ρ (.s y) → y.den ρ3 = y.den ρ ∧ StbV (addI n m L) ρ3 (.s y) := fun y hy => ⟨hy ρ3 hag, (StbV.move hy hag).mono fun i hi => .inl hi⟩
  have hwst : ∀ {id z : Nat} {lo hi : Int}, n id → StbV n ρ (.s (.hw id z lo hi)) := fun hid ρ' ha => by simp only [CV.den, Sc.den]; rw [ha _ hid]
  cases x with
  | hp j off =>
    simp only [renS] at e
    split at e
    · rename_i hj
      split at e
      · rename_i hj'
        simp only [Option.some.injEq, Prod.mk.injEq] at e
        obtain ⟨_, rfl⟩ := e
        refine ⟨by simp only [Sc.ren, Sc.den, h2 j hj hj'], fun ρ' ha => ?_⟩
        simp only [CV.den, Sc.den]; rw [ha _ (hnew j hj hj')]
      · simp at e
    · split at e
      · rename_i id o' hx
        simp only [Option.some.injEq, Prod.mk.injEq] at e
        obtain ⟨_, rfl⟩ := e
        obtain ⟨g1, g2⟩ := hsc _ (List.mem_of_getElem? hx)
        have hst : StbV n ρ (.s (.hp id (o' + off))) := fun ρ' ha => by simp only [CV.den, Sc.den]; rw [ha _ g1]
        refine ⟨?_, (hold _ hst).2⟩
        rw [(hold _ hst).1]
        simp only [Sc.ren, Sc.den, h1 j _ hx]
        rw [addOff_add g2]
      · simp at e
  | hs j =>
    simp only [renS] at e
    split at e
    · rename_i hj
      split at e
      · rename_i hj'
        simp only [Option.some.injEq, Prod.mk.injEq] at e
        obtain ⟨_, rfl⟩ := e
        refine ⟨by simp only [Sc.ren, Sc.den, h2 j hj hj'], fun ρ' ha => ?_⟩
        simp only [CV.den, Sc.den]; rw [ha _ (hnew j hj hj')]
      · simp at e
    · split at e
      · rename_i x hx
        simp only [Option.some.injEq, Prod.mk.injEq] at e
        obtain ⟨_, rfl⟩ := e
        have g1 := (hsc _ (List.mem_of_getElem? hx)).stb
        refine ⟨?_, (hold _ g1).2⟩
        rw [(hold _ g1).1]
        simp only [Sc.ren, Sc.den, h1 j _ hx]
      · simp at e
  | hw j z lo hi =>
    simp only [renS] at e
    split at e
    · rename_i hj
      split at e
      · rename_i hj'
        simp only [Option.some.injEq, Prod.mk.injEq] at e
        obtain ⟨_, rfl⟩ := e
        refine ⟨by simp only [Sc.ren, Sc.den, h2 j hj hj'], fun ρ' ha => ?_⟩
        simp only [CV.den, Sc.den]; rw [ha _ (hnew j hj hj')]
      · simp at e
    · split at e
      · rename_i id hx
        simp only [Option.some.injEq, Prod.mk.injEq] at e
        obtain ⟨_, rfl⟩ := e
        have g1 : n id := hsc _ (List.mem_of_getElem? hx)
        refine ⟨?_, (hold _ (hwst g1)).2⟩
        rw [(hold _ (hwst g1)).1]
        simp only [Sc.ren, Sc.den, h1 j _ hx]
      · rename_i id z' lo' hi' hx
        split at e
        · rename_i hz
          simp only [Bool.and_eq_true, beq_iff_eq] at hz
          obtain ⟨rfl, rfl⟩ := hz
          simp only [Option.some.injEq, Prod.mk.injEq] at e
          obtain ⟨rfl, rfl⟩ := e
          simp only [List.forall_mem_cons, stdA, stdCmp, decide_eq_true_eq] at ho
          obtain ⟨g0, -⟩ := ho
          obtain ⟨g1, base, len, cap, g2, g3, g4, g5, g6⟩ := hsc _ (List.mem_of_getElem? hx)
          refine ⟨?_, (hold _ (hwst g1)).2⟩
          rw [(hold _ (hwst g1)).1]
          have e1 : (lo' + hi).toNat - lo'.toNat = hi.toNat := by omega
          simp only [Sc.ren, Sc.den, h1 j _ hx, g2]
          simp only [stdA, e1, Int.toNat_zero, Nat.sub_zero, Nat.zero_mul]
          congr 1
          by_cases hc : cap = lo'.toNat
          · simp [hc]
          · have : cap - lo'.toNat ≠ 0 := by omega
            rw [if_neg hc, if_neg this]
            cases base with
            | none => rfl
            | some a =>
              obtain ⟨b, o, rfl⟩ := g6 a rfl
              simp [Addr.add_mid]
        · simp at e
      · rename_i hx
        simp only [Option.some.injEq, Prod.mk.injEq] at e
        obtain ⟨rfl, rfl⟩ := e
        simp only [List.forall_mem_cons, stdA, stdCmp, decide_eq_true_eq] at ho
        obtain ⟨g0, g1, -⟩ := ho
        refine ⟨?_, fun _ _ => rfl⟩
        have e1 : hi.toNat - lo.toNat = 0 := by omega
        simp only [Sc.ren, Sc.den, h1 j _ hx, e1, Nat.zero_sub]
        simp
      · simp at e
  | pe | ve | ha | hm | fn | un => simp [renS, Sc.flat] at e
  | _ =>
    simp only [renS, Sc.flat, if_true, Option.some.injEq, Prod.mk.injEq] at e
    obtain ⟨_, rfl⟩ := e
    exact ⟨rfl, fun _ _ => rfl⟩

theorem renL_sound (hq : σ.length = q) (h1 : ∀ j x, σ[j]? = some x → ρ2 (f j) = x.den ρ) (h2 : ∀ j, q ≤ j → j < q + L → ρ3 (m + (j - q)) = ρ2 (f j)) (hag : Agree n ρ ρ3)
    (hsc : ∀ x, x ∈ σ → ScOK n ρ x) : ∀ {l y : List At} {o : List Bool}, renL stdA L m q σ l = some (o, y) → (∀ b, b ∈ o → b = true) →
    flats ρ3 y = flats ρ2 (l.map (At.ren f)) ∧ StbL (addI n m L) ρ3 y
  | [], y, o, e, ho => by
    simp only [renL, Option.some.injEq, Prod.mk.injEq] at e
    obtain ⟨_, rfl⟩ := e
    exact ⟨rfl, fun _ _ => rfl⟩
  | a :: r, y, o, e, ho => by
    have hother : ∀ (hn : ∀ x, a ≠ .s x), (match renL stdA L m q σ r with
        | some (p, s) => some (p, a :: s)
        | none => none) = some (o, y) → flats ρ3 y = flats ρ2 ((a :: r).map (At.ren f)) ∧ StbL (addI n m L) ρ3 y := by
      intro hn e
      split at e
      · rename_i p s hr
        simp only [Option.some.injEq, Prod.mk.injEq] at e
        obtain ⟨rfl, rfl⟩ := e
        obtain ⟨g1, g2⟩ := renL_sound hq h1 h2 hag hsc hr ho
        have hc : ∀ ρ ρ', a.cells ρ = a.cells ρ' := fun ρ ρ' => by cases a <;> first | rfl | exact absurd rfl (hn _)
        have hr : a.ren f = a := by cases a <;> first | rfl | exact absurd rfl (hn _)
        refine ⟨by simp only [List.map_cons, flats, g1, hr, hc ρ3 ρ2], fun ρ' ha => ?_⟩
        simp only [flats, g2 ρ' ha, hc ρ' ρ3]
      · simp at e
    cases a with
    | s x =>
      simp only [renL] at e
      split at e
      · rename_i o1 y1 p s hx hr
        simp only [Option.some.injEq, Prod.mk.injEq] at e
        obtain ⟨rfl, rfl⟩ := e
        obtain ⟨g1, g2⟩ := renL_sound hq h1 h2 hag hsc hr fun b hb => ho b (by simp [hb])
        obtain ⟨g3, g4⟩ := renS_sound hq h1 h2 hag hsc hx fun b hb => ho b (by simp [hb])
        refine ⟨by simp only [List.map_cons, flats, At.cells, At.ren, g1, g3], fun ρ' ha => ?_⟩
        have g5 : y1.den ρ' = y1.den ρ3 := g4 ρ' ha
        simp only [flats, At.cells, g2 ρ' ha, g5]
      · simp at e
    | D d => exact hother (fun _ h => by cases h) e
    | W d => exact hother (fun _ h => by cases h) e
    | R d => exact hother (fun _ h => by cases h) e
    | P d => exact hother (fun _ h => by cases h) e

theorem renV_sound (hq : σ.length = q) (h1 : ∀ j x, σ[j]? = some x → ρ2 (f j) = x.den ρ) (h2 : ∀ j, q ≤ j → j < q + L → ρ3 (m + (j - q)) = ρ2 (f j)) (hag : Agree n ρ ρ3)
    (hsc : ∀ x, x ∈ σ → ScOK n ρ x) {x y : CV} {o : List Bool} (e : renV stdA L m q σ x = some (o, y)) (ho : ∀ b, b ∈ o → b = true) :
    y.den ρ3 = (x.ren f).den ρ2 ∧ StbV (addI n m L) ρ3 y := by
  cases x with
  | s x =>
    simp only [renV] at e
    split at e
    · rename_i o1 y1 hx
      simp only [Option.some.injEq, Prod.mk.injEq] at e
      obtain ⟨rfl, rfl⟩ := e
      exact renS_sound hq h1 h2 hag hsc hx ho
    · simp at e
  | g l =>
    simp only [renV] at e
    split at e
    · rename_i o1 y1 hx
      simp only [Option.some.injEq, Prod.mk.injEq] at e
      obtain ⟨rfl, rfl⟩ := e
      obtain ⟨g1, g2⟩ := renL_sound hq h1 h2 hag hsc hx ho
      exact ⟨by simp only [CV.den, CV.ren, g1], fun ρ' ha => by simp only [CV.den, g2 ρ' ha]⟩
    · simp at e

theorem renVs_sound (hq : σ.length = q) (h1 : ∀ j x, σ[j]? = some x → ρ2 (f j) = x.den ρ) (h2 : ∀ j, q ≤ j → j < q + L → ρ3 (m + (j - q)) = ρ2 (f j)) (hag : Agree n ρ ρ3)
    (hsc : ∀ x, x ∈ σ → ScOK n ρ x) : ∀ {l y : List CV} {o : List Bool}, renVs stdA L m q σ l = some (o, y) → (∀ b, b ∈ o → b = true) →
    y.map (CV.den ρ3) = (l.map (CV.ren f)).map (CV.den ρ2) ∧ ∀ ρ', Agree (addI n m L) ρ3 ρ' → y.map (CV.den ρ') = y.map (CV.den ρ3)
  | [], y, o, e, ho => by
    simp only [renVs, Option.some.injEq, Prod.mk.injEq] at e
    obtain ⟨_, rfl⟩ := e
    exact ⟨rfl, fun _ _ => rfl⟩
  | x :: r, y, o, e, ho => by
    simp only [renVs] at e
    split at e
    · rename_i o1 y1 p s hx hr
      simp only [Option.some.injEq, Prod.mk.injEq] at e
      obtain ⟨rfl, rfl⟩ := e
      obtain ⟨g1, g2⟩ := renVs_sound hq h1 h2 hag hsc hr fun b hb => ho b (by simp [hb])
      obtain ⟨g3, g4⟩ := renV_sound hq h1 h2 hag hsc hx fun b hb => ho b (by simp [hb])
      exact ⟨by simp only [List.map_cons, g1, g3], fun ρ' ha => by simp only [List.map_cons, g2 ρ' ha, g4 ρ' ha]⟩
    · simp at e

theorem renX_sound (hq : σ.length = q) (h1 : ∀ j x, σ[j]? = some x → ρ2 (f j) = x.den ρ) (h2 : ∀ j, q ≤ j → j < q + L → ρ3 (m + (j - q)) = ρ2 (f j)) (hag : Agree n ρ ρ3)
    (hsc : ∀ x, x ∈ σ → ScOK n ρ x) {x y : XV} {o : List Bool} (e : renX stdA L m q σ x = some (o, y)) (ho : ∀ b, b ∈ o → b = true) :
    y.den ρ3 = (x.ren f).den ρ2 ∧ StbX (addI n m L) ρ3 y := by
  cases x with
  | c x =>
    simp only [renX] at e
    split at e
    · rename_i o1 y1 hx
      simp only [Option.some.injEq, Prod.mk.injEq] at e
      obtain ⟨rfl, rfl⟩ := e
      exact renV_sound hq h1 h2 hag hsc hx ho
    · simp at e
  | t l =>
    simp only [renX] at e
    split at e
    · rename_i o1 y1 hx
      simp only [Option.some.injEq, Prod.mk.injEq] at e
      obtain ⟨rfl, rfl⟩ := e
      obtain ⟨g1, g2⟩ := renVs_sound hq h1 h2 hag hsc hx ho
      exact ⟨by simp only [XV.den, XV.ren, g1], fun ρ' ha => by simp only [XV.den, g2 ρ' ha]⟩
    · simp at e

end
end Go.Eng
