
import Derived.Test.YtekohdfjkmdlpaaGreatEngAX
import Derived.Test.YtekohdfjkmdlpaaGreatEngW
import Derived.Deep.Slices
import Derived.Deep.Strs
set_option linter.all false
set_option exponentiation.threshold 3000
set_option maxRecDepth 100000
namespace Go.Eng
open Go.RowKit Go.WideShapes Go.ChangeShapes
section
variable {H : Type} {enc : TypeId × Value → H} {P : Program} {w w' : World}
structure SlP (k : RK) (w : World) (v : Value) (l : List k.ty) : Prop where
  ok : (Blk.vec false k l).ok w v rho0
  one : v.oneCell' = true
theorem rangeAt_app {b o : Nat} {c1 c2 : List Value} (h1 : w.rangeAt b o c1) (h2 : w.rangeAt b (o + c1.length) c2) : w.rangeAt b o (c1 ++ c2) := fun q v hv => by
  by_cases hq : q < c1.length
  · rw [List.getElem?_append_left hq] at hv; exact h1 q v hv
  · rw [List.getElem?_append_right (by omega)] at hv
    have := h2 _ v hv
    rw [show o + c1.length + (q - c1.length) = o + q from by omega] at this
    exact this
theorem RK.flat_len (k : RK) : ∀ l : List k.ty, (k.flat l).length = l.length * k.esz
  | [] => by simp [RK.flat]
  | x :: r => by rw [RK.flat_cons, List.length_append, k.at_len, RK.flat_len k r, List.length_cons, Nat.add_mul]; omega
theorem open_sl {r : Reach} {b0 : Nat} {k : RK} {t e : TypeId} {ks : List CK} (ht : P.underlying t = some (.slice e)) (hk : kT P 20 e = some ks) (hz : P.cellsOf e = k.esz) {Q : k.ty → Prop} (hc : ∀ cs, cellsK ks cs → ∃ x : k.ty, Q x ∧ flats rho0 (k.at x) = cs)
    {base : Nat} {sp : Nat → Bool} {held : Bool} {fuel : Nat} {v : Value} {x : DataW H × List MemPlace} (hval : Cell.okWide P w r b0 t v) (h : DataW.trod enc P w base sp held fuel t [v] = some x) : ∃ l : List k.ty, SlP k w v l ∧ ∀ x, x ∈ l → Q x := by
  rcases Go.Deep.open_slice ht h with ⟨e1, _⟩ | ⟨a, len, cap, m, n, D, Pl, e1, hb, hl, hcap, hm, _, hx⟩
  · simp only [List.cons.injEq, and_true] at e1
    subst e1
    exact ⟨[], ⟨⟨none, 0, rfl, Nat.le_refl _, rfl, rfl⟩, rfl⟩, fun x hx => by cases hx⟩
  · simp only [List.cons.injEq, and_true] at e1
    subst e1
    unfold Cell.okWide at hval
    rw [ht] at hval
    simp only at hval
    unfold Cell.ok at hval
    rw [ht] at hval
    simp only at hval
    obtain ⟨_, _, _, hspot, row, cells, hsh, _⟩ := hval
    obtain ⟨b, o, spot⟩ := a
    simp only at hspot
    subst hspot
    have hlt : b < w.heap.size := by
      rcases Nat.lt_or_ge b w.heap.size with h1 | h1
      · exact h1
      · simp [World.shape?, Array.getElem?_eq_none h1] at hsh
    have hlm : len ≤ m := by rw [hm]; split <;> omega
    have key : ∀ q, q ≤ len → ∃ l : List k.ty, l.length = q ∧ (∀ x, x ∈ l → Q x) ∧ w.rangeAt b o (k.flat l) := fun q => by
      induction q with
      | zero => exact fun _ => ⟨[], rfl, fun x hx => by simp at hx, fun j v hv => by simp [RK.flat] at hv⟩
      | succ q ih =>
        intro hq
        obtain ⟨l, h1, h2, h3⟩ := ih (by omega)
        obtain ⟨cs', g1, g2⟩ := hx q (by omega)
        have g3 := trod_cells 20 n e _ _ _ g2 hk
        obtain ⟨y, hy, hf⟩ := hc cs' g3
        obtain ⟨_, g4, g5⟩ := World.cells?_some g1
        refine ⟨l ++ [y], by simp [h1], fun x hx => ?_, ?_⟩
        · rcases List.mem_append.1 hx with hx | hx
          · exact h2 x hx
          · simp at hx; subst hx; exact hy
        · rw [RK.flat_append]
          refine rangeAt_app h3 fun j v hv => ?_
          have e2 : k.flat [y] = cs' := by
            rw [RK.flat_cons, k.at_flats y (fun _ => undef) rho0, hf]; simp [RK.flat]
          rw [e2] at hv
          have hj : j < cs'.length := (List.getElem?_eq_some_iff.1 hv).1
          have := g5 j (by omega)
          rw [hv, Addr.add_mid, Addr.add_mid] at this
          rw [RK.flat_len, h1, ← hz, ← this]
    obtain ⟨l, h1, h2, h3⟩ := key len (Nat.le_refl _)
    exact ⟨l, ⟨⟨some ⟨b, o, none⟩, cap, by rw [h1], by omega, b, o, rfl, hlt, h3, fun e => by cases e⟩, rfl⟩, h2⟩
theorem open_S {r : Reach} {b0 : Nat} {k : RK} {t e : TypeId} {v : Value} {d : DataW H} {base : Nat} {sp : Nat → Bool} {held : Bool} {ps : List MemPlace} {ks : List CK} (ht : P.underlying t = some (.slice e)) (hk : kT P 20 e = some ks) (hz : P.cellsOf e = k.esz) {Q : k.ty → Prop}
    (hc : ∀ cs, cellsK ks cs → ∃ x : k.ty, Q x ∧ flats rho0 (k.at x) = cs) (hval : Value.okWide P w r b0 t v) (hd : DataW.Trod enc P w base sp held t v d ps) : ∃ l : List k.ty, SlP k w v l ∧ ∀ x, x ∈ l → Q x := by
  obtain ⟨fuel, h⟩ := hd
  unfold Value.okWide at hval
  rw [ht] at hval
  simp only at hval
  have hv : v.cells.toList = [v] := by
    cases v with
    | agg cs =>
      exfalso
      unfold Cell.okWide at hval
      rw [ht] at hval
      simp only at hval
      unfold Cell.ok at hval
      rw [ht] at hval
      exact hval
    | _ => rfl
  rw [hv] at h
  exact open_sl ht hk hz hc hval h
theorem conv_pt : ∀ cs, cellsK kP cs → ∃ x : RK.ty .pt, True ∧ flats rho0 (RK.at .pt x) = cs := fun cs h => by
  obtain ⟨x, e⟩ := cells_P h
  exact ⟨x, trivial, by simp [RK.at, flats, At.cells, e]⟩
structure Arg where
  v : Value
  k : RK
  l : List k.ty
def argH : List Arg → List Blk
  | [] => []
  | a :: r => .vec false a.k a.l :: argH r
def argR (ags : List Arg) : Rho := fun i => match ags[i]? with
  | some a => a.v
  | none => .pointer none
def argB (ags : List Arg) : Base := ⟨fun _ => False, fun i => i < ags.length, argR ags, fun x => ∃ i, blkOf (argR ags i) = some x⟩
theorem argH_get : ∀ {ags : List Arg} {i : Nat} {b : Blk}, (argH ags)[i]? = some b → ∃ a, ags[i]? = some a ∧ b = .vec false a.k a.l
  | [], i, b, h => by simp [argH] at h
  | a :: r, 0, b, h => by simp [argH] at h; exact ⟨a, rfl, h.symm⟩
  | a :: r, i + 1, b, h => by
    obtain ⟨a', h1, h2⟩ := argH_get (ags := r) (i := i) (by simpa [argH] using h)
    exact ⟨a', by simpa using h1, h2⟩
theorem HS.args {ags : List Arg} (h : ∀ a, a ∈ ags → SlP a.k w a.v a.l) : HS w (argB ags) (argR ags) (heapOf (argH ags) 0) (fun i => i < ags.length) w := by
  have hx : ∀ i b, look (heapOf (argH ags) 0) i = some b → ∃ a, ags[i]? = some a ∧ b = .vec false a.k a.l := fun i b h => by
    rw [look_heapOf, if_pos (Nat.zero_le _), Nat.sub_zero] at h
    exact argH_get h
  have hr : ∀ i a, ags[i]? = some a → argR ags i = a.v := fun i a h => by unfold argR; rw [h]
  exact {
    one := fun i => by
      unfold argR
      split
      · rename_i a ha; exact (h a (List.mem_of_getElem? ha)).one
      · rfl
    ok := fun i b hb => by
      obtain ⟨a, h1, rfl⟩ := hx i b hb
      rw [hr i a h1]
      exact ⟨(List.getElem?_eq_some_iff.1 h1).1, Blk.flat_ok rfl _ (h a (List.mem_of_getElem? h1)).ok, trivial⟩
    sep := fun i b j c hi hj hij ho => by
      obtain ⟨a, _, rfl⟩ := hx i b hi
      cases ho
    wr := fun i b x hi ho => by
      obtain ⟨a, _, rfl⟩ := hx i b hi
      cases ho
    org := fun i b x hi _ hxx => .inr (.inr ⟨i, hxx⟩)
    frame := fun _ _ _ => rfl
    os := rfl
    tape := rfl
    output := rfl
    size := Nat.le_refl _
    ag := Agree.refl _ _
    inn := fun _ h => h }
theorem law_callsH {f : Nat} {sem : Sem'} (h : CallOK P f sem) {ags : List Arg} {args : List CV} {ob : List Bool} {new : List Blk} (has : ∀ a, a ∈ ags → SlP a.k w a.v a.l)
    (hf : ∀ v, v ∈ args → StbV (fun i => i < ags.length) (argR ags) v) (he : sem ags.length args (heapOf (argH ags) 0) = some ⟨ob, .c (.s (.bool true)), new, []⟩) (ho : ∀ b, b ∈ ob → b = true) :
    Calls P f (args.map (CV.den (argR ags))).toArray w fun e w' => e = .returned (.bool true) ∧ Below w.heap.size w w' :=
  (h.calls (fun i => i < ags.length) ags.length args _ _ (fun i hi => hi) he ho w (argB ags) (argR ags) w (HS.args has) hf).mono fun e w' ⟨v, h1, ρ', _, hv, _, _, hb, _⟩ =>
    ⟨by rw [h1, hv]; rfl, hb.below wblk_nil⟩
end
end Go.Eng

