/- The engine, part F: '==' of structs and arrays of numbers and bools. -/
import Derived.Test.YtmajpppjakdodaaEngE
import Derived.DeepKeys
set_option linter.all false
set_option exponentiation.threshold 3000
namespace Go.Eng

def toVal (P : Program) (t : Nat) (xs : List Value) : Value :=
  match P.underlying t with
  | some (.struct _) | some (.array _ _) => .agg xs.toArray
  | _ => xs.headD undef

theorem fitsT_one {P : Program} {d t : Nat} {ks : List (Option CK)} (h : fitsT P d t ks = true) (hn : ∀ fs, P.underlying t ≠ some (.struct fs)) (hm : ∀ n e, P.underlying t ≠ some (.array n e)) : ks.length = 1 := by
  cases d with
  | zero => simp [fitsT] at h
  | succ d =>
    unfold fitsT at h
    split at h
    · simp at h; rw [h]; rfl
    · split at h
      · rfl
      · simp at h
    · rename_i fs hu; exact absurd hu (hn fs)
    · rename_i n e hu; exact absurd hu (hm n e)
    · simp at h

section
variable {P : Program} {w : World}

theorem run_part {d e off : Nat} {xs : List Value} (hi : (P.info? e).isSome = true) (hf : fitsT P d e (((xs.drop off).take (P.cellsOf e)).map ck) = true) :
    (part e xs.toArray off).run P w = .ok (toVal P e ((xs.drop off).take (P.cellsOf e))) w := by
  obtain ⟨i, hi⟩ := Option.isSome_iff_exists.1 hi
  have hz : P.cellsOf e = i.size := by simp [Program.cellsOf, hi]
  cases hu : P.underlying e with
  | none => cases d <;> simp [fitsT, hu] at hf
  | some k =>
    have hone : (∀ fs, k ≠ .struct fs) → (∀ n e', k ≠ .array n e') → (part e xs.toArray off).run P w = .ok (toVal P e ((xs.drop off).take (P.cellsOf e))) w := by
      intro h1 h2
      have hl := fitsT_one hf (fun fs h => h1 fs (by rw [hu] at h; simpa using h)) (fun n e' h => h2 n e' (by rw [hu] at h; simpa using h))
      simp only [List.length_map] at hl
      obtain ⟨x, hx⟩ := List.length_eq_one_iff.1 hl
      have hoff : xs[off]? = some x := by
        have := congrArg (fun l => l[0]?) hx
        simp only [List.getElem?_take, List.getElem?_drop, Nat.add_zero] at this
        split at this
        · simpa using this
        · simp at this
      rw [hx]
      have hag : (isAgg e).run P w = .ok false w := by
        unfold isAgg
        rw [Sem.run_bind, run_underlying hu w]
        cases k <;> simp_all
      have htv : toVal P e [x] = x := by
        unfold toVal
        rw [hu]
        cases k <;> simp_all
      unfold part
      rw [Sem.run_bind, hag]
      simp [hoff, htv]
    cases k
    case struct fs =>
      have hag : (isAgg e).run P w = .ok true w := by unfold isAgg; rw [Sem.run_bind, run_underlying hu w]; simp
      unfold part
      rw [Sem.run_bind, hag]
      simp only [Result.andThen_ok, if_true, Sem.run_bind, Sem.run_pure]
      rw [run_sizeOf' (m := i.size) (by simp [hi])]
      simp [toVal, hu, hz, List.extract_eq_take_drop, List.take_drop]
      try omega
    case array n e' =>
      have hag : (isAgg e).run P w = .ok true w := by unfold isAgg; rw [Sem.run_bind, run_underlying hu w]; simp
      unfold part
      rw [Sem.run_bind, hag]
      simp only [Result.andThen_ok, if_true, Sem.run_bind, Sem.run_pure]
      rw [run_sizeOf' (m := i.size) (by simp [hi])]
      simp [toVal, hu, hz, List.extract_eq_take_drop, List.take_drop]
      try omega
    all_goals exact hone (by intros; simp) (by intros; simp)

/-- '==' at a depth and a type, of cells of kinds -/
def EqT (P : Program) (dd t : Nat) (ks : List (Option CK)) : Prop :=
  ∀ (w : World) (xs ys : List Value), xs.map ck = ks → ys.map ck = ks → ∃ r : Bool, (Op.equalIn dd t (toVal P t xs) (toVal P t ys)).run P w = .ok r w ∧ (r = true ↔ xs = ys)

theorem map_drop_take {xs : List Value} {ks : List (Option CK)} (h : xs.map ck = ks) (a b : Nat) : ((xs.drop a).take b).map ck = (ks.drop a).take b := by
  rw [List.map_take, List.map_drop, h]

/-- two rows, parted at a place: alike just if both parts are -/
theorem part_iff (xs ys : List Value) (o z : Nat) : xs.drop o = ys.drop o ↔ (xs.drop o).take z = (ys.drop o).take z ∧ xs.drop (o + z) = ys.drop (o + z) := by
  constructor
  · intro h; exact ⟨by rw [h], by rw [← List.drop_drop, ← List.drop_drop, h]⟩
  · rintro ⟨h1, h2⟩
    rw [← List.take_append_drop z (xs.drop o), ← List.take_append_drop z (ys.drop o), h1, List.drop_drop, List.drop_drop, h2]

theorem eqFields_sound (dd : Nat) {xs ys : List Value} {ks : List (Option CK)} (hx : xs.map ck = ks) (hy : ys.map ck = ks) : ∀ (fs : List Field) (o : Nat),
    fieldsTo P fs o = some ks.length →
    (∀ f, f ∈ fs → f.name ≠ "_" ∧ (P.info? f.type).isSome = true ∧ (∃ d, fitsT P d f.type ((ks.drop f.offset).take (P.cellsOf f.type)) = true) ∧ EqT P dd f.type ((ks.drop f.offset).take (P.cellsOf f.type))) →
    ∃ r : Bool, (Op.eqFields dd xs.toArray ys.toArray fs).run P w = .ok r w ∧ (r = true ↔ xs.drop o = ys.drop o)
  | [], o, ho, _ => by
    simp only [fieldsTo, Option.some.injEq] at ho
    have h1 : xs.length = o := by rw [ho, ← hx]; simp
    have h2 : ys.length = o := by rw [ho, ← hy]; simp
    refine ⟨true, by simp [Op.eqFields], ?_⟩
    rw [List.drop_eq_nil_of_le (by omega), List.drop_eq_nil_of_le (by omega)]
    simp
  | f :: fs, o, ho, hall => by
    simp only [fieldsTo] at ho
    split at ho
    · rename_i hfo
      obtain ⟨hn, hi, ⟨d, hd⟩, he⟩ := hall f (by simp)
      obtain ⟨r', hr', hiff'⟩ := eqFields_sound dd hx hy fs _ ho (fun g hg => hall g (by simp [hg]))
      have px := run_part (w := w) (off := f.offset) (xs := xs) hi (by rw [map_drop_take hx]; exact hd)
      have py := run_part (w := w) (off := f.offset) (xs := ys) hi (by rw [map_drop_take hy]; exact hd)
      obtain ⟨r, hr, hiff⟩ := he w _ _ (map_drop_take hx f.offset (P.cellsOf f.type)) (map_drop_take hy f.offset (P.cellsOf f.type))
      have hpi := part_iff xs ys o (P.cellsOf f.type)
      rw [hpi]
      subst hfo
      simp only [Op.eqFields, hn, ne_eq, not_false_eq_true, if_true, Sem.run_bind, px, py, hr, Result.andThen_ok]
      cases r
      · exact ⟨false, by simp, by simp; intro e; exact absurd (hiff.2 e) (by simp)⟩
      · refine ⟨r', by simpa using hr', ?_⟩
        rw [hiff']
        simp [hiff.1 rfl]
    · simp at ho

theorem eqItems_sound (dd : Nat) {e z : Nat} {xs ys : List Value} {ks : List (Option CK)} (hx : xs.map ck = ks) (hy : ys.map ck = ks) (hz : z = P.cellsOf e) (hi : (P.info? e).isSome = true) : ∀ (m j : Nat),
    ks.length = (j + m) * z →
    (∀ i, j ≤ i → i < j + m → (∃ d, fitsT P d e ((ks.drop (i * z)).take z) = true) ∧ EqT P dd e ((ks.drop (i * z)).take z)) →
    ∃ r : Bool, (Op.eqItems dd e z xs.toArray ys.toArray (List.range' j m)).run P w = .ok r w ∧ (r = true ↔ xs.drop (j * z) = ys.drop (j * z))
  | 0, j, hl, _ => by
    have h1 : xs.length = j * z := by rw [Nat.add_zero] at hl; rw [← hl, ← hx]; simp
    have h2 : ys.length = j * z := by rw [Nat.add_zero] at hl; rw [← hl, ← hy]; simp
    refine ⟨true, by simp [Op.eqItems], ?_⟩
    rw [List.drop_eq_nil_of_le (by omega), List.drop_eq_nil_of_le (by omega)]
    simp
  | m + 1, j, hl, hall => by
    obtain ⟨⟨d, hd⟩, he⟩ := hall j (Nat.le_refl _) (by omega)
    obtain ⟨r', hr', hiff'⟩ := eqItems_sound dd hx hy hz hi m (j + 1) (by rw [hl]; congr 1; omega) (fun i h1 h2 => hall i (by omega) (by omega))
    subst hz
    have px := run_part (w := w) (off := j * P.cellsOf e) (xs := xs) hi (by rw [map_drop_take hx]; exact hd)
    have py := run_part (w := w) (off := j * P.cellsOf e) (xs := ys) hi (by rw [map_drop_take hy]; exact hd)
    obtain ⟨r, hr, hiff⟩ := he w _ _ (map_drop_take hx (j * P.cellsOf e) (P.cellsOf e)) (map_drop_take hy (j * P.cellsOf e) (P.cellsOf e))
    have hpi := part_iff xs ys (j * P.cellsOf e) (P.cellsOf e)
    rw [hpi]
    simp only [List.range'_succ, Op.eqItems, Sem.run_bind, px, py, hr, Result.andThen_ok]
    rw [show (j + 1) * P.cellsOf e = j * P.cellsOf e + P.cellsOf e from by rw [Nat.add_mul]; omega] at hiff'
    cases r
    · exact ⟨false, by simp, by simp; intro e; exact absurd (hiff.2 e) (by simp)⟩
    · refine ⟨r', by simpa using hr', ?_⟩
      rw [hiff']
      simp [hiff.1 rfl]

theorem eqT_sound (c : Nat) : ∀ (d t : Nat) (ks : List (Option CK)), fitsT P d t ks = true → EqT P (c + d) t ks
  | 0, _, _, h => by simp [fitsT] at h
  | d + 1, t, ks, h => by
    intro w xs ys hx hy
    unfold fitsT at h
    split at h
    · rename_i hu
      simp only [beq_iff_eq] at h
      subst h
      cases xs with
      | nil => simp at hx
      | cons x r =>
        cases ys with
        | nil => simp at hy
        | cons y q =>
          simp only [List.map_cons, List.cons.injEq, List.map_eq_nil_iff] at hx hy
          obtain ⟨hx, rfl⟩ := hx
          obtain ⟨hy, rfl⟩ := hy
          cases x <;> simp [ck] at hx
          cases y <;> simp [ck] at hy
          rename_i a b
          refine ⟨a == b, ?_, by simp⟩
          simp only [toVal, hu, List.headD_cons]
          exact run_equalIn_bool w (c + d) t a b hu
    · rename_i k hu
      split at h
      · rename_i k' 
        cases xs with
        | nil => simp at hx
        | cons x r =>
          cases ys with
          | nil => simp at hy
          | cons y q =>
            simp only [List.map_cons, List.cons.injEq, List.map_eq_nil_iff] at hx hy
            obtain ⟨hx, rfl⟩ := hx
            obtain ⟨hy, rfl⟩ := hy
            cases x <;> simp [ck] at hx
            cases y <;> simp [ck] at hy
            rename_i k1 a k2 b
            subst hx hy
            refine ⟨a == b, ?_, by simp⟩
            simp only [toVal, hu, List.headD_cons]
            exact run_equalIn_int w (c + d) t _ _ a b hu
      · simp at h
    · rename_i fs hu
      simp only [Bool.and_eq_true, Bool.not_eq_true', beq_iff_eq, List.all_eq_true, bne_iff_ne, ne_eq] at h
      obtain ⟨⟨h1, h2⟩, h3⟩ := h
      have hfo : P.fieldsOf t = fs := by simp [Program.fieldsOf, hu]
      obtain ⟨r, hr, hiff⟩ := eqFields_sound (w := w) (c + d) hx hy fs.toList 0 h2 (fun f hf => by
        obtain ⟨⟨g1, g2⟩, g3⟩ := h3 f hf
        exact ⟨g1, g2, ⟨d, g3⟩, eqT_sound c d _ _ g3⟩)
      refine ⟨r, ?_, by simpa using hiff⟩
      simp only [toVal, hu]
      rw [show c + (d + 1) = c + d + 1 from rfl, run_equalIn_struct w (c + d) t _ _ (by rw [hfo]; exact hu) h1, hfo]
      exact hr
    · rename_i n e hu
      simp only [Bool.and_eq_true, beq_iff_eq, List.all_eq_true, List.mem_range] at h
      obtain ⟨⟨h1, h2⟩, h3⟩ := h
      obtain ⟨i, hi⟩ := Option.isSome_iff_exists.1 h1
      obtain ⟨r, hr, hiff⟩ := eqItems_sound (w := w) (c + d) (e := e) hx hy rfl h1 n 0 (by simpa using h2) (fun i _ h => by
        have g := h3 i (by omega)
        exact ⟨⟨d, g⟩, eqT_sound c d _ _ g⟩)
      refine ⟨r, ?_, by simpa using hiff⟩
      simp only [toVal, hu]
      rw [show c + (d + 1) = c + d + 1 from rfl, run_equalIn_array w (c + d) _ _ hu hi, List.range_eq_range']
      exact hr
    · simp at h

/-! atoms -/
theorem Dg.cells_ck (x : Dg) : x.cells.map ck = List.replicate 32 (some (.int .u32)) := by
  simp [Dg.cells, Function.comp_def, ck, List.map_const']

theorem Wd.cells_ck (x y : Wd) : x.cells.map ck = y.cells.map ck := by
  simp [Wd.cells, Dg.cells_ck, ck]

theorem Rt.cells_ck (x y : Rt) : x.cells.map ck = y.cells.map ck := by
  simp only [Rt.cells, List.map_append]; rw [Wd.cells_ck x.N y.N, Wd.cells_ck x.D y.D]

theorem Pt.cells_ck (x y : Pt) : x.cells.map ck = y.cells.map ck := by
  simp only [Pt.cells, List.map_append]; rw [Rt.cells_ck x.X y.X, Rt.cells_ck x.Y y.Y]

theorem shp1_sound {a b : At} (h : shp1 a b = true) (ρ ρ' : Rho) : (a.cells ρ).map ck = (b.cells ρ').map ck := by
  unfold shp1 at h
  split at h
  · rename_i x y
    split at h
    · rename_i lx k p ly k' q h1 h2
      simp only [beq_iff_eq] at h
      subst h
      simp [At.cells, num_den h1, num_den h2, ck]
    · split at h
      · rename_i h1 h2
        cases x <;> simp [Sc.boo] at h1 <;> cases y <;> simp [Sc.boo] at h2 <;> simp [At.cells, Sc.den, ck]
      · simp at h
  · simp [At.cells, Dg.cells_ck]
  · exact Wd.cells_ck _ _
  · exact Rt.cells_ck _ _
  · exact Pt.cells_ck _ _
  · simp at h

theorem shps_sound (ρ ρ' : Rho) : ∀ (fuel : Nat) (l z : List At), shps fuel l z = true → (flats ρ l).map ck = (flats ρ' z).map ck
  | 0, _, _, h => by simp [shps] at h
  | _ + 1, [], [], _ => rfl
  | _ + 1, [], _ :: _, h => by simp [shps] at h
  | _ + 1, _ :: _, [], h => by simp [shps] at h
  | fuel + 1, a :: r, b :: q, h => by
    simp only [shps] at h
    split at h
    · simp only [Bool.and_eq_true] at h
      simp only [flats, List.map_append]
      rw [shp1_sound h.1 ρ ρ', shps_sound ρ ρ' fuel r q h.2]
    · split at h
      · split at h
        · rename_i ex hex
          have := shps_sound ρ ρ' fuel _ _ h
          rw [this, flats_append, At.expand_cells ρ' hex]; rfl
        · simp at h
      · split at h
        · rename_i ex hex
          have := shps_sound ρ ρ' fuel _ _ h
          rw [← this, flats_append, At.expand_cells ρ hex]; rfl
        · simp at h

variable {K : Cx}

theorem bytes_beq (p q : ByteArray) : (p == q) = true ↔ p = q := by
  rw [beq_toListBytes, beq_iff_eq, ByteArray.toList_eq, ByteArray.toList_eq]
  constructor
  · intro h
    obtain ⟨⟨x⟩⟩ := p
    obtain ⟨⟨y⟩⟩ := q
    simp at h
    rw [h]
  · intro h; rw [h]

theorem eqAt1_sound (hA : K.A = stdA) {a b : At} {z : Sc} (e : eqAt1 K a b = some z) (ρ : Rho) : ∃ r : Bool, (∀ ρ, z.den ρ = .bool r) ∧ (r = true ↔ a.cells ρ = b.cells ρ) := by
  unfold eqAt1 at e
  split at e
  · rename_i x y
    obtain ⟨r, h1, h2⟩ := eqSc_sound (ρ := ρ) hA e
    refine ⟨r, h1, ?_⟩
    rcases h2 with ⟨k, p, q, hx, hy, rfl⟩ | ⟨p, q, hx, hy, rfl⟩ | ⟨p, q, hx, hy, rfl⟩ <;> simp [At.cells, hx, hy, bytes_beq]
  · simp only [Option.some.injEq] at e; subst e
    exact ⟨_, fun _ => rfl, by rw [hA]; simp [stdA, At.cells]; exact ⟨fun h => by rw [h], Dg.cells_inj⟩⟩
  · simp only [Option.some.injEq] at e; subst e
    exact ⟨_, fun _ => rfl, by rw [hA]; simp [stdA, At.cells]; exact ⟨fun h => by rw [h], Wd.cells_inj⟩⟩
  · simp only [Option.some.injEq] at e; subst e
    exact ⟨_, fun _ => rfl, by rw [hA]; simp [stdA, At.cells]; exact ⟨fun h => by rw [h], Rt.cells_inj⟩⟩
  · simp only [Option.some.injEq] at e; subst e
    exact ⟨_, fun _ => rfl, by rw [hA]; simp [stdA, At.cells]; exact ⟨fun h => by rw [h], Pt.cells_inj⟩⟩
  · simp at e

theorem eqAts_sound (hA : K.A = stdA) (ρ : Rho) : ∀ (fuel : Nat) (l m : List At) (z : Sc), eqAts K fuel l m = some z → ∃ r : Bool, (∀ ρ, z.den ρ = .bool r) ∧ (r = true ↔ flats ρ l = flats ρ m)
  | 0, _, _, _, h => by simp [eqAts] at h
  | _ + 1, [], [], z, h => by simp [eqAts] at h; subst h; exact ⟨true, fun _ => rfl, by simp⟩
  | _ + 1, [], _ :: _, _, h => by simp [eqAts] at h
  | _ + 1, _ :: _, [], _, h => by simp [eqAts] at h
  | fuel + 1, a :: r, b :: q, z, h => by
    simp only [eqAts] at h
    split at h
    · rename_i hsz
      simp only [beq_iff_eq] at hsz
      split at h
      · rename_i x y hx hy
        obtain ⟨p, h1, h2⟩ := eqAt1_sound hA hx ρ
        obtain ⟨p', h3, h4⟩ := eqAts_sound hA ρ fuel r q y hy
        refine ⟨p && p', andSc_sound hA h h1 h3, ?_⟩
        simp only [Bool.and_eq_true, h2, h4, flats]
        constructor
        · rintro ⟨e1, e2⟩; rw [e1, e2]
        · intro e; exact List.append_inj e (by simp [hsz])
      · simp at h
    · split at h
      · split at h
        · rename_i ex hex
          obtain ⟨p, h1, h2⟩ := eqAts_sound hA ρ fuel _ _ z h
          refine ⟨p, h1, ?_⟩
          rw [h2, flats_append, At.expand_cells ρ hex]; rfl
        · simp at h
      · split at h
        · rename_i ex hex
          obtain ⟨p, h1, h2⟩ := eqAts_sound hA ρ fuel _ _ z h
          refine ⟨p, h1, ?_⟩
          rw [h2, flats_append, At.expand_cells ρ hex]; rfl
        · simp at h

end
end Go.Eng
