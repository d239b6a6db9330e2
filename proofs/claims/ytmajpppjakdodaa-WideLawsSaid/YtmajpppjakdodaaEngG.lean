/- The engine, part G: the other evaluators without effect. -/
import Derived.Test.YtmajpppjakdodaaEngF
import Derived.Laws.Tables
import Derived.Great.BuildSlice
set_option linter.all false
set_option exponentiation.threshold 3000
namespace Go.Eng
section
variable {P : Program} {K : Cx} {w0 : World} {Wr : Base} {ρ : Rho} {h : Heap} {n : Ids} {w : World}

theorem stb_bool {z : Sc} {r : Bool} (hz : ∀ ρ, z.den ρ = .bool r) : StbV n ρ (.s z) := fun ρ' _ => (hz ρ').trans (hz ρ).symm

/-- '==', '!=' of scalars that are no numbers -/
theorem eqScBin_sound (hT : TOK P K.T) {t : Nat} {a b : Sc} (hok : okB K t a b = true) {r : Bool}
    (hr : (∃ k p q, a.den ρ = .int k p ∧ b.den ρ = .int k q ∧ r = (p == q)) ∨ (∃ p q : Bool, a.den ρ = .bool p ∧ b.den ρ = .bool q ∧ r = (p == q)) ∨
      (∃ p q : ByteArray, a.den ρ = .string p ∧ b.den ρ = .string q ∧ r = (p == q))) (X Y : Operand) :
    ((do eqGuard .eql t X Y (a.den ρ) (b.den ρ); binOp .eql t (a.den ρ) (b.den ρ) : Sem Value).run P w = .ok (.bool r) w) ∧
    ((do eqGuard .neq t X Y (a.den ρ) (b.den ρ); binOp .neq t (a.den ρ) (b.den ρ) : Sem Value).run P w = .ok (.bool (!r)) w) := by
  unfold okB at hok
  split at hok
  · rename_i s s'
    have e1 : (Sc.str s).den ρ = .string s := rfl
    have e2 : (Sc.str s').den ρ = .string s' := rfl
    rw [e1, e2] at hr ⊢
    rcases hr with ⟨k, p, q, h1, _⟩ | ⟨p, q, h1, _⟩ | ⟨p, q, h1, h2, rfl⟩
    · cases h1
    · cases h1
    · cases h1; cases h2
      constructor <;> simp [eqGuard, binOp, Op.stringOp, bne, beq_toListBytes]
  · split at hok
    · rename_i i ht
      split at hok
      · rename_i p q h1 h2 h3
        obtain ⟨l1, p⟩ := p
        obtain ⟨l2, q⟩ := q
        have hu := (hT _ _ ht).bool h1
        rw [boo_den h2, boo_den h3] at hr ⊢
        rcases hr with ⟨k, p, q, h4, _⟩ | ⟨p', q', h4, h5, rfl⟩ | ⟨p, q, h4, h5, rfl⟩
        · cases h4
        · cases h4; cases h5
          have hb := run_equalIn_bool (P := P) w 9999 t p q hu
          constructor <;> simp [eqGuard, binOp, Op.equal, Op.maxDepth, hb]
        · cases h4
      · simp at hok
    · simp at hok

theorem aggEq_sound (hT : TOK P K.T) {t : Nat} {i : TI} (ht : K.T t = some i) (he : i.eq = true) {l m : List At} (hl : shps 2000 l i.zero.atoms = true) (hm : shps 2000 m i.zero.atoms = true)
    {r : Bool} (hr : r = true ↔ flats ρ l = flats ρ m) (X Y : Operand) (hrow : ∃ z, i.zero = .g z) (hag : i.agg = true) :
    ((do eqGuard .eql t X Y ((CV.g l).den ρ) ((CV.g m).den ρ); binOp .eql t ((CV.g l).den ρ) ((CV.g m).den ρ) : Sem Value).run P w = .ok (.bool r) w) ∧
    ((do eqGuard .neq t X Y ((CV.g l).den ρ) ((CV.g m).den ρ); binOp .neq t ((CV.g l).den ρ) ((CV.g m).den ρ) : Sem Value).run P w = .ok (.bool (!r)) w) := by
  have ty := hT _ _ ht
  obtain ⟨hf, hg⟩ := ty.eq he
  obtain ⟨r', hr', hiff⟩ := eqT_sound 9980 20 t _ hf w (flats ρ l) (flats ρ m) (shps_sound ρ _ _ _ _ hl) (shps_sound ρ _ _ _ _ hm)
  have hrr : r = r' := by
    cases r <;> cases r' <;> simp_all
  subst hrr
  have hv : ∀ x : List Value, toVal P t x = .agg x.toArray := by
    intro x
    have h1 := ty.agg
    unfold toVal
    cases hu : P.underlying t with
    | none => simp [hu] at h1
    | some d =>
      simp [hu, hag] at h1
      cases d <;> simp_all
  rw [hv, hv] at hr'
  have hgd : ∀ op, (eqGuard op t X Y (.agg (flats ρ l).toArray) (.agg (flats ρ m).toArray)).run P w = .ok () w := by
    intro op
    unfold eqGuard
    cases op <;> simp [hg]
  constructor
  · show (do eqGuard .eql t X Y (.agg (flats ρ l).toArray) (.agg (flats ρ m).toArray); binOp .eql t (.agg (flats ρ l).toArray) (.agg (flats ρ m).toArray) : Sem Value).run P w = _
    rw [Sem.run_bind, hgd, Result.andThen_ok, run_eql_struct]
    rw [show (10000 : Nat) = 9980 + 20 from rfl, hr']; rfl
  · show (do eqGuard .neq t X Y (.agg (flats ρ l).toArray) (.agg (flats ρ m).toArray); binOp .neq t (.agg (flats ρ l).toArray) (.agg (flats ρ m).toArray) : Sem Value).run P w = _
    rw [Sem.run_bind, hgd, Result.andThen_ok, run_neq_struct]
    rw [show (10000 : Nat) = 9980 + 20 from rfl, hr']; rfl

theorem bin_PS (hA : K.A = stdA) (hT : TOK P K.T) {op : BinOp} {t : Nat} {x y : CV} {r : FR} {X Y : Operand} (e : evBin K op t x y = some r) :
    PS P w ρ n r (do eqGuard op t X Y (x.den ρ) (y.den ρ); binOp op t (x.den ρ) (y.den ρ)) := by
  unfold evBin at e
  split at e
  · rename_i a b
    split at e
    · rename_i p q hp hq
      exact int_PS hA hp hq e
    · split at e
      · simp at e
      · rename_i hok
        simp only [Bool.not_eq_true', Bool.not_eq_false] at hok
        split at e
        · split at e
          · rename_i z hz
            obtain ⟨r', h1, h2⟩ := eqSc_sound (ρ := ρ) hA hz
            refine PS.pure e ?_ (stb_bool h1)
            have h3 := (eqScBin_sound (w := w) hT hok h2 X Y).1
            show (do eqGuard .eql t X Y (a.den ρ) (b.den ρ); binOp .eql t (a.den ρ) (b.den ρ) : Sem Value).run P w = .ok (z.den ρ) w
            rw [h3, h1]
          · simp at e
        · split at e
          · rename_i z hz
            split at e
            · rename_i z' hz'
              obtain ⟨r', h1, h2⟩ := eqSc_sound (ρ := ρ) hA hz
              have h4 := notSc_sound hA hz' h1
              refine PS.pure e ?_ (stb_bool h4)
              have h3 := (eqScBin_sound (w := w) hT hok h2 X Y).2
              show (do eqGuard .neq t X Y (a.den ρ) (b.den ρ); binOp .neq t (a.den ρ) (b.den ρ) : Sem Value).run P w = .ok (z'.den ρ) w
              rw [h3, h4]
            · simp at e
          · simp at e
        · split at e
          · rename_i p q hpq
            rw [hA] at e
            refine PS.pureO e (fun ho => ?_) fun _ _ _ => rfl
            simp only [List.forall_mem_cons, stdA, stdCmp, decide_eq_true_eq] at ho
            obtain ⟨g0, -⟩ := ho
            have hle : ¬ (9223372036854775807 < ((p.size : Int) + (q.size : Int))) := by omega
            show (do eqGuard .add t X Y (.string p) (.string q); binOp .add t (.string p) (.string q) : Sem Value).run P w = .ok (.string (p ++ q)) w
            simp [eqGuard, binOp, Op.stringOp, hle]
          · simp at e
        · simp at e
  · rename_i l m
    split at e
    · rename_i i ht
      split at e
      · rename_i hc
        simp only [Bool.and_eq_true] at hc
        obtain ⟨⟨⟨hc0, hc1⟩, hc2⟩, hc3⟩ := hc
        have hz := (hT _ _ ht).zagg hc0
        split at e
        · split at e
          · rename_i z hzz
            obtain ⟨r', h1, h2⟩ := eqAts_sound hA ρ _ _ _ _ hzz
            refine PS.pure e ?_ (stb_bool h1)
            rw [(aggEq_sound (w := w) hT ht hc1 hc2 hc3 h2 X Y hz hc0).1]
            show _ = Result.ok (z.den ρ) w
            rw [h1]
          · simp at e
        · split at e
          · rename_i z hzz
            split at e
            · rename_i z' hz'
              obtain ⟨r', h1, h2⟩ := eqAts_sound hA ρ _ _ _ _ hzz
              have h4 := notSc_sound hA hz' h1
              refine PS.pure e ?_ (stb_bool h4)
              rw [(aggEq_sound (w := w) hT ht hc1 hc2 hc3 h2 X Y hz hc0).2]
              show _ = Result.ok (z'.den ρ) w
              rw [h4]
            · simp at e
          · simp at e
        · simp at e
      · simp at e
    · simp at e
  · simp at e

theorem un_PS (hA : K.A = stdA) {op : UnOp} {x : Sc} {r : FR} (e : evUn K op x = some r) : PS P w ρ n r (Op.unary op (x.den ρ)) := by
  unfold evUn at e
  split at e
  · split at e
    · rename_i z hz
      cases hb : x.boo with
      | none => cases x <;> simp [Sc.boo] at hb <;> simp [notSc] at hz
      | some p =>
        obtain ⟨l, b⟩ := p
        have h1 : ∀ ρ, x.den ρ = .bool b := fun ρ => boo_den hb
        have h2 := notSc_sound hA hz h1
        refine PS.pure e ?_ (stb_bool h2)
        rw [h1]
        show _ = Result.ok (z.den ρ) w
        rw [h2]; rfl
    · simp at e
  · exact PS.pure e rfl fun _ _ => rfl
  · refine PS.pure e ?_ fun _ _ => rfl
    rw [hA]; rfl
  · exact PS.pure e rfl fun _ _ => rfl
  · refine PS.pure e ?_ fun _ _ => rfl
    rw [hA]; rfl
  · simp at e

theorem conv_PS (hA : K.A = stdA) (hT : TOK P K.T) {src dst : Nat} {x : Sc} {r : FR} (e : evConv K src dst x = some r) : PS P w ρ n r (convert src dst (x.den ρ)) := by
  unfold evConv at e
  split at e
  · simp at e
  · rename_i j hs
    split at e
    · rename_i i hd
      have hsu : ∃ d, P.underlying src = some d := by
        have := (hT _ _ hs).agg
        cases hu : P.underlying src with
        | none => simp [hu] at this
        | some d => exact ⟨d, rfl⟩
      obtain ⟨d, hsu⟩ := hsu
      split at e
      · rename_i k k' m hk
        have hdu := (hT _ _ hd).int _ hk
        refine PS.pure e ?_ fun _ _ => rfl
        show (convert src dst (.int k' m)).run P w = .ok (.int k (k.wrap m)) w
        unfold convert
        rw [Sem.run_bind, run_underlying hsu w]
        simp only [Result.andThen_ok]
        rw [Sem.run_bind, run_underlying hdu w]
        simp only [Result.andThen_ok, Conv.intToInt, Sem.run_pure]
      · rename_i k k' m hk
        have hdu := (hT _ _ hd).int _ hk
        refine PS.pure e ?_ fun _ _ => rfl
        rw [hA]
        show (convert src dst (.int k' m)).run P w = .ok (.int k (k.wrap m)) w
        unfold convert
        rw [Sem.run_bind, run_underlying hsu w]
        simp only [Result.andThen_ok]
        rw [Sem.run_bind, run_underlying hdu w]
        simp only [Result.andThen_ok, Conv.intToInt, Sem.run_pure]
      · simp at e
    · simp at e


theorem dig_low (x j : Nat) : x / 2 ^ (32 * j) % 2 ^ 32 = x % 2 ^ (32 * (j + 1)) / 2 ^ (32 * j) := by
  rw [show 32 * (j + 1) = 32 * j + 32 from by omega, Nat.pow_add, Nat.mod_mul_right_div_self]

theorem mod_of_mod {x y i j : Nat} (h : x % 2 ^ (32 * i) = y % 2 ^ (32 * i)) (hj : j ≤ i) : x % 2 ^ (32 * j) = y % 2 ^ (32 * j) := by
  have hd : 2 ^ (32 * j) ∣ 2 ^ (32 * i) := Nat.pow_dvd_pow 2 (by omega)
  rw [← Nat.mod_mod_of_dvd x hd, h, Nat.mod_mod_of_dvd y hd]

theorem set_form {n i v : Nat} : n - n / 2 ^ (32 * i) % 2 ^ 32 * 2 ^ (32 * i) + v * 2 ^ (32 * i) = 2 ^ (32 * i) * (2 ^ 32 * (n / 2 ^ (32 * i) / 2 ^ 32) + v) + n % 2 ^ (32 * i) := by
  generalize hp : 2 ^ (32 * i) = p
  have h1 := Nat.div_add_mod n p
  have h2 := Nat.div_add_mod (n / p) (2 ^ 32)
  generalize n / p / 2 ^ 32 = a at *
  generalize n / p % 2 ^ 32 = d at *
  generalize n % p = r at *
  rw [← h2] at h1
  have h3 : n = p * (2 ^ 32 * a) + d * p + r := by rw [← h1, Nat.mul_add, Nat.mul_comm p d]
  rw [h3, Nat.mul_add, Nat.mul_comm p v]
  omega

theorem set_lt {n i v : Nat} (hn : n < 2 ^ 1024) (hi : i < 32) (hv : v < 2 ^ 32) : 2 ^ (32 * i) * (2 ^ 32 * (n / 2 ^ (32 * i) / 2 ^ 32) + v) + n % 2 ^ (32 * i) < 2 ^ 1024 := by
  have hp : 0 < 2 ^ (32 * i) := Nat.two_pow_pos _
  have hr : n % 2 ^ (32 * i) < 2 ^ (32 * i) := Nat.mod_lt _ hp
  have hq : n / 2 ^ (32 * i) / 2 ^ 32 < 2 ^ (1024 - 32 * (i + 1)) := by
    rw [Nat.div_div_eq_div_mul, ← Nat.pow_add, Nat.div_lt_iff_lt_mul (Nat.two_pow_pos _), ← Nat.pow_add]
    rw [show 1024 - 32 * (i + 1) + (32 * i + 32) = 1024 from by omega]
    exact hn
  have e : 2 ^ 1024 = 2 ^ (32 * i) * (2 ^ 32 * 2 ^ (1024 - 32 * (i + 1))) := by
    rw [← Nat.pow_add, ← Nat.pow_add]
    congr 1
    omega
  rw [e]
  generalize n / 2 ^ (32 * i) / 2 ^ 32 = a at *
  generalize n % 2 ^ (32 * i) = r at *
  generalize 2 ^ (32 * i) = p at *
  generalize 2 ^ (1024 - 32 * (i + 1)) = c at *
  have h1 : 2 ^ 32 * a + v + 1 ≤ 2 ^ 32 * c := by omega
  have h2 := Nat.mul_le_mul_left p h1
  rw [Nat.mul_add, Nat.mul_one] at h2
  omega

theorem Dg.set_n (d : Dg) (i v : Nat) (hi : i < 32) (hv : v < 2 ^ 32) : (d.set i v).n = 2 ^ (32 * i) * (2 ^ 32 * (d.n / 2 ^ (32 * i) / 2 ^ 32) + v) + d.n % 2 ^ (32 * i) := by
  unfold Dg.set Dg.dig
  simp only
  rw [set_form, Nat.mod_eq_of_lt (set_lt d.lt hi hv)]

theorem Dg.set_dig (d : Dg) (i v j : Nat) (hi : i < 32) (hv : v < 2 ^ 32) : (d.set i v).dig j = if j = i then v else d.dig j := by
  unfold Dg.dig
  rw [Dg.set_n d i v hi hv]
  have hp : 0 < 2 ^ (32 * i) := Nat.two_pow_pos _
  have hr : d.n % 2 ^ (32 * i) < 2 ^ (32 * i) := Nat.mod_lt _ hp
  have hdiv : (2 ^ (32 * i) * (2 ^ 32 * (d.n / 2 ^ (32 * i) / 2 ^ 32) + v) + d.n % 2 ^ (32 * i)) / 2 ^ (32 * i) = 2 ^ 32 * (d.n / 2 ^ (32 * i) / 2 ^ 32) + v := by
    rw [Nat.mul_add_div hp, Nat.div_eq_of_lt hr, Nat.add_zero]
  split
  · rename_i he
    subst he
    rw [hdiv, Nat.mul_add_mod, Nat.mod_eq_of_lt hv]
  · rename_i hne
    by_cases hlt : j < i
    · rw [dig_low, dig_low]
      congr 1
      refine mod_of_mod (i := i) ?_ (by omega)
      rw [Nat.mul_add_mod, Nat.mod_mod]
    · have e : 2 ^ (32 * j) = 2 ^ (32 * i) * (2 ^ 32 * 2 ^ (32 * (j - i - 1))) := by
        rw [← Nat.pow_add, ← Nat.pow_add]; congr 1; omega
      rw [e, ← Nat.div_div_eq_div_mul, hdiv, ← Nat.div_div_eq_div_mul, Nat.mul_add_div (Nat.two_pow_pos 32), Nat.div_eq_of_lt hv, Nat.add_zero, ← Nat.div_div_eq_div_mul, ← Nat.div_div_eq_div_mul]

/-- one word set -/
theorem Dg.set_cells (d : Dg) (i v : Nat) (hi : i < 32) (hv : v < 2 ^ 32) : (d.set i v).cells = d.cells.set i (.int .u32 (v : Nat)) := by
  apply List.ext_getElem?
  intro j
  rw [List.getElem?_set]
  by_cases hj : j < 32
  · simp only [Dg.cells, List.getElem?_map, List.getElem?_range hj, Option.map_some, Dg.set_dig d i v j hi hv, List.length_map, List.length_range]
    by_cases he : i = j
    · subst he; simp [hi]
    · rw [if_neg (fun e => he e.symm), if_neg he]
  · rw [List.getElem?_eq_none (by simp; omega), if_neg (by omega), List.getElem?_eq_none (by simp; omega)]


/-! building -/
theorem Sc.one (h1 : ∀ i, (ρ i).oneCell' = true) {x : Sc} (hx : x ≠ .un) : (x.den ρ).oneCell' = true := by
  have ha : ∀ i o, (addOff (ρ i) o).oneCell' = true := fun i o => by
    have := h1 i
    unfold addOff
    split
    · rfl
    · exact this
  cases x with
  | hp id off => exact ha id off
  | pe id b e i off => exact ha id _
  | hs id => exact h1 id
  | hm id => exact h1 id
  | ve id e i off =>
    have := h1 id
    simp only [Sc.den]
    split
    · rfl
    · exact this
  | hw id e a b =>
    have := h1 id
    simp only [Sc.den]
    split
    · rfl
    · exact this
  | ha id e f a b c =>
    have := h1 id
    simp only [Sc.den]
    split
    · rfl
    · exact this
  | un => exact absurd rfl hx
  | _ => rfl

theorem noUn_one (h1 : ∀ i, (ρ i).oneCell' = true) : ∀ {l : List At}, noUn l = true → ∀ c, c ∈ flats ρ l → c.oneCell' = true := by
  intro l
  induction l with
  | nil => intro _ c hc; simp [flats] at hc
  | cons a r ih =>
    intro hn c hc
    simp only [flats, List.mem_append] at hc
    unfold noUn at hn
    split at hn
    · simp_all
    · simp at hn
    · rename_i a' r' hne heq
      simp only [List.cons.injEq] at heq
      obtain ⟨rfl, rfl⟩ := heq
      rcases hc with hc | hc
      · have hd : ∀ d : Dg, ∀ c, c ∈ d.cells → c.oneCell' = true := by
          intro d c hc
          simp only [Dg.cells, List.mem_map] at hc
          obtain ⟨i, _, rfl⟩ := hc
          rfl
        have hw : ∀ x : Wd, ∀ c, c ∈ x.cells → c.oneCell' = true := by
          intro x c hc
          simp only [Wd.cells, List.mem_cons] at hc
          rcases hc with rfl | hc
          · rfl
          · exact hd _ _ hc
        have hr : ∀ x : Rt, ∀ c, c ∈ x.cells → c.oneCell' = true := by
          intro x c hc
          simp only [Rt.cells, List.mem_append] at hc
          rcases hc with hc | hc <;> exact hw _ _ hc
        cases a with
        | s x =>
          simp only [At.cells, List.mem_singleton] at hc
          subst hc
          exact Sc.one h1 fun e => hne (by rw [e])
        | D d => exact hd _ _ hc
        | W x => exact hw _ _ hc
        | R x => exact hr _ _ hc
        | P x =>
          simp only [At.cells, Pt.cells, List.mem_append] at hc
          rcases hc with hc | hc <;> exact hr _ _ hc
      · exact ih hn c hc

theorem den_cells (h1 : ∀ i, (ρ i).oneCell' = true) {v : CV} (hn : noUn v.atoms = true) : (v.den ρ).cells = (flats ρ v.atoms).toArray := by
  cases v with
  | s x =>
    have := noUn_one h1 hn (x.den ρ) (by simp [CV.atoms, flats, At.cells])
    simp only [CV.den, CV.atoms, flats, At.cells]
    cases hx : x.den ρ <;> simp [hx, Value.oneCell'] at this <;> simp [Value.cells]
  | g l => rfl

theorem fill_sound (h1 : ∀ i, (ρ i).oneCell' = true) (offs : Nat → Option (Nat × Nat)) : ∀ (ps : List (Nat × CV)) (l m : List At), fillA offs l ps = some m →
    Instr.fill offs (flats ρ l).toArray (ps.map fun p => (p.1, p.2.den ρ)) = some (flats ρ m).toArray
  | [], l, m, h => by simp only [fillA, Option.some.injEq] at h; subst h; rfl
  | (i, v) :: r, l, m, h => by
    simp only [fillA] at h
    split at h
    · rename_i o z ho
      split at h
      · rename_i hc
        simp only [Bool.and_eq_true, beq_iff_eq] at hc
        split at h
        · rename_i l' hl'
          have ih := fill_sound h1 offs r l' m h
          obtain ⟨h2, h3⟩ := updA_flats ρ hl'
          have hcs := den_cells h1 hc.2
          simp only [List.map_cons, Instr.fill, ho, hcs]
          rw [if_neg (by simp [hc.1]; rw [← hc.1]; exact h2)]
          rw [← ih]
          congr 1
          obtain ⟨g1, g2⟩ := Great.foldl_set o (flats ρ v.atoms) 0 (flats ρ l).toArray
          apply Array.ext_getElem?
          intro k
          have e1 : (((flats ρ v.atoms).toArray.zipIdx.foldl (fun cs x => cs.setIfInBounds (o + x.2) x.1) (flats ρ l).toArray)) = (((flats ρ v.atoms).zipIdx 0).foldl (fun cs (x : Value × Nat) => cs.setIfInBounds (o + x.2) x.1) (flats ρ l).toArray) := by
            rw [← Array.foldl_toList]; simp
          show (((flats ρ v.atoms).toArray.zipIdx.foldl (fun cs x => cs.setIfInBounds (o + x.2) x.1) (flats ρ l).toArray))[k]? = _
          rw [e1, g2 k, h3]
          simp only [Nat.add_zero, flats_length, List.size_toArray, List.getElem?_toArray]
          split
          · rename_i hk
            rw [List.getElem?_append_right (by simp; omega), List.getElem?_append_left (by simp; omega)]
            congr 1
            simp; omega
          · rename_i hk
            by_cases hko : k < o
            · rw [List.getElem?_append_left (by simp; omega), List.getElem?_take, if_pos hko]
            · rw [List.getElem?_append_right (by simp; omega), List.getElem?_append_right (by simp; omega), List.getElem?_drop]
              by_cases hkl : k < sizes l
              · congr 1; simp; omega
              · rw [List.getElem?_eq_none (by simp; omega), List.getElem?_eq_none (by simp; omega)]
        · simp at h
      · simp at h
    · simp at h

theorem fillW_sound : ∀ (ps : List (Nat × CV)) (d e : Dg) (ob : List Bool), fillW stdA d ps = some (ob, e) → (∀ b, b ∈ ob → b = true) →
    Instr.fill (fun i => some (i * 1, 1)) d.cells.toArray (ps.map fun p => (p.1, p.2.den ρ)) = some e.cells.toArray
  | [], d, e, ob, h, _ => by simp only [fillW, Option.some.injEq, Prod.mk.injEq] at h; obtain ⟨_, rfl⟩ := h; rfl
  | (i, .g _) :: r, d, e, ob, h, _ => by simp [fillW] at h
  | (i, .s x) :: r, d, e, ob, h, ho => by
    simp only [fillW] at h
    split at h
    · rename_i lit z hx
      split at h
      · rename_i hi
        split at h
        · rename_i ob' e' hr
          simp only [Option.some.injEq, Prod.mk.injEq] at h
          obtain ⟨rfl, rfl⟩ := h
          simp only [List.forall_mem_cons, stdA, stdCmp, decide_eq_true_eq] at ho
          obtain ⟨g0, g1, ho⟩ := ho
          have ih := fillW_sound r _ _ _ hr ho
          have hz : Value.int .u32 z = .int .u32 (z.toNat : Nat) := by congr 1; omega
          have hv : ((CV.s x).den ρ).cells = #[.int .u32 z] := by show (x.den ρ).cells = _; rw [num_den hx]; rfl
          simp only [List.map_cons, Instr.fill, hv]
          rw [if_neg (by simp [Dg.cells]; omega), ← ih]
          congr 1
          show (d.cells.toArray.setIfInBounds (i * 1 + 0) (.int .u32 z)) = (d.set (i : Int).toNat z.toNat).cells.toArray
          rw [show (i : Int).toNat = i from by omega, Dg.set_cells d i z.toNat hi (by omega), hz]
          simp
        · simp at h
      · simp at h
    · simp at h

theorem fillA_stb (offs : Nat → Option (Nat × Nat)) : ∀ (ps : List (Nat × CV)) (l m : List At), fillA offs l ps = some m → StbL n ρ l → (∀ p, p ∈ ps → StbL n ρ p.2.atoms) → StbL n ρ m
  | [], l, m, h, hl, _ => by simp only [fillA, Option.some.injEq] at h; subst h; exact hl
  | (i, v) :: r, l, m, h, hl, hp => by
    simp only [fillA] at h
    split at h
    · split at h
      · split at h
        · rename_i l' hl'
          refine fillA_stb offs r l' m h (fun ρ' ha => ?_) fun p hp' => hp p (List.mem_cons_of_mem _ hp')
          rw [(updA_flats ρ' hl').2, (updA_flats ρ hl').2, hl ρ' ha, hp _ (List.mem_cons_self ..) ρ' ha]
        · simp at h
      · simp at h
    · simp at h

theorem build_PS (hA : K.A = stdA) (hT : TOK P K.T) (h1 : ∀ i, (ρ i).oneCell' = true) {t : Nat} {ps : List (Nat × CV)} {r : FR} (hps : ∀ p, p ∈ ps → StbL n ρ p.2.atoms) (e : evBuild K t ps = some r) {parts : Array (Nat × Value)} (hpa : parts.toList = ps.map fun p => (p.1, p.2.den ρ)) :
    PS P w ρ n r (Instr.build t parts) := by
  unfold evBuild at e
  split at e
  · rename_i i ht
    have ty := hT _ _ ht
    split at e
    · rename_i hnu
      have hz := ty.zero
      have hag : ∃ it, P.info? t = some it := by
        have := ty.size
        cases hq : P.info? t with
        | none => simp [hq] at this
        | some it => exact ⟨it, rfl⟩
      obtain ⟨it, hit⟩ := hag
      simp only [hit, Option.bind_some] at hz
      have hzc : (i.zero.den rho0).cells = (flats ρ i.zero.atoms).toArray := by
        rw [den_cells (fun _ => rfl) hnu, ty.zst ρ]
      have hzs : StbL n ρ i.zero.atoms := fun ρ' _ => (ty.zst ρ').trans (ty.zst ρ).symm
      have hgo : ∀ (offs : Nat → Option (Nat × Nat)) (l : List At), fillA offs i.zero.atoms ps = some l → Instr.fill offs (i.zero.den rho0).cells parts.toList = some (flats ρ l).toArray := by
        intro offs l hl
        rw [hzc, hpa]
        exact fill_sound h1 offs ps _ _ hl
      split at e
      · rename_i m el esz harr
        split at e
        · rename_i l hl
          obtain ⟨hu, hsz⟩ := ty.arr _ _ _ harr
          cases hie : P.info? el with
          | none => simp [hie] at hsz
          | some ie =>
            simp only [hie, Option.map_some, Option.some.injEq] at hsz
            refine PS.pure e (run_build w t parts _ ?_) (stb_agg (fillA_stb _ _ _ _ hl hzs hps))
            unfold Program.built
            simp only [hit, hu, hz, hie, hsz]
            exact hgo _ _ hl
        · unfold evFillW at e
          split at e
          · rename_i d hzero _
            split at e
            · rename_i ob e' hw
              obtain ⟨hu, hsz⟩ := ty.arr _ _ _ harr
              cases hie : P.info? el with
              | none => simp [hie] at hsz
              | some ie =>
                simp only [hie, Option.map_some, Option.some.injEq] at hsz
                rw [hA] at hw
                refine PS.pureO e (fun ho => run_build w t parts _ ?_) fun _ _ _ => rfl
                unfold Program.built
                simp only [hit, hu, hz, hie, hsz]
                rw [hzc, hzero, hpa]
                have := fillW_sound (ρ := ρ) ps d e' ob hw ho
                simpa [flats, At.cells] using this
            · simp at e
          · simp at e
      · split at e
        · simp at e
        · rename_i f fs hfl
          split at e
          · rename_i l hl
            rcases ty.fields with h0 | ⟨fs', hu, hfs⟩
            · rw [h0] at hfl; simp at hfl
            · refine PS.pure e (run_build w t parts _ ?_) (stb_agg (fillA_stb _ _ _ _ hl hzs hps))
              unfold Program.built
              simp only [hit, hu, hz, hfs]
              rw [hfl]
              have := hgo _ _ hl
              simpa using this
          · simp at e
    · simp at e
  · simp at e

end
end Go.Eng
