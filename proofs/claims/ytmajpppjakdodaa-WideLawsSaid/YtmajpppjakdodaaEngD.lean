/- The engine, part D: memory; each operation does what the evaluator says. -/
import Derived.Test.YtmajpppjakdodaaEngC
set_option linter.all false
set_option exponentiation.threshold 3000
namespace Go.Eng

def blkOf : Value → Option Nat
  | .pointer (some a) => some a.block
  | .slice (some a) _ _ => some a.block
  | .map (some r) => some r
  | _ => none

def RK.flat (k : RK) (l : List k.ty) : List Value := l.flatMap fun x => flats (fun _ => undef) (k.at x)

theorem AK.at_cells (k : AK) (x : k.ty) (ρ ρ' : Rho) : (k.at1 x).cells ρ = (k.at1 x).cells ρ' := by
  cases k <;> simp [AK.at1, At.cells, Sc.den]

theorem AK.at_size (k : AK) (x : k.ty) : (k.at1 x).size = k.sz := by
  cases k <;> simp [AK.at1, At.size, AK.sz]

theorem rowAt_flats (ρ ρ' : Rho) : ∀ (l : List AK) (x : rowTy l), flats ρ (rowAt l x) = flats ρ' (rowAt l x)
  | [], _ => rfl
  | k :: r, x => by simp only [rowAt, flats]; rw [k.at_cells x.1 ρ ρ', rowAt_flats ρ ρ' r x.2]

theorem rowAt_sizes : ∀ (l : List AK) (x : rowTy l), sizes (rowAt l x) = rowSz l
  | [], _ => rfl
  | k :: r, x => by simp only [rowAt, sizes, rowSz]; rw [k.at_size, rowAt_sizes r x.2]

theorem RK.at_flats (k : RK) (x : k.ty) (ρ ρ' : Rho) : flats ρ (k.at x) = flats ρ' (k.at x) := by
  cases k
  case row l => exact rowAt_flats ρ ρ' l x
  all_goals simp [RK.at, flats, At.cells, Sc.den]

theorem RK.at_sizes (k : RK) (x : k.ty) : sizes (k.at x) = k.esz := by
  cases k
  case row l => exact rowAt_sizes l x
  all_goals simp [RK.at, sizes, At.size, RK.esz]

def Blk.ok (w : World) (v : Value) (ρ : Rho) : Blk → Prop
  | .fix own l => ∃ b o, v = .pointer (some ⟨b, o, none⟩) ∧ b < w.heap.size ∧ w.rangeAt b o (flats ρ l) ∧ (own = true → w.there b o (sizes l))
  | .vec own k l => ∃ base cap, v = .slice base l.length cap ∧ l.length ≤ cap ∧
      match base with
      | none => l = [] ∧ cap = 0
      | some a => ∃ b o, a = ⟨b, o, none⟩ ∧ b < w.heap.size ∧ w.rangeAt b o (k.flat l) ∧ (own = true → w.there b o (k.esz * cap))
  | .gone => ∀ x, blkOf v = some x → x < w.heap.size

def Blk.stb (n : Ids) (ρ : Rho) : Blk → Prop
  | .fix _ l => StbL n ρ l
  | .vec _ _ _ => True
  | .gone => True

/-- how a function began: the blocks of then that may be written; the handles of then, what they stood for -/
structure Base where
  wr : Nat → Prop
  ids : Ids
  rho : Rho
  org : Nat → Prop

/-- the blocks that are known, in a world; w0: the world at the function's begin; Wr: blocks of then that may be written -/
structure HS (w0 : World) (Wr : Base) (ρ : Rho) (h : Heap) (n : Ids) (w : World) : Prop where
  one : ∀ i, (ρ i).oneCell' = true
  ok : ∀ id b, look h id = some b → n id ∧ b.ok w (ρ id) ρ ∧ b.stb n ρ
  sep : ∀ i b j c, look h i = some b → look h j = some c → i ≠ j → b.own = true → c.live = true → ∀ x, blkOf (ρ i) = some x → blkOf (ρ j) ≠ some x
  wr : ∀ i b x, look h i = some b → b.own = true → blkOf (ρ i) = some x → w0.heap.size ≤ x ∨ Wr.wr x
  org : ∀ i b x, look h i = some b → b.live = true → blkOf (ρ i) = some x → w0.heap.size ≤ x ∨ Wr.wr x ∨ Wr.org x
  frame : ∀ x, x < w0.heap.size → ¬ Wr.wr x → w.heap[x]? = w0.heap[x]?
  os : w.os = w0.os
  tape : w.tape = w0.tape
  output : w.output = w0.output
  size : w0.heap.size ≤ w.heap.size
  ag : Agree Wr.ids Wr.rho ρ
  inn : ∀ i, Wr.ids i → n i

section mem
variable {w w' : World} {b o : Nat}

theorem cell_of_block (h : w'.heap[b]? = w.heap[b]?) (p : Addr) (hp : p.block = b) : w'.cell? p = w.cell? p := by
  subst hp; simp only [World.cell?, h]

theorem frozen_of_block (h : w'.heap[b]? = w.heap[b]?) (p : Addr) (hp : p.block = b) : w'.frozen? p = w.frozen? p := by
  subst hp; simp only [World.frozen?, h]

theorem rangeAt_of_block {cs : List Value} (h : w'.heap[b]? = w.heap[b]?) (hc : w.rangeAt b o cs) : w'.rangeAt b o cs :=
  fun j v hv => by rw [cell_of_block h ⟨b, o + j, none⟩ rfl]; exact hc j v hv

theorem there_of_block {n : Nat} (h : w'.heap[b]? = w.heap[b]?) (hc : w.there b o n) : w'.there b o n :=
  fun j hj => by rw [cell_of_block h ⟨b, o + j, none⟩ rfl, frozen_of_block h ⟨b, o + j, none⟩ rfl]; exact hc j hj

/-- what hangs on one block alone -/
theorem Blk.ok_of_block {ρ : Rho} {v : Value} {k : Blk} (hsz : w.heap.size ≤ w'.heap.size) (h : ∀ x, blkOf v = some x → w'.heap[x]? = w.heap[x]?) (hk : k.ok w v ρ) : k.ok w' v ρ := by
  cases k with
  | fix own l =>
    obtain ⟨b, o, rfl, hb, hr, ht⟩ := hk
    have he := h b rfl
    exact ⟨b, o, rfl, by omega, rangeAt_of_block he hr, fun e => there_of_block he (ht e)⟩
  | vec own k l =>
    obtain ⟨base, cap, rfl, hc, hm⟩ := hk
    refine ⟨base, cap, rfl, hc, ?_⟩
    cases base with
    | none => exact hm
    | some a =>
      obtain ⟨b, o, rfl, hb, hr, ht⟩ := hm
      have he := h b rfl
      exact ⟨b, o, rfl, by omega, rangeAt_of_block he hr, fun e => there_of_block he (ht e)⟩
  | gone => exact fun x hx => Nat.lt_of_lt_of_le (hk x hx) hsz

theorem Blk.ok_move {ρ ρ' : Rho} {v : Value} {k : Blk} {n : Ids} (hs : k.stb n ρ) (ha : Agree n ρ ρ') (hk : k.ok w v ρ) : k.ok w v ρ' := by
  cases k with
  | fix own l =>
    obtain ⟨b, o, rfl, hb, hr, ht⟩ := hk
    have e : flats ρ' l = flats ρ l := hs ρ' ha
    exact ⟨b, o, rfl, hb, by rw [e]; exact hr, ht⟩
  | vec own k l => exact hk
  | gone => exact hk

theorem Blk.stb_move {ρ ρ' : Rho} {k : Blk} {n m : Ids} (hs : k.stb n ρ) (ha : Agree n ρ ρ') (hm : ∀ i, n i → m i) : k.stb m ρ' := by
  cases k with
  | fix own l => exact StbL.mono (StbL.move hs ha) hm
  | vec own k l => trivial
  | gone => trivial

theorem Blk.block {ρ : Rho} {v : Value} {k : Blk} {x : Nat} (hk : k.ok w v ρ) (hx : blkOf v = some x) : x < w.heap.size := by
  cases k with
  | fix own l => obtain ⟨b, o, rfl, hb, _⟩ := hk; simp [blkOf] at hx; omega
  | vec own k l =>
    obtain ⟨base, cap, rfl, hc, hm⟩ := hk
    cases base with
    | none => simp [blkOf] at hx
    | some a => obtain ⟨b, o, rfl, hb, _⟩ := hm; simp [blkOf] at hx; omega
  | gone => exact hk x hx

end mem

theorem look_setH {h : Heap} {i j : Nat} {b : Blk} : look (setH h i b) j = if j = i then (look h i).map (fun _ => b) else look h j := by
  induction h with
  | nil => simp [setH, look]
  | cons x r ih =>
    obtain ⟨k, c⟩ := x
    simp only [setH]
    by_cases hk : k = i
    · subst hk
      simp only [beq_self_eq_true, if_true, look]
      by_cases hj : j = k
      · subst hj; simp
      · have : (k == j) = false := by simp; exact fun e => hj e.symm
        simp [this, hj]
    · have hk' : (k == i) = false := by simp [hk]
      simp only [hk', Bool.false_eq_true, if_false, look]
      by_cases hj : j = k
      · subst hj; simp [hk]
      · have : (k == j) = false := by simp; exact fun e => hj e.symm
        simp [this, ih]

/-! ## Types -/
def ck : Value → Option CK
  | .int k _ => some (.int k)
  | .bool _ => some .bool
  | _ => none

/-- the fields lie one behind the other, from a cell on: where the last one ends -/
def fieldsTo (P : Program) : List Field → Nat → Option Nat
  | [], o => some o
  | f :: r, o => if f.offset = o then fieldsTo P r (o + P.cellsOf f.type) else none

/-- do cells of these kinds fit the type, as one whose '==' is a comparison cell by cell -/
def fitsT (P : Program) : Nat → Nat → List (Option CK) → Bool
  | 0, _, _ => false
  | d + 1, t, ks => match P.underlying t with
    | some .bool => ks == [some .bool]
    | some (.int _) => match ks with
      | [some (.int _)] => true
      | _ => false
    | some (.struct fs) => !P.stoodInHeld t && fieldsTo P fs.toList 0 == some ks.length &&
        fs.toList.all fun f => f.name != "_" && (P.info? f.type).isSome && fitsT P d f.type ((ks.drop f.offset).take (P.cellsOf f.type))
    | some (.array n e) => (P.info? e).isSome && ks.length == n * P.cellsOf e && (List.range n).all fun i => fitsT P d e ((ks.drop (i * P.cellsOf e)).take (P.cellsOf e))
    | _ => false

structure TyOK (P : Program) (t : Nat) (i : TI) : Prop where
  agg : (P.underlying t).map (·.isRow) = some i.agg
  size : (P.info? t).map (·.size) = some i.size
  zero : (P.info? t).bind (·.zero) = some (i.zero.den rho0)
  zst : ∀ ρ, flats ρ i.zero.atoms = flats rho0 i.zero.atoms
  zsize : sizes i.zero.atoms = i.size
  zagg : i.agg = true → ∃ l, i.zero = .g l
  fields : i.fields = [] ∨ ∃ fs, P.underlying t = some (.struct fs) ∧ (fs.toList.mapM fun f => (P.info? f.type).map fun i => (f.offset, i.size)) = some i.fields
  fsize : ∀ o z, (o, z) ∈ i.fields → z ≠ 0
  arr : ∀ n e z, i.arr = some (n, e, z) → P.underlying t = some (.array n e) ∧ (P.info? e).map (·.size) = some z
  elem : ∀ e z k, i.elem = some (e, z, k) → P.underlying t = some (.slice e) ∧ (P.info? e).map (·.size) = some z ∧ z = k.esz ∧ ((P.info? e).bind (·.zero)).map (·.cells.toList) = some (flats rho0 (k.at (k.dflt stdA))) ∧ ((P.info? e).map fun i => decide (i.bytes ≤ 65536)) = some true ∧ 0 < k.esz ∧ k.esz ≤ 1000
  ints : ∀ e z k, i.elem = some (e, z, .int k) → P.underlying e = some (.int k)
  int : ∀ k, i.sc = some (.int k) → P.underlying t = some (.int k)
  bool : i.sc = some .bool → P.underlying t = some .bool
  str : i.sc = some .str → P.underlying t = some .string
  eq : i.eq = true → fitsT P 20 t ((flats rho0 i.zero.atoms).map ck) = true ∧ P.eqGuardType P.depth t = false

def TOK (P : Program) (T : Nat → Option TI) : Prop := ∀ t i, T t = some i → TyOK P t i

section ops
variable {P : Program} {K : Cx} {w0 : World} {Wr : Base} {ρ : Rho} {h : Heap} {n : Ids} {w : World}

theorem run_isAgg {t : Nat} {i : TI} (ht : TyOK P t i) : (isAgg t).run P w = .ok i.agg w := by
  have := ht.agg
  cases hu : P.underlying t with
  | none => simp [hu] at this
  | some d =>
    simp [hu] at this
    unfold isAgg
    rw [Sem.run_bind, run_underlying hu w]
    cases d <;> simp_all

theorem run_sizeOf' {t : Nat} {m : Nat} (ht : (P.info? t).map (·.size) = some m) : (sizeOf t).run P w = .ok m w := by
  cases hq : P.info? t with
  | none => simp [hq] at ht
  | some i => simp [hq] at ht; subst ht; simp [sizeOf, typeInfo, hq]

theorem loadVar_agg {t : Nat} {i : TI} (ht : TyOK P t i) (ha : i.agg = true) {b o : Nat} {cs : List Value} (hc : w.rangeAt b o cs) (hl : cs.length = i.size) :
    (loadVar t ⟨b, o, none⟩).run P w = .ok (.agg cs.toArray) w := by
  have h1 := ht.agg
  cases hu : P.underlying t with
  | none => simp [hu] at h1
  | some d =>
    simp [hu, ha] at h1
    exact run_loadVar_mid w b o t cs d hc hu h1 (by rw [hl]; exact ht.size)

theorem loadVar_one {t : Nat} {i : TI} (ht : TyOK P t i) (ha : i.agg = false) {a : Addr} {v : Value} (hc : w.cell? a = some v) :
    (loadVar t a).run P w = .ok v w := by
  unfold loadVar
  rw [Sem.run_bind, run_isAgg ht]
  simp [ha, hc]

/-- 'loadAt', whatever the type, where the cells are known -/
theorem loadAt_sound {t : Nat} {i : TI} (ht : TyOK P t i) {b o : Nat} {l : List At} {v : CV} (hc : w.rangeAt b o (flats ρ l)) (hl : sizes l = i.size)
    (hv : asVal i.agg l = some v) : (Instr.loadAt t (.pointer (some ⟨b, o, none⟩))).run P w = .ok (v.den ρ) w := by
  unfold asVal at hv
  simp only [Instr.loadAt, Instr.sureAddr, Sem.run_bind, Sem.run_pure, Result.andThen_ok]
  split at hv
  · rename_i ha
    simp only [Option.some.injEq] at hv
    subst hv
    rw [loadVar_agg ht ha hc (by simp [hl])]
    simp [CV.den, merge_flats]
  · rename_i ha
    split at hv
    · rename_i x
      simp only [Option.some.injEq] at hv
      subst hv
      have := hc 0 (x.den ρ) (by simp [flats, At.cells])
      rw [Nat.add_zero] at this
      rw [loadVar_one ht (by simpa using ha) this]
      rfl
    · simp at hv

theorem rangeAt_sub {b o : Nat} {cs : List Value} (off m : Nat) (hc : w.rangeAt b o cs) : w.rangeAt b (o + off) ((cs.drop off).take m) := by
  intro j v hv
  have := hc (off + j) v (by
    rw [List.getElem?_take] at hv
    split at hv
    · simpa using hv
    · simp at hv)
  rw [← Nat.add_assoc] at this
  exact this

theorem digAt_flats {l : List At} : ∀ {off : Nat} {x : Sc}, digAt stdA l off = some x → ∃ v, x = .int .u32 v ∧ (flats ρ l)[off]? = some (.int .u32 v) := by
  induction l with
  | nil => intro off x h; simp [digAt] at h
  | cons a r ih =>
    intro off x h
    simp only [digAt] at h
    split at h
    · rename_i hlt
      have hf : (flats ρ (a :: r))[off]? = (a.cells ρ)[off]? := by
        simp only [flats]; rw [List.getElem?_append_left (by simpa using hlt)]
      rw [hf]
      cases a with
      | D d =>
        simp only [Option.some.injEq] at h
        subst h
        simp only [At.size] at hlt
        refine ⟨_, rfl, ?_⟩
        simp [At.cells, Dg.cells, stdA, hlt]
      | W x =>
        simp only [At.size] at hlt
        cases off with
        | zero => simp at h
        | succ o =>
          simp only [Option.some.injEq] at h
          subst h
          refine ⟨_, rfl, ?_⟩
          have : o < 32 := by omega
          simp [At.cells, Wd.cells, Dg.cells, stdA, this]
      | s x => simp at h
      | R x => simp at h
      | P x => simp at h
    · rename_i hge
      obtain ⟨v, hx, hv⟩ := ih h
      refine ⟨v, hx, ?_⟩
      simp only [flats]
      rw [List.getElem?_append_right (by simp; omega)]
      simpa using hv

theorem atD_flats {l : List At} : ∀ {base : Nat} {d : Dg}, atD l base = some d → base + 32 ≤ sizes l ∧ ((flats ρ l).drop base).take 32 = d.cells := by
  induction l with
  | nil => intro base d h; simp [atD] at h
  | cons a r ih =>
    intro base d h
    unfold atD at h
    split at h
    · split at h
      · simp only [Option.some.injEq] at h
        subst h
        simp [sizes, At.size, flats, At.cells]
      · simp at h
    · split at h
      · simp only [Option.some.injEq] at h
        subst h
        simp [sizes, At.size, flats, At.cells, Wd.cells]
      · split at h
        · rename_i hs
          obtain ⟨h1, h2⟩ := ih h
          simp at hs
          refine ⟨by simp [sizes]; omega, ?_⟩
          simp only [flats]
          rw [List.drop_append, List.drop_eq_nil_of_le (by simp [hs])]
          simpa [hs] using h2
        · simp at h
    · rename_i o
      split at h
      · rename_i hs
        obtain ⟨h1, h2⟩ := ih h
        refine ⟨by simp [sizes]; omega, ?_⟩
        simp only [flats]
        rw [List.drop_append, List.drop_eq_nil_of_le (by simp; omega)]
        simpa using h2
      · split at h
        · split at h
          · rename_i ho
            simp at ho
            simp only [Option.some.injEq] at h
            subst h
            subst ho
            have e : ∀ x : Rt, (x.cells.drop 34) = x.D.d.cells := fun x => by
              simp [Rt.cells, Wd.cells, List.drop_append]
            simp [sizes, At.size, flats, At.cells, List.drop_append, e]
          · simp at h
        · simp at h

theorem atE_flats {l : List At} {base : Nat} {d e : Dg} (h : atE l base = some (d, e)) : base + 64 ≤ sizes l ∧ ((flats ρ l).drop base).take 64 = d.cells ++ e.cells := by
  unfold atE at h
  split at h
  · rename_i a b r hd
    simp only [Option.some.injEq, Prod.mk.injEq] at h
    obtain ⟨rfl, rfl⟩ := h
    obtain ⟨h1, h2⟩ := dropA_flats ρ _ _ _ _ hd
    have h3 : sizes l - base = 64 + sizes r := by
      have := congrArg List.length h2
      simp [flats, At.cells] at this
      omega
    refine ⟨by omega, ?_⟩
    rw [← h2]
    simp only [flats, At.cells]
    rw [← List.append_assoc, List.take_append_of_le_length (by simp), List.take_of_length_le (by simp)]
  · simp at h

theorem dig2_cells (d e : Dg) (m : Nat) (hm : m < 64) : (d.cells ++ e.cells)[m]? = some (.int .u32 (stdA.dig2 d e (m : Int))) := by
  show _ = some (Value.int .u32 (if (m : Int) < 32 then ((d.dig (m : Int).toNat : Nat) : Int) else ((e.dig ((m : Int).toNat - 32) : Nat) : Int)))
  by_cases h : m < 32
  · rw [if_pos (by omega), List.getElem?_append_left (by simpa using h)]
    simp [Dg.cells, h]
  · rw [if_neg (by omega), List.getElem?_append_right (by simp; omega)]
    have : m - 32 < 32 := by omega
    simp [Dg.cells, this]

end ops
end Go.Eng
