/- The engine, part X: new rows, append, copy, texts of bytes. -/
import Derived.Test.YtmajpppjakdodaaEngH
import Derived.Deep.AppendSrc
import Derived.Laws.MakeOwn
import Derived.Laws.BytesString
set_option linter.all false
set_option exponentiation.threshold 3000
namespace Go.Eng

section
variable {P : Program} {K : Cx} {w0 : World} {Wr : Base} {ρ : Rho} {h : Heap} {n : Ids} {m : Nat} {w : World}

theorem RK.cast_eq {k k' : RK} {l : List k.ty} {m : List k'.ty} (h : k.cast k' l = some m) : ∃ e : k = k', e ▸ l = m := by
  cases k <;> cases k' <;> simp only [RK.cast] at h
  case int.int a b =>
    split at h
    · rename_i e
      subst e
      simp only [Option.some.injEq] at h
      exact ⟨rfl, h⟩
    · simp at h
  case row.row a b =>
    split at h
    · rename_i e
      subst e
      simp only [Option.some.injEq] at h
      exact ⟨rfl, h⟩
    · simp at h
  all_goals first
    | (simp only [Option.some.injEq] at h; exact ⟨rfl, h⟩)
    | simp at h

theorem noUn_row : ∀ (l : List AK) (x : rowTy l), noUn (rowAt l x) = true
  | [], _ => rfl
  | k :: r, x => by
    have := noUn_row r x.2
    cases k <;> exact this

theorem RK.at_noUn (k : RK) (x : k.ty) : noUn (k.at x) = true := by
  cases k
  case row l => exact noUn_row l x
  all_goals rfl

theorem RK.flat_one (k : RK) (l : List k.ty) : ∀ u, u ∈ k.flat l → u.oneCell' = true := by
  intro u hu
  simp only [RK.flat, List.mem_flatMap] at hu
  obtain ⟨x, _, hx⟩ := hu
  rw [k.at_flats x _ rho0] at hx
  exact noUn_one (ρ := rho0) (fun _ => rfl) (k.at_noUn x) u hx

theorem RK.flat_append (k : RK) (l m : List k.ty) : k.flat (l ++ m) = k.flat l ++ k.flat m := by simp [RK.flat]

theorem rangeAt_get {b o : Nat} {cs : List Value} (hc : w.rangeAt b o cs) : ∀ j u, cs[j]? = some u → w.cell? ((⟨b, o, none⟩ : Addr).add j) = some u := fun j u hu => by
  rw [Addr.add_mid]; exact hc j u hu

theorem RK.flat_take' (k : RK) : ∀ (l : List k.ty) (i : Nat), k.flat (l.take i) = (k.flat l).take (i * k.esz)
  | [], i => by simp [RK.flat]
  | x :: l, 0 => by simp [RK.flat]
  | x :: l, i + 1 => by
    have hc : ∀ r : List k.ty, k.flat (x :: r) = flats (fun _ => undef) (k.at x) ++ k.flat r := fun r => rfl
    have hl : (flats (fun _ => undef) (k.at x)).length = k.esz := by rw [flats_length, k.at_sizes]
    rw [List.take_succ_cons, hc, hc, RK.flat_take' k l i, List.take_append, hl, List.take_of_length_le (l := flats _ _) (by rw [hl, Nat.add_mul]; omega)]
    have : (i + 1) * k.esz - k.esz = i * k.esz := by rw [Nat.add_mul]; omega
    rw [this]

theorem RK.flat_drop' (k : RK) : ∀ (l : List k.ty) (i : Nat), k.flat (l.drop i) = (k.flat l).drop (i * k.esz)
  | [], i => by simp [RK.flat]
  | x :: l, 0 => by simp [RK.flat]
  | x :: l, i + 1 => by
    have hc : ∀ r : List k.ty, k.flat (x :: r) = flats (fun _ => undef) (k.at x) ++ k.flat r := fun r => rfl
    have hl : (flats (fun _ => undef) (k.at x)).length = k.esz := by rw [flats_length, k.at_sizes]
    rw [List.drop_succ_cons, hc, RK.flat_drop' k l i, List.drop_append, hl, List.drop_eq_nil_of_le (as := flats _ _) (by rw [hl, Nat.add_mul]; omega)]
    have : (i + 1) * k.esz - k.esz = i * k.esz := by rw [Nat.add_mul]; omega
    rw [this]; rfl

/-- where a slice that is read lies: nothing, or cells behind an address -/
theorem rdRow_sound (hA : K.A = stdA) (hs : HS w0 Wr ρ h n w) {k : RK} {x : Sc} {ob : List Bool} {l : List k.ty} (e : rdRow K h k x = some (ob, l)) (ho : ∀ b, b ∈ ob → b = true) :
    (x.den ρ = .slice none 0 0 ∧ l = []) ∨ ∃ b o c, x.den ρ = .slice (some ⟨b, o, none⟩) l.length c ∧ w.rangeAt b o (k.flat l) := by
  unfold rdRow at e
  split at e
  · rename_i id
    split at e
    · rename_i own k' l' hl
      split at e
      · rename_i m' hm
        obtain ⟨rfl, hm⟩ := RK.cast_eq hm
        simp only at hm
        subst hm
        simp only [Option.some.injEq, Prod.mk.injEq] at e
        obtain ⟨_, rfl⟩ := e
        obtain ⟨_, ⟨base, cap, h2, h3, h4⟩, _⟩ := hs.ok _ _ hl
        cases base with
        | none => obtain ⟨rfl, rfl⟩ := h4; exact .inl ⟨h2, rfl⟩
        | some a => obtain ⟨b, o, rfl, h5, h7, _⟩ := h4; exact .inr ⟨b, o, cap, h2, h7⟩
      · simp at e
    · simp at e
  · rename_i id z lo hi
    split at e
    · rename_i own k' l' hl
      split at e
      · rename_i m' hm
        obtain ⟨rfl, hm⟩ := RK.cast_eq hm
        simp only at hm
        subst hm
        split at e
        · rename_i hz
          simp only [beq_iff_eq] at hz
          subst hz
          simp only [Option.some.injEq, Prod.mk.injEq] at e
          obtain ⟨rfl, rfl⟩ := e
          simp only [List.forall_mem_cons, hA, stdA, stdCmp, decide_eq_true_eq] at ho
          obtain ⟨g1, g2, g3, _⟩ := ho
          obtain ⟨_, ⟨base, cap, h2, h3, h4⟩, _⟩ := hs.ok _ _ hl
          have hd : (Sc.hw id k'.esz lo hi).den ρ = .slice (if cap = lo.toNat then base else base.map (·.add (lo.toNat * k'.esz))) (hi.toNat - lo.toNat) (cap - lo.toNat) := by simp only [Sc.den, h2]
          have hlen : (stdA.sub l' lo hi).length = hi.toNat - lo.toNat := by simp only [stdA, List.length_drop, List.length_take]; omega
          rw [hA]
          cases base with
          | none =>
            obtain ⟨rfl, rfl⟩ := h4
            simp only [List.length_nil] at g3
            refine .inl ⟨?_, by simp [stdA]⟩
            rw [hd]
            have e1 : lo.toNat = 0 := by omega
            have e2 : hi.toNat = 0 := by omega
            simp [e1, e2]
          | some a =>
            obtain ⟨b, o, rfl, h5, h7, _⟩ := h4
            by_cases hc : cap = lo.toNat
            · refine .inr ⟨b, o, cap - lo.toNat, by rw [hd, if_pos hc, hlen], ?_⟩
              have : stdA.sub l' lo hi = [] := List.eq_nil_of_length_eq_zero (by rw [hlen]; omega)
              rw [this]
              intro q v hv; simp [RK.flat] at hv
            · refine .inr ⟨b, o + lo.toNat * k'.esz, cap - lo.toNat, by rw [hd, if_neg hc, hlen]; simp [Addr.add_mid], ?_⟩
              have : k'.flat (stdA.sub l' lo hi) = ((k'.flat l').take (hi.toNat * k'.esz)).drop (lo.toNat * k'.esz) := by
                simp only [stdA]; rw [RK.flat_drop', RK.flat_take']
              rw [this]
              intro q v hv
              have := h7 (lo.toNat * k'.esz + q) v (by
                rw [List.getElem?_drop, List.getElem?_take] at hv
                split at hv
                · exact hv
                · simp at hv)
              rw [← Nat.add_assoc] at this
              exact this
        · simp at e
      · simp at e
    · simp at e
  · simp only [Option.some.injEq, Prod.mk.injEq] at e
    obtain ⟨_, rfl⟩ := e
    exact .inl ⟨rfl, rfl⟩
  · simp at e

theorem rdRow_src (hA : K.A = stdA) (hs : HS w0 Wr ρ h n w) {k : RK} {x : Sc} {ob : List Bool} {l : List k.ty} (e : rdRow K h k x = some (ob, l)) (ho : ∀ b, b ∈ ob → b = true) {tx e' : Nat} (hk : P.underlying tx = some (.slice e')) :
    Src P k.esz tx (x.den ρ) l.length (k.flat l) w := by
  rcases rdRow_sound hA hs e ho with ⟨h1, rfl⟩ | ⟨b, o, c, h1, h2⟩
  · rw [h1]; exact Src.ofNil w hk 0
  · rw [h1]
    exact Src.ofSlice w hk _ _ _ _ (by rw [RK.flat_length, Nat.mul_comm]) (rangeAt_get h2) (RK.flat_one k l)

/-- an own block leaves what is known, its cells may have been written -/
theorem HS.goneW (hs : HS w0 Wr ρ h n w) {w' : World} {id b : Nat} {k : Blk} (hl : look h id = some k) (hown : k.own = true) (hbo : blkOf (ρ id) = some b)
    (hblk : ∀ x, x ≠ b → x < w.heap.size → w'.heap[x]? = w.heap[x]?) (hsz : w.heap.size ≤ w'.heap.size) (hos : w'.os = w.os) (htape : w'.tape = w.tape) (hout : w'.output = w.output) : HS w0 Wr ρ (setH h id .gone) n w' where
  one := hs.one
  ok i c hi := by
    rw [look_setH] at hi
    split at hi
    · rename_i he
      subst he
      rw [hl] at hi
      simp only [Option.map_some, Option.some.injEq] at hi
      subst hi
      refine ⟨(hs.ok i k hl).1, fun x hx => ?_, trivial⟩
      have := Blk.block (hs.ok i k hl).2.1 hx
      omega
    · rename_i hne
      obtain ⟨h1, h2, h3⟩ := hs.ok i c hi
      by_cases hlv : c.live = true
      · refine ⟨h1, Blk.ok_of_block hsz (fun x hx => hblk x (fun e => ?_) (Blk.block h2 hx)) h2, h3⟩
        subst e
        exact hs.sep id k i c hl hi (fun e => hne e.symm) hown hlv x hbo hx
      · cases c with
        | gone => exact ⟨h1, fun x hx => by have : x < w.heap.size := h2 x hx; omega, h3⟩
        | fix => exact absurd rfl hlv
        | vec => exact absurd rfl hlv
  sep i c j d hi hj hij ho hlv x hx := by
    rw [look_setH] at hi hj
    split at hi
    · rename_i he; subst he; rw [hl] at hi; simp only [Option.map_some, Option.some.injEq] at hi; subst hi; cases ho
    · split at hj
      · rename_i he; subst he; rw [hl] at hj; simp only [Option.map_some, Option.some.injEq] at hj; subst hj; cases hlv
      · exact hs.sep i c j d hi hj hij ho hlv x hx
  wr i c x hi ho hx := by
    rw [look_setH] at hi
    split at hi
    · rename_i he; subst he; rw [hl] at hi; simp only [Option.map_some, Option.some.injEq] at hi; subst hi; cases ho
    · exact hs.wr i c x hi ho hx
  org i c x hi ho hx := by
    rw [look_setH] at hi
    split at hi
    · rename_i he; subst he; rw [hl] at hi; simp only [Option.map_some, Option.some.injEq] at hi; subst hi; cases ho
    · exact hs.org i c x hi ho hx
  frame x hx hn := by
    have hne : x ≠ b := fun e => by
      subst e
      rcases hs.wr id k x hl hown hbo with h1 | h1
      · omega
      · exact hn h1
    rw [hblk x hne (Nat.lt_of_lt_of_le hx hs.size)]
    exact hs.frame x hx hn
  os := hos.trans hs.os
  tape := htape.trans hs.tape
  output := hout.trans hs.output
  size := Nat.le_trans hs.size hsz
  ag := hs.ag
  inn := hs.inn

/-- the same where the block is nowhere -/
theorem HS.goneN (hs : HS w0 Wr ρ h n w) {w' : World} {id : Nat} {k : Blk} (hl : look h id = some k) (hbo : blkOf (ρ id) = none) (hb : RowKit.Below w.heap.size w w') : HS w0 Wr ρ (setH h id .gone) n w' where
  one := hs.one
  ok i c hi := by
    rw [look_setH] at hi
    split at hi
    · rename_i he
      subst he
      rw [hl] at hi
      simp only [Option.map_some, Option.some.injEq] at hi
      subst hi
      exact ⟨(hs.ok i k hl).1, (fun x hx => by rw [hbo] at hx; cases hx), trivial⟩
    · exact (hs.below hb).ok i c hi
  sep i c j d hi hj hij ho hlv x hx := by
    rw [look_setH] at hi hj
    split at hi
    · rename_i he; subst he; rw [hl] at hi; simp only [Option.map_some, Option.some.injEq] at hi; subst hi; cases ho
    · split at hj
      · rename_i he; subst he; rw [hl] at hj; simp only [Option.map_some, Option.some.injEq] at hj; subst hj; cases hlv
      · exact hs.sep i c j d hi hj hij ho hlv x hx
  wr i c x hi ho hx := by
    rw [look_setH] at hi
    split at hi
    · rename_i he; subst he; rw [hl] at hi; simp only [Option.map_some, Option.some.injEq] at hi; subst hi; cases ho
    · exact hs.wr i c x hi ho hx
  org i c x hi ho hx := by
    rw [look_setH] at hi
    split at hi
    · rename_i he; subst he; rw [hl] at hi; simp only [Option.map_some, Option.some.injEq] at hi; subst hi; cases ho
    · exact hs.org i c x hi ho hx
  frame := (hs.below hb).frame
  os := (hs.below hb).os
  tape := (hs.below hb).tape
  output := (hs.below hb).output
  size := (hs.below hb).size
  ag := hs.ag
  inn := hs.inn

theorem zeroCells_size (z : Array Value) (c : Nat) : (Builtin.zeroCells z c).size = c * z.size := by simp [Builtin.zeroCells]

theorem cells_alloc {c : Array Value} {t j : Nat} {w : World} : (w.alloc (.cells c t)).cell? ⟨w.heap.size, j, none⟩ = c[j]? := by
  rw [World.cell?_alloc_new]

/-- a fresh row with spare places -/
theorem vec_fresh {k : RK} {es : List k.ty} {cs : Array Value} {t c : Nat} {w : World} {ρ' : Rho} (h1 : cs.size = k.esz * c) (h2 : es.length ≤ c) (h3 : cs.toList.take (k.flat es).length = k.flat es) :
    (Blk.vec true k es).ok (w.alloc (.cells cs t)) (.slice (some ⟨w.heap.size, 0, none⟩) es.length c) ρ' := by
  refine ⟨some ⟨w.heap.size, 0, none⟩, c, rfl, h2, w.heap.size, 0, rfl, by simp, ?_, fun _ j hj => ?_⟩
  · intro j v hv
    simp only [Nat.zero_add]
    rw [World.cell?_alloc_new]
    rw [← h3, List.getElem?_take] at hv
    split at hv
    · simpa using hv
    · simp at hv
  · simp only [Nat.zero_add]
    rw [World.cell?_alloc_new]
    constructor
    · have : j < cs.size := by rw [h1]; exact hj
      simp [this]
    · simp [World.frozen?, -World.alloc_eq, World.alloc]

theorem below_drew : RowKit.Below w.heap.size w w.drew := ⟨rfl, rfl, rfl, Nat.le_refl _, fun _ _ => rfl⟩
theorem below_drew_alloc (o : Obj) : RowKit.Below w.heap.size w (w.drew.alloc o) := (below_drew.alloc (Nat.le_refl _) o)

/-- a new row, fresh, beside what is known at that world -/
theorem fresh_Did (hs : HS w0 Wr ρ h n w) (hm : ∀ i, n i → i < m) {w' : World} {h' : Heap} {wr : Heap} (hall : allH h wr = h') (hs' : HS w0 Wr ρ h' n w') {k : RK} {es : List k.ty} {v : Value} {ob : List Bool} (hv : v.oneCell' = true)
    (hk : (Blk.vec true k es).ok w' v (upd ρ m v)) (hb : But (wblk ρ wr) w w')
    (hnew : ∀ x, blkOf v = some x → (w.heap.size ≤ x ∨ wblk ρ wr x) ∧ (∀ j c, look h' j = some c → c.live = true → blkOf (ρ j) ≠ some x) ∧ (w0.heap.size ≤ x ∨ Wr.wr x)) :
    Did w0 Wr ρ h n m w ⟨ob, .c (.s (.hs m)), [.vec true k es], wr⟩ v w' := by
  refine ⟨upd ρ m v, agree_upd _ hm _, (upd_same ρ m v).symm, fun ρ' ha => ha m (.inr ⟨Nat.le_refl _, by simp⟩), ?_, hb, fun i x h1 h2 hx => ?_⟩
  · show HS w0 Wr _ ((m, .vec true k es) :: allH h wr) _ w'
    rw [hall]
    exact hs'.newG hm hv hk trivial fun x hx => (hnew x hx).2
  · simp only [List.length_cons, List.length_nil] at h2
    have : i = m := by omega
    subst this
    rw [upd_same] at hx
    rcases (hnew x hx).1 with h | h
    · exact .inl h
    · exact .inr (.inl h)

theorem grow_fit {len c need by' : Nat} (h1 : c < need) (h2 : need ≤ 1000000) (h3 : by' ≤ 65536) : Builtin.nextslicecap need c * by' ≤ 281474976710656 := by
  have hg : ∀ (r a : Nat), a ≤ need → Builtin.growBy need r a ≤ 2 * need + 200 := by
    intro r
    induction r with
    | zero => intro a ha; simp only [Builtin.growBy]; omega
    | succ r ih =>
      intro a ha
      simp only [Builtin.growBy]
      split
      · omega
      · by_cases hle : a + (a + 768) / 4 ≤ need
        · exact ih _ hle
        · cases r with
          | zero => simp only [Builtin.growBy]; omega
          | succ r =>
            simp only [Builtin.growBy]
            rw [if_pos (by omega)]
            omega
  have hn : Builtin.nextslicecap need c ≤ 2 * need + 512 := by
    unfold Builtin.nextslicecap
    split
    · omega
    · split
      · omega
      · have := hg 4 c (by omega); omega
  calc Builtin.nextslicecap need c * by' ≤ (2 * need + 512) * 65536 := Nat.mul_le_mul hn h3
    _ ≤ 281474976710656 := by omega

theorem elem_info {t : Nat} {i : TI} {el esz : Nat} {k : RK} (ty : TyOK P t i) (hel : i.elem = some (el, esz, k)) : P.underlying t = some (.slice el) ∧ ∃ ie z, P.info? el = some ie ∧ ie.zero = some z ∧ ie.size = k.esz ∧ esz = k.esz ∧ z.cells.toList = flats rho0 (k.at (k.dflt stdA)) ∧ ie.bytes ≤ 65536 := by
  obtain ⟨hu, hsz, hz, hzero, hby, hk, hk2⟩ := ty.elem _ _ _ hel
  cases hie : P.info? el with
  | none => simp [hie] at hsz
  | some ie =>
    simp only [hie, Option.map_some, Option.some.injEq, Option.bind_some, decide_eq_true_eq] at hsz hzero hby
    cases hzz : ie.zero with
    | none => simp [hzz] at hzero
    | some z =>
      simp only [hzz, Option.map_some, Option.some.injEq] at hzero
      exact ⟨hu, ie, z, rfl, hzz, by omega, hz, hzero, hby⟩

theorem app_Did (hA : K.A = stdA) (hT : TOK P K.T) (hs : HS w0 Wr ρ h n w) (hm : ∀ i, n i → i < m) {ts : List Nat} {s x : Sc} {r : FR} (e : evApp K h m ts s x = some r) (hob : ∀ b, b ∈ r.ob → b = true) (ty : Nat) :
    ∃ v w', (Builtin.append_ ts.toArray ty #[s.den ρ, x.den ρ]).run P w = .ok v w' ∧ Did w0 Wr ρ h n m w r v w' := by
  unfold evApp at e
  split at e
  · rename_i t u
    split at e
    · rename_i i j ht hu
      split at e
      · rename_i el esz k el' esz' k' hel hel'
        split at e
        · rename_i hee
          simp only [beq_iff_eq] at hee
          subst hee
          obtain ⟨ut, ie, z, hie, hz, hsz, _, hzc, hby⟩ := elem_info (hT _ _ ht) hel
          obtain ⟨uu, _⟩ := elem_info (hT _ _ hu) hel'
          have hzs : z.cells.size = k.esz := by rw [← Array.length_toList, hzc, flats_length, k.at_sizes]
          split at e
          · rename_i ob ms hrd
            -- what grows from nothing
            have grow : ∀ (base : Option Addr) (len c : Nat) (es : List k.ty) (wr : Heap) (ob' : List Bool), es.length = len → len ≤ c → (base = none → es = []) → (∀ a, base = some a → ∃ b o, a = ⟨b, o, none⟩ ∧ w.rangeAt b o (k.flat es)) →
                c < len + ms.length → len + ms.length ≤ 1000000 → (∀ b, b ∈ ob → b = true) → (∀ w', RowKit.Below w.heap.size w w' → HS w0 Wr ρ (allH h wr) n w') →
                ∃ v w', (Builtin.append_ #[t, u] ty #[.slice base len c, x.den ρ]).run P w = .ok v w' ∧ Did w0 Wr ρ h n m w ⟨ob', .c (.s (.hs m)), [.vec true k (es ++ ms)], wr⟩ v w' := by
              intro base len c es wr ob' hel hlc hnone hsome hlt hmax hob' hall
              have hsrc := rdRow_src (P := P) hA hs hrd hob' uu
              rw [← hsz] at hsrc
              have hfl : (k.flat es).length = len * ie.size := by rw [RK.flat_length, hel, hsz, Nat.mul_comm]
              have hold : (Builtin.firstCells ie.size len (.slice base len c)).run P w.drew = .ok (k.flat es).toArray w.drew := by
                cases base with
                | none =>
                  have := hnone rfl
                  subst this
                  simp only [List.length_nil] at hel
                  subst hel
                  simpa [RK.flat] using run_firstCells_none w.drew ie.size 0 0 c
                | some a =>
                  obtain ⟨b, o, rfl, hr⟩ := hsome a rfl
                  exact run_firstCells_some w.drew ie.size len _ len c _ hfl (fun j u hu => by simpa using rangeAt_get hr j u hu)
              have hrun := run_append_grow_src w t u ty el ie z ut hie hz base len c (k.flat es) hold (x.den ρ) ms.length (k.flat ms) hsrc hlt (by omega) (grow_fit (len := len) hlt hmax hby)
              have hge := grownCap_ge w (len + ms.length) c el
              refine ⟨_, _, hrun, ?_⟩
              have hb := below_drew_alloc (w := w) (.cells ((k.flat es ++ k.flat ms).toArray ++ Builtin.zeroCells z.cells (grownCap w (len + ms.length) c el - (len + ms.length))) el)
              refine fresh_Did hs hm rfl (hall _ hb) rfl ?_ (But.of hb) (fun y hy => ?_)
              · have : (es ++ ms).length = len + ms.length := by rw [List.length_append, hel]
                rw [← this]
                refine vec_fresh (w := w.drew) ?_ (by rw [this]; exact hge) ?_
                · have h1 : (k.flat es ++ k.flat ms).length = (len + ms.length) * k.esz := by
                    rw [List.length_append, hfl, RK.flat_length, hsz, Nat.add_mul, Nat.mul_comm k.esz]
                  rw [this, Array.size_append, zeroCells_size, hzs, List.size_toArray, h1, ← Nat.add_mul, Nat.mul_comm]
                  congr 1; omega
                · rw [RK.flat_append, Array.toList_append, List.take_append_of_le_length (by simp), List.take_of_length_le (by simp)]
              · simp only [blkOf, Option.some.injEq] at hy
                subst hy
                refine ⟨.inl (Nat.le_refl _), fun j c hj _ hxj => ?_, .inl hs.size⟩
                have := Blk.block ((hall w (RowKit.Below.refl _ _)).ok j c hj).2.1 hxj
                exact Nat.lt_irrefl _ this
            split at e
            · -- onto nothing
              simp only [Option.some.injEq] at e
              subst e
              rw [hA] at hob
              simp only [List.forall_mem_cons, stdA, stdCmp, decide_eq_true_eq] at hob
              obtain ⟨g1, g2⟩ := hob
              cases ms with
              | nil =>
                have hsrc := rdRow_src (P := P) hA hs hrd g2 uu
                rw [← hsz] at hsrc
                refine ⟨.slice none 0 0, w, ?_, ?_⟩
                · have := run_append_nothing w t u ty el ie ut hie none 0 0 (Nat.le_refl _) (x.den ρ) (by simpa [RK.flat] using hsrc)
                  exact this
                · refine fresh_Did hs hm (wr := []) rfl hs rfl ⟨none, 0, rfl, Nat.le_refl _, rfl, rfl⟩ (But.of (RowKit.Below.refl _ _)) (fun y hy => by cases hy)
              | cons a r =>
                have := grow none 0 0 [] [] (stdA.cmp .leq (stdA.len (a :: r)) 1000000 :: ob) rfl (Nat.le_refl _) (fun _ => rfl) (fun _ h => by cases h) (by simp) (by have g1' : (((a :: r).length : Nat) : Int) ≤ 1000000 := g1; omega) g2 (fun w' hb => hs.below hb)
                rw [hA]
                exact this
            · -- onto a row of one's own
              rename_i id
              split at e
              · simp at e
              · split at e
                · rename_i k2 l hl
                  split at e
                  · rename_i q hq
                    obtain ⟨rfl, hq⟩ := RK.cast_eq hq
                    simp only at hq
                    subst hq
                    simp only [Option.some.injEq] at e
                    subst e
                    rw [hA] at hob
                    simp only [List.forall_mem_cons, stdA, stdCmp, decide_eq_true_eq] at hob
                    obtain ⟨g1, g2⟩ := hob
                    obtain ⟨hid, ⟨base, cap, h2, h3, h4⟩, _⟩ := hs.ok _ _ hl
                    have hsrc := rdRow_src (P := P) hA hs hrd g2 uu
                    rw [← hsz] at hsrc
                    show ∃ v w', (Builtin.append_ #[t, u] ty #[ρ id, x.den ρ]).run P w = .ok v w' ∧ _
                    rw [h2, hA]
                    have hgone : ∀ w', RowKit.Below w.heap.size w w' → HS w0 Wr ρ (allH h [(id, .gone)]) n w' := fun w' hb => by
                      show HS w0 Wr ρ (setH h id .gone) n w'
                      cases base with
                      | none => exact hs.goneN hl (by rw [h2]; rfl) hb
                      | some a =>
                        obtain ⟨b, o, rfl, h5, _⟩ := h4
                        exact hs.goneW (b := b) hl rfl (by rw [h2]; rfl) (fun x _ hx => hb.block x hx) hb.size hb.os hb.tape hb.output
                    by_cases hfit : l.length + ms.length ≤ cap
                    · -- there is room
                      cases base with
                      | none =>
                        obtain ⟨rfl, rfl⟩ := h4
                        have hms : ms = [] := List.eq_nil_of_length_eq_zero (by simp only [List.length_nil] at hfit; omega)
                        subst hms
                        refine ⟨.slice none 0 0, w, ?_, ?_⟩
                        · exact run_append_nothing w t u ty el ie ut hie none 0 0 (Nat.le_refl _) (x.den ρ) (by simpa [RK.flat] using hsrc)
                        · refine fresh_Did hs hm (wr := [(id, .gone)]) rfl (hgone w (RowKit.Below.refl _ _)) rfl ⟨none, 0, rfl, Nat.le_refl _, rfl, rfl⟩ (But.of (RowKit.Below.refl _ _)) (fun y hy => by cases hy)
                      | some a =>
                        obtain ⟨b, o, rfl, h5, h6, h7⟩ := h4
                        have hth := h7 rfl
                        have hin : ∀ j, j < (k2.flat ms).length → l.length * ie.size + j < k2.esz * cap := fun j hj => by
                          rw [RK.flat_length] at hj
                          have h8 := Nat.mul_le_mul_left k2.esz hfit
                          rw [Nat.mul_add] at h8
                          rw [hsz, Nat.mul_comm]
                          omega
                        have hrun := run_append_room_src w t u ty el ie ut hie b o l.length cap (x.den ρ) ms.length (k2.flat ms) hsrc hfit
                          (fun j hj => by have := (hth _ (hin j hj)).1; rwa [← Nat.add_assoc] at this) (fun j hj => by have := (hth _ (hin j hj)).2; rwa [← Nat.add_assoc] at this)
                        refine ⟨_, _, hrun, ?_⟩
                        obtain ⟨e1, e2, e3, e4⟩ := setCells_same b (k2.flat ms) (o + l.length * ie.size) w
                        have hfar : ∀ x, x ≠ b → (w.setCells b (o + l.length * ie.size) (k2.flat ms)).heap[x]? = w.heap[x]? := fun x hx => setCells_far _ _ x hx
                        refine fresh_Did hs hm (wr := [(id, .gone)]) rfl (hs.goneW (b := b) hl rfl (by rw [h2]; rfl) (fun x hx _ => hfar x hx) (Nat.le_of_eq e4.symm) e1 e2 e3) rfl ?_ ⟨e1, e2, e3, Nat.le_of_eq e4.symm, fun x _ hn => hfar x fun e => hn ⟨id, .gone, List.mem_cons_self .., by rw [h2, e]; rfl⟩⟩ (fun y hy => ?_)
                        · refine ⟨some ⟨b, o, none⟩, cap, by rw [show stdA.app l ms = l ++ ms from rfl, List.length_append], by rw [show stdA.app l ms = l ++ ms from rfl, List.length_append]; exact hfit, b, o, rfl, by rw [e4]; exact h5, ?_, fun _ => World.there_setCells hth b _ _⟩
                          rw [show stdA.app l ms = l ++ ms from rfl, RK.flat_append]
                          have hll : (k2.flat l).length = l.length * ie.size := by rw [RK.flat_length, hsz, Nat.mul_comm]
                          intro j v hv
                          by_cases hj : j < (k2.flat l).length
                          · rw [List.getElem?_append_left hj] at hv
                            rw [World.cell?_setCells_out b _ _ w ⟨b, o + j, none⟩ (fun _ _ => .inl (by simp; omega))]
                            exact h6 j v hv
                          · rw [List.getElem?_append_right (by omega)] at hv
                            have hlt : j - (k2.flat l).length < (k2.flat ms).length := by
                              rcases Nat.lt_or_ge (j - (k2.flat l).length) (k2.flat ms).length with h | h
                              · exact h
                              · rw [List.getElem?_eq_none h] at hv; simp at hv
                            have := World.cell?_setCells_in b (k2.flat ms) (o + l.length * ie.size) w (fun j hj => by have := (hth _ (hin j hj)).1; rwa [← Nat.add_assoc] at this) (j - (k2.flat l).length) hlt
                            rw [show o + j = o + l.length * ie.size + (j - (k2.flat l).length) from by omega, this, ← hv]
                            simp [hlt]
                        · simp only [blkOf, Option.some.injEq] at hy
                          subst hy
                          refine ⟨.inr ⟨id, .gone, List.mem_cons_self .., by rw [h2]; rfl⟩, fun j c hj hlv hxj => ?_, ?_⟩
                          · have hj : look (setH h id .gone) j = some c := hj
                            rw [look_setH] at hj
                            split at hj
                            · rename_i he; subst he; rw [hl] at hj; simp only [Option.map_some, Option.some.injEq] at hj; subst hj; cases hlv
                            · rename_i hne
                              exact hs.sep id _ j c hl hj (fun e => hne e.symm) rfl hlv b (by rw [h2]; rfl) hxj
                          · exact hs.wr id _ b hl rfl (by rw [h2]; rfl)
                    · refine grow base l.length cap l [(id, .gone)] _ rfl h3 (fun hb => by subst hb; exact h4.1) (fun a ha => ?_) (by omega) (by have := g1; omega) g2 hgone
                      subst ha
                      obtain ⟨b, o, rfl, h5, h6, h7⟩ := h4
                      exact ⟨b, o, rfl, h6⟩
                  · simp at e
                · simp at e
            · simp at e
          · simp at e
        · simp at e
      · simp at e
    · simp at e
  · simp at e


/-! new rows -/
theorem made_rep (z : Array Value) (k : RK) (d : k.ty) (hz : z.toList = flats rho0 (k.at d)) (hk : 0 < k.esz) : ∀ c : Nat, (madeCells z (c * k.esz)).toList = k.flat (List.replicate c d)
  | 0 => by simp [madeCells, RK.flat]
  | c + 1 => by
    have ih := made_rep z k d hz hk c
    have hzs : z.size = k.esz := by rw [← Array.length_toList, hz, flats_length, k.at_sizes]
    have h1 : List.replicate (c + 1) d = List.replicate c d ++ [d] := by rw [List.replicate_succ']
    rw [h1, RK.flat_append, ← ih]
    simp only [madeCells, Array.toList_map, Array.toList_range]
    rw [Nat.add_mul, Nat.one_mul, List.range_add, List.map_append, List.map_map]
    congr 1
    have h2 : k.flat [d] = z.toList := by rw [hz]; simp only [RK.flat, List.flatMap_cons, List.flatMap_nil, List.append_nil]; exact k.at_flats d _ _
    rw [h2]
    apply List.ext_getElem
    · simp [hzs]
    · intro i h3 h4
      have h5 : i < z.size := by simpa using h4
      have h6 : (c * k.esz + i) % z.size = i := by
        rw [hzs, Nat.mul_comm, Nat.mul_add_mod, Nat.mod_eq_of_lt (by omega)]
      simp only [List.getElem_map, Function.comp, List.getElem_range, h6, Array.getElem_toList]
      rw [getElem!_pos z i h5]

theorem make_Did (hA : K.A = stdA) (hT : TOK P K.T) (hs : HS w0 Wr ρ h n w) (hm : ∀ i, n i → i < m) {t : Nat} {l c : Sc} {r : FR} (e : evMake K m t l c = some r) (hob : ∀ b, b ∈ r.ob → b = true) :
    ∃ v w', (Instr.makeSlice t (l.den ρ) (c.den ρ)).run P w = .ok v w' ∧ Did w0 Wr ρ h n m w r v w' := by
  unfold evMake at e
  split at e
  · rename_i i ht
    split at e
    · rename_i el esz k b1 x b2 y hel hl hc
      simp only [Option.some.injEq] at e
      subst e
      obtain ⟨ut, ie, z, hie, hz, hsz, _, hzc, hby⟩ := elem_info (hT _ _ ht) hel
      obtain ⟨_, _, _, _, _, hk, _⟩ := (hT _ _ ht).elem _ _ _ hel
      rw [hA] at hob ⊢
      simp only [List.forall_mem_cons, stdA, stdCmp, decide_eq_true_eq, beq_iff_eq] at hob
      obtain ⟨g1, g2, g3, -⟩ := hob
      subst g2
      rw [num_den hl, num_den hc]
      have hbb : (ie.bytes : Int) * x ≤ 281474976710656 := by
        have h1 : (ie.bytes : Int) ≤ 65536 := by omega
        have h2 : (ie.bytes : Int) * x ≤ 65536 * x := Int.mul_le_mul_of_nonneg_right h1 g1
        omega
      have hrun := run_make (P := P) w t el ie z ut hie hz .i64 .i64 x x g1 (Int.le_refl _) hbb (by omega)
      refine ⟨_, _, hrun, ?_⟩
      obtain ⟨q, rfl⟩ := Int.eq_ofNat_of_zero_le g1
      simp only [Int.toNat_natCast]
      refine fresh_Did hs hm (wr := []) rfl (hs.below (below_alloc _)) rfl ?_ (But.of (below_alloc _)) (fun y hy => ?_)
      · have hlen : (List.replicate q (k.dflt stdA)).length = q := List.length_replicate
        have hrep : stdA.rep (q : Int) (k.dflt stdA) = List.replicate q (k.dflt stdA) := rfl
        rw [hrep]
        have := vec_fresh (w := w) (k := k) (es := List.replicate q (k.dflt stdA)) (cs := madeCells z.cells (q * ie.size)) (t := el) (c := q) (ρ' := upd ρ m (.slice (some ⟨w.heap.size, 0, none⟩) q q)) (by rw [size_madeCells, hsz, Nat.mul_comm]) (by rw [hlen]; exact Nat.le_refl _) (by
          rw [hsz, made_rep z.cells k _ hzc hk q, List.take_length])
        rw [hlen] at this
        exact this
      · simp only [blkOf, Option.some.injEq] at hy
        subst hy
        refine ⟨.inl (Nat.le_refl _), fun j c hj _ hxj => ?_, .inl hs.size⟩
        have := Blk.block (hs.ok j c hj).2.1 hxj
        exact Nat.lt_irrefl _ this
    · simp at e
  · simp at e

/-! an array where a part of one begins -/
theorem s2a_PS (hA : K.A = stdA) (hT : TOK P K.T) (hs : HS w0 Wr ρ h n w) {t : Nat} {x : Sc} {r : FR} (e : evS2A K h t x = some r) :
    PS P w ρ n r (Instr.arrayAt t (x.den ρ)) := by
  unfold evS2A at e
  split at e
  · rename_i i ht
    split at e
    · rename_i q e1 z id off esz lo hi c harr
      split at e
      · rename_i own l hl
        split at e
        · rename_i hc
          simp only [Bool.and_eq_true, beq_iff_eq, decide_eq_true_eq] at hc
          obtain ⟨rfl, hc⟩ := hc
          obtain ⟨hu, hz⟩ := (hT _ _ ht).arr _ _ _ harr
          obtain ⟨b, o, h1, h2, h3, h4, h5, h6⟩ := hs.fix hl
          rw [hA] at e
          refine PS.pureO e (fun ho => ?_) fun _ => hp_stb h5
          simp only [List.forall_mem_cons, stdA, stdCmp, decide_eq_true_eq] at ho
          obtain ⟨g0, g1, -⟩ := ho
          rw [ha_den h1]
          have hn : ¬ (hi.toNat - (0 : Int).toNat < q) := by omega
          have hcn : c ≠ (0 : Int).toNat := by simp; omega
          rw [if_neg hcn]
          unfold Instr.arrayAt
          simp only [Sem.run_bind, run_underlying hu w, Result.andThen_ok]
          rw [if_neg hn]
          show _ = Result.ok ((Sc.hp id off).den ρ) w
          rw [hp_den h1]
          simp
        · simp at e
      · simp at e
    · simp at e
  · simp at e

/-! texts of bytes -/
theorem bytes_PS (hA : K.A = stdA) (hT : TOK P K.T) (hs : HS w0 Wr ρ h n w) {src dst : Nat} {x : Sc} {r : FR} (e : evBytes K h src dst x = some r) :
    PS P w ρ n r (convert src dst (x.den ρ)) := by
  unfold evBytes at e
  split at e
  · rename_i i j hi hj
    split at e
    · rename_i el esz hel hsc
      split at e
      · rename_i ob ms hrd
        obtain ⟨us, ie, z, hie, hz, hsz, _, hzc, hby⟩ := elem_info (hT _ _ hi) hel
        have ud := (hT _ _ hj).str hsc
        refine PS.pureO e (fun ho => ?_) fun _ _ _ => rfl
        have ue := (hT _ _ hi).ints _ _ _ hel
        have hconv : ∀ a q c, (convert src dst (.slice a q c)).run P w = (Conv.bytesToString (.slice a q c)).run P w := fun a q c => by
          simp [convert, run_underlying us, run_underlying ud, run_underlying ue]
        rcases rdRow_sound hA hs hrd ho with ⟨h1, rfl⟩ | ⟨b, o, c, h1, h2⟩
        · rw [h1, hconv, hA]; rfl
        · rw [h1, hconv, hA]
          have hfl : RK.flat (.int .u8) ms = ms.map (Value.int .u8) := by
            clear hrd h1 h2 e
            induction ms with
            | nil => rfl
            | cons a r ih => simp only [RK.flat, List.flatMap_cons, List.map_cons] at ih ⊢; rw [ih]; rfl
          rw [hfl] at h2
          refine run_bytesToString w _ _ _ ms ?_
          have := run_loadCells_list (P := P) w ⟨b, o, none⟩ (ms.map (Value.int .u8)) (rangeAt_get h2)
          rw [List.length_map] at this
          exact this
      · simp at e
    · simp at e
  · simp at e

/-! copy -/
theorem copyFrom_cells : ∀ (ms : List Int) (d : Dg) (i hi : Nat), hi ≤ 32 → i ≤ hi → (∀ v, v ∈ ms → 0 ≤ v ∧ v < 4294967296) →
    (copyFrom d i hi ms).cells = d.cells.take i ++ ((ms.take (hi - i)).map (Value.int .u32) ++ d.cells.drop (i + (ms.take (hi - i)).length))
  | [], d, i, hi, _, _, _ => by simp [copyFrom]
  | v :: r, d, i, hi, h1, h2, h3 => by
    simp only [copyFrom]
    split
    · rename_i hlt
      obtain ⟨g1, g2⟩ := h3 v (List.mem_cons_self ..)
      obtain ⟨y, rfl⟩ := Int.eq_ofNat_of_zero_le g1
      rw [copyFrom_cells r (d.set i (y : Int).toNat) (i + 1) hi h1 hlt fun u hu => h3 u (List.mem_cons_of_mem _ hu)]
      have hi32 : i < 32 := by omega
      rw [Int.toNat_natCast, Dg.set_cells d i y hi32 (by omega)]
      have e1 : hi - i = hi - (i + 1) + 1 := by omega
      have hlen : i < d.cells.length := by simpa using hi32
      rw [e1, List.take_succ_cons, List.map_cons, List.length_cons]
      have e2 : (d.cells.set i (.int .u32 (y : Nat))).take (i + 1) = d.cells.take i ++ [.int .u32 (y : Nat)] := by
        rw [List.take_set, ← List.take_append_getElem hlen, List.set_append_right _ _ (by simp; omega)]
        have : i - (d.cells.take i).length = 0 := by simp; omega
        rw [this]; rfl
      rw [e2, List.drop_set_of_lt (by omega)]
      simp only [List.append_assoc, List.cons_append, List.nil_append]
      congr 4
      omega
    · rename_i hge
      have : hi - i = 0 := by omega
      rw [this]; simp

theorem flat_u32 (ms : List Int) : RK.flat (.int .u32) ms = ms.map (Value.int .u32) := by
  induction ms with
  | nil => rfl
  | cons a r ih => simp only [RK.flat, List.flatMap_cons, List.map_cons] at ih ⊢; rw [ih]; rfl

theorem copy_Did (hA : K.A = stdA) (hT : TOK P K.T) (hs : HS w0 Wr ρ h n w) {ts : List Nat} {x y : Sc} {r : FR} (e : evCopy K h ts x y = some r) (hob : ∀ b, b ∈ r.ob → b = true) (ty : Nat) :
    ∃ v w', (Builtin.copy_ ts.toArray ty #[x.den ρ, y.den ρ]).run P w = .ok v w' ∧ Did w0 Wr ρ h n m w r v w' := by
  unfold evCopy at e
  split at e
  · rename_i t u
    split at e
    · rename_i i ht
      split at e
      · rename_i el id off lo hi hel
        split at e
        · rename_i l hl
          split at e
          · rename_i d ob ms _ hd hrd
            split at e
            · rename_i q hq
              simp only [Option.some.injEq] at e
              subst e
              rw [hA] at hob hq ⊢
              simp only [List.cons_append, List.nil_append, List.forall_mem_cons] at hob
              obtain ⟨g0, g1, g2, g3, g4⟩ := hob
              simp only [stdA, stdCmp, decide_eq_true_eq] at g0 g1 g2
              have hall : ∀ v, v ∈ ms → 0 ≤ v ∧ v < 4294967296 := fun v hv => by
                have := List.all_eq_true.1 g3 v hv
                simpa using this
              obtain ⟨hu, hsz, _, _⟩ := (hT _ _ ht).elem _ _ _ hel
              obtain ⟨b, o, h1, h2, h3, h4, h5, h6⟩ := hs.fix hl
              obtain ⟨h9, h10⟩ := atD_flats (ρ := ρ) hd
              have hth := h4 rfl
              obtain ⟨h7, h8⟩ := updA_flats ρ hq
              have hL : lo.toNat ≤ 32 := by omega
              have hlen : Nat.min ms.length (hi.toNat - lo.toNat) = (ms.take (hi.toNat - lo.toNat)).length := by rw [List.length_take]; exact Nat.min_comm _ _
              have hval : stdA.mn (stdA.len ms) (stdA.isub hi lo) = (((ms.take (hi.toNat - lo.toNat)).length : Nat) : Int) := by
                rw [← hlen]
                show (if hi - lo < (ms.length : Int) then hi - lo else (ms.length : Int)) = _
                have : Nat.min ms.length (hi.toNat - lo.toNat) = if hi.toNat - lo.toNat < ms.length then hi.toNat - lo.toNat else ms.length := by
                  show min _ _ = _
                  rw [Nat.min_def]; split <;> split <;> omega
                rw [this]
                split <;> split <;> omega
              rw [hval, ha_den h1]
              -- the new cells
              have hcd : stdA.copyD d lo hi ms = copyFrom d lo.toNat hi.toNat ms := rfl
              rw [hcd] at hq h8
              generalize hcs : (ms.take (hi.toNat - lo.toNat)).map (Value.int .u32) = cs
              have hcl : cs.length = (ms.take (hi.toNat - lo.toNat)).length := by rw [← hcs, List.length_map]
              have hcsb : cs.length ≤ hi.toNat - lo.toNat := by rw [hcl, List.length_take]; omega
              have hone : ∀ v ∈ cs, v.oneCell' = true := fun v hv => by
                rw [← hcs] at hv
                obtain ⟨z, _, rfl⟩ := List.mem_map.1 hv
                rfl
              have hfd : flats ρ [At.D (copyFrom d lo.toNat hi.toNat ms)] = d.cells.take lo.toNat ++ (cs ++ d.cells.drop (lo.toNat + cs.length)) := by
                simp only [flats, At.cells, List.append_nil]
                rw [copyFrom_cells ms d _ _ (by omega) (by omega) hall, hcs, hcl]
              have hsz1 : sizes [At.D (copyFrom d lo.toNat hi.toNat ms)] = 32 := rfl
              have hfq : flats ρ q = (flats ρ l).take (off + lo.toNat) ++ (cs ++ (flats ρ l).drop (off + lo.toNat + cs.length)) := by
                rw [h8, hfd, hsz1]
                have hdl : d.cells = ((flats ρ l).drop off).take 32 := h10.symm
                apply List.ext_getElem?
                intro j
                have hdj : ∀ i, i < 32 → d.cells[i]? = (flats ρ l)[off + i]? := fun i hi => by
                  rw [hdl, List.getElem?_take, if_pos hi, List.getElem?_drop]
                have hlenl : (flats ρ l).length = sizes l := flats_length ρ l
                by_cases c1 : j < off
                · rw [List.getElem?_append_left (by simp; omega), List.getElem?_append_left (by simp; omega), List.getElem?_take, List.getElem?_take, if_pos c1, if_pos (by omega)]
                · rw [List.getElem?_append_right (by simp; omega)]
                  have e1 : j - ((flats ρ l).take off).length = j - off := by simp; omega
                  rw [e1]
                  by_cases c2 : j < off + lo.toNat
                  · rw [List.getElem?_append_left (by simp; omega), List.getElem?_append_left (by simp; omega), List.getElem?_append_left (by simp; omega), List.getElem?_take, List.getElem?_take, if_pos (by omega), if_pos c2, hdj _ (by omega)]
                    congr 1; omega
                  · rw [List.getElem?_append_right (l₁ := (flats ρ l).take (off + lo.toNat)) (by simp; omega)]
                    have e2 : j - ((flats ρ l).take (off + lo.toNat)).length = j - off - lo.toNat := by simp; omega
                    rw [e2]
                    by_cases c3 : j < off + lo.toNat + cs.length
                    · rw [List.getElem?_append_left (by simp; omega), List.getElem?_append_right (by simp; omega), List.getElem?_append_left (by simp; omega), List.getElem?_append_left (by omega)]
                      congr 1; simp; omega
                    · rw [List.getElem?_append_right (l₁ := cs) (by omega), List.getElem?_drop]
                      by_cases c4 : j < off + 32
                      · rw [List.getElem?_append_left (by simp; omega), List.getElem?_append_right (by simp; omega), List.getElem?_append_right (by simp; omega), List.getElem?_drop]
                        rw [hdj _ (by simp; omega)]
                        congr 1; simp; omega
                      · rw [List.getElem?_append_right (by simp; omega), List.getElem?_drop]
                        congr 1; simp; omega
              have hrest : ∀ o', o' = o + (off + lo.toNat) ∨ cs = [] → Did w0 Wr ρ h n m w ⟨[stdA.cmp .leq 0 lo, stdA.cmp .leq lo hi, stdA.cmp .leq hi 32, stdA.all32 ms] ++ ob, .c (.s (.int .i64 (((ms.take (hi.toNat - lo.toNat)).length : Nat) : Int))), [], [(id, .fix true q)]⟩ (goInt cs.length) (w.setCells b o' cs) := by
                intro o' ho'
                have hset : w.setCells b o' cs = w.setCells b (o + (off + lo.toNat)) cs := by
                  rcases ho' with rfl | h0
                  · rfl
                  · rw [h0]; rfl
                rw [hset]
                obtain ⟨e1, e2, e3, e4⟩ := setCells_same b cs (o + (off + lo.toNat)) w
                have hfar : ∀ x, x ≠ b → (w.setCells b (o + (off + lo.toNat)) cs).heap[x]? = w.heap[x]? := fun x hx => setCells_far _ _ x hx
                refine ⟨ρ, Agree.refl _ _, by rw [hcl]; rfl, fun _ _ => rfl, (hs.write (k' := .fix true q) hl rfl (by rw [h1]; rfl) hfar e4 e1 e2 e3 ⟨b, o, h1, by omega, ?_, fun _ => ?_⟩ (fun ρ' ha => ?_)).addI0, ⟨e1, e2, e3, Nat.le_of_eq e4.symm, fun x _ hn => hfar x fun e => hn ⟨id, .fix true q, List.mem_cons_self .., by rw [h1, e]; rfl⟩⟩, fun i x h1 h2 => by simp at h2; omega⟩
                · rw [hfq]
                  exact rangeAt_splice h3 (by simpa using hth) (off := off + lo.toNat) (new := cs) (by simp; omega)
                · rw [updA_sizes hq]
                  exact World.there_setCells hth b _ _
                · rw [h8, (updA_flats ρ' hq).2, h6 ρ' ha]; rfl
              rcases rdRow_sound hA hs hrd g4 with ⟨h11, rfl⟩ | ⟨b2, o2, c2, h11, h12⟩
              · rw [h11]
                have := run_copy_none w t u ty el (some (if 32 = lo.toNat then ⟨b, o + off, none⟩ else ⟨b, o + (off + lo.toNat * 1), none⟩)) none (hi.toNat - lo.toNat) (32 - lo.toNat) 0 0 hu hsz (by simp)
                refine ⟨_, _, this, ?_⟩
                have hcs0 : cs = [] := by rw [← hcs]; simp
                have h13 := hrest 0 (.inr hcs0)
                rw [hcs0] at h13
                exact h13
              · rw [h11]
                rw [flat_u32] at h12
                have hsrc : ∀ j v, cs[j]? = some v → w.cell? ((⟨b2, o2, none⟩ : Addr).add j) = some v := fun j v hv => by
                  refine rangeAt_get h12 j v ?_
                  rw [← hcs, List.map_take, List.getElem?_take] at hv
                  split at hv
                  · exact hv
                  · simp at hv
                by_cases hL2 : 32 = lo.toNat
                · rw [if_pos hL2]
                  have hcs0 : cs = [] := List.eq_nil_of_length_eq_zero (by omega)
                  have := run_copy_cells w t u ty el b (o + off) (hi.toNat - lo.toNat) (32 - lo.toNat) ⟨b2, o2, none⟩ ms.length c2 cs hu hsz (by rw [hcl, ← hlen]) hsrc (fun j hj => by rw [hcs0] at hj; simp at hj) (fun j hj => by rw [hcs0] at hj; simp at hj) hone
                  exact ⟨_, _, this, hrest _ (.inr hcs0)⟩
                · rw [if_neg hL2]
                  have hth2 : ∀ j, j < cs.length → (w.cell? ⟨b, o + (off + lo.toNat * 1) + j, none⟩).isSome = true ∧ w.frozen? ⟨b, o + (off + lo.toNat * 1) + j, none⟩ = false := fun j hj => by
                    have := hth (off + lo.toNat + j) (by omega)
                    rwa [show o + (off + lo.toNat + j) = o + (off + lo.toNat * 1) + j from by omega] at this
                  have := run_copy_cells w t u ty el b (o + (off + lo.toNat * 1)) (hi.toNat - lo.toNat) (32 - lo.toNat) ⟨b2, o2, none⟩ ms.length c2 cs hu hsz (by rw [hcl, ← hlen]) hsrc (fun j hj => (hth2 j hj).1) (fun j hj => (hth2 j hj).2) hone
                  exact ⟨_, _, this, hrest _ (.inl (by omega))⟩
            · simp at e
          · simp at e
        · simp at e
      · simp at e
    · simp at e
  · simp at e

end
end Go.Eng
