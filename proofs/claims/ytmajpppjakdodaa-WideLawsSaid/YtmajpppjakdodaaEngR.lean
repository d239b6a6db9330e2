/- The engine, part R: such a function's contract. -/
import Derived.Test.YtmajpppjakdodaaEngQ
set_option linter.all false
set_option exponentiation.threshold 3000
namespace Go.Eng

theorem look_heapOf : ∀ (l : List Blk) (j i : Nat), look (heapOf l j) i = if j ≤ i then l[i - j]? else none
  | [], j, i => by simp [heapOf, look]
  | b :: r, j, i => by
    simp only [heapOf, look]
    by_cases h : j = i
    · subst h; simp
    · have : (j == i) = false := by simp [h]
      rw [this, if_neg (by simp), look_heapOf r (j + 1) i]
      by_cases h2 : j + 1 ≤ i
      · rw [if_pos h2, if_pos (by omega), show i - j = (i - (j + 1)) + 1 from by omega]; rfl
      · rw [if_neg h2, if_neg (by omega)]

theorem okNew_mem : ∀ {l : List Blk}, okNew l = true → ∀ b, b ∈ l → b.own = true ∧ b.flat = true
  | [], _, b, hb => by simp at hb
  | a :: r, h, b, hb => by
    simp only [okNew, Bool.and_eq_true] at h
    obtain ⟨⟨h1, h2⟩, h3⟩ := h
    simp only [List.mem_cons] at hb
    rcases hb with rfl | hb
    · refine ⟨?_, h2⟩
      split at h1
      · rfl
      · rfl
      · cases h1
    · exact okNew_mem h3 b hb

theorem rd_length {c c' : Canon} {y x : Sc} {b : Blk} {ob : List Bool} {id : Nat} (e : c.rd y b x ob id = some c') : c'.args.length = c.args.length + 1 := by
  unfold Canon.rd at e
  split at e
  · simp at e
  · simp only [Option.some.injEq] at e; subst e; rfl
theorem wrt_length {c c' : Canon} {y x : Sc} {b : Blk} {ob : List Bool} {id j : Nat} (e : c.wrt y b x ob id j = some c') : c'.args.length = c.args.length + 1 := by
  unfold Canon.wrt at e
  split at e
  · simp at e
  · simp only [Option.some.injEq] at e; subst e; rfl

theorem canon_length {A : Alg} {h : Heap} : ∀ {ds : List PD} {xs : List CV} {j : Nat} {c : Canon}, canon A h ds xs j = some c → c.args.length = ds.length
  | [], [], j, c, e => by simp only [canon, Option.some.injEq] at e; subst e; rfl
  | [], _ :: _, _, _, e => by simp [canon] at e
  | _ :: _, [], _, _, e => by simp [canon] at e
  | d :: ds, x :: xs, j, c, e => by
    cases d <;> simp only [canon] at e <;> repeat' split at e
    all_goals first
      | (simp at e; done)
      | (rename_i hc; rw [rd_length e, canon_length hc]; rfl)
      | (rename_i hc; rw [wrt_length e, canon_length hc]; rfl)
      | (rename_i hc; simp only [Option.some.injEq] at e; subst e; simp [canon_length hc])

theorem nodup_inj : ∀ {l : List Nat}, l.Nodup → ∀ {i j : Nat} (hi : i < l.length) (hj : j < l.length), l[i] = l[j] → i = j
  | [], _, i, j, hi, _, _ => by simp at hi
  | a :: r, h, i, j, hi, hj, e => by
    rw [List.nodup_cons] at h
    cases i with
    | zero => cases j with
      | zero => rfl
      | succ j => simp at e; exact absurd (e ▸ List.getElem_mem _) h.1
    | succ i => cases j with
      | zero => simp at e; exact absurd (e ▸ List.getElem_mem _) h.1
      | succ j => simp at e hi hj; rw [nodup_inj h.2 hi hj e]

/-- the callee's frame -/
def baseOf (c : Canon) (ρ : Rho) : Base := ⟨fun y => ∃ (i : Nat) (x : Sc) (b : Blk), c.sc[i]? = some x ∧ c.heap[i]? = some b ∧ b.own = true ∧ blkOf (x.den ρ) = some y, fun i => i < c.sc.length, fun i => match c.sc[i]? with
  | some x => x.den ρ
  | none => .pointer none, fun y => ∃ (i : Nat) (x : Sc), c.sc[i]? = some x ∧ blkOf (x.den ρ) = some y⟩

section
variable {P : Program} {T : Nat → Option TI} {C : Nat → Option Sem'}

theorem HS.enter {w0 : World} {Wr : Base} {h : Heap} {w : World} {ρ : Rho} {n : Ids} {c : Canon} {xs : List CV} (hc : CanonOK w0 Wr h w ρ n c xs 0) : HS w (baseOf c ρ) (baseOf c ρ).rho (heapOf c.heap 0) (fun i => i < c.sc.length) w := by
  have hx : ∀ i b, look (heapOf c.heap 0) i = some b → ∃ x, c.sc[i]? = some x ∧ c.heap[i]? = some b := fun i b h => by
    rw [look_heapOf, if_pos (Nat.zero_le _), Nat.sub_zero] at h
    obtain ⟨h1, _⟩ := List.getElem?_eq_some_iff.1 h
    rw [hc.len] at h1
    exact ⟨c.sc[i], List.getElem?_eq_getElem h1, h⟩
  have hr : ∀ i x, c.sc[i]? = some x → (baseOf c ρ).rho i = x.den ρ := fun i x h => by simp only [baseOf, h]
  exact {
    one := fun i => by
      cases h : c.sc[i]? with
      | none => simp only [baseOf, h]; rfl
      | some x =>
        rw [hr i x h]
        obtain ⟨h1, _⟩ := List.getElem?_eq_some_iff.1 h
        rw [← hc.len] at h1
        exact (hc.blk i x _ h (List.getElem?_eq_getElem h1)).2.2.2
    ok := fun i b h => by
      obtain ⟨x, h1, h2⟩ := hx i b h
      obtain ⟨g1, g2, g3, g4⟩ := hc.blk i x b h1 h2
      rw [hr i x h1]
      exact ⟨(List.getElem?_eq_some_iff.1 h1).1, Blk.flat_ok g2 _ g3, Blk.flat_stb g2 _ _⟩
    sep := fun i b j c' hi hj hij ho _ y hy => by
      obtain ⟨x, h1, h2⟩ := hx i b hi
      obtain ⟨x', h3, h4⟩ := hx j c' hj
      rw [hr i x h1] at hy
      rw [hr j x' h3]
      exact hc.sep i x b j x' h1 h2 h3 hij ho y hy
    wr := fun i b y h ho hy => by
      obtain ⟨x, h1, h2⟩ := hx i b h
      rw [hr i x h1] at hy
      exact .inr ⟨i, x, b, h1, h2, ho, hy⟩
    org := fun i b y h ho hy => by
      obtain ⟨x, h1, h2⟩ := hx i b h
      rw [hr i x h1] at hy
      exact .inr (.inr ⟨i, x, h1, hy⟩)
    frame := fun _ _ _ => rfl
    os := rfl
    tape := rfl
    output := rfl
    size := Nat.le_refl _
    ag := Agree.refl _ _
    inn := fun _ h => h }

theorem wrOf_map : ∀ {l : List (Nat × Nat)} {bs : List Blk} {wr : Heap}, wrOf l bs = some wr → wr.map (·.1) = l.map (·.2) ∧ ∀ (i : Nat) (p : Nat × Nat), l[i]? = some p → ∃ b, bs[i]? = some b ∧ wr[i]? = some (p.2, b)
  | [], [], wr, h => by simp only [wrOf, Option.some.injEq] at h; subst h; exact ⟨rfl, fun i p h => by simp at h⟩
  | [], _ :: _, _, h => by simp [wrOf] at h
  | _ :: _, [], _, h => by simp [wrOf] at h
  | (q, id) :: r, b :: bs, wr, h => by
    simp only [wrOf] at h
    split at h
    · rename_i h' hh
      simp only [Option.some.injEq] at h
      subst h
      obtain ⟨g1, g2⟩ := wrOf_map hh
      refine ⟨by simp [g1], fun i p hp => ?_⟩
      cases i with
      | zero => simp at hp; subst hp; exact ⟨b, rfl, rfl⟩
      | succ i => exact g2 i p (by simpa using hp)
    · simp at h

/-- the written arguments, as the callee counts them -/
theorem ownIdx_wi {A : Alg} {h : Heap} : ∀ {ds : List PD} {xs : List CV} {j : Nat} {c : Canon}, canon A h ds xs j = some c → ownIdx c.heap j = c.wi.map (·.1)
  | [], [], j, c, e => by simp only [canon, Option.some.injEq] at e; subst e; rfl
  | [], _ :: _, _, _, e => by simp [canon] at e
  | _ :: _, [], _, _, e => by simp [canon] at e
  | d :: ds, x :: xs, j, c, e => by
    have hrd : ∀ {c c' : Canon} {y x : Sc} {b : Blk} {ob : List Bool} {id : Nat}, ownIdx c.heap (j + 1) = c.wi.map (·.1) → b.own = false → c.rd y b x ob id = some c' → ownIdx c'.heap j = c'.wi.map (·.1) := fun {c c' y x b ob id} ih hb e => by
      unfold Canon.rd at e
      split at e
      · simp at e
      · simp only [Option.some.injEq] at e; subst e
        simp only [ownIdx, hb, Bool.false_eq_true, if_false]; exact ih
    have hwrt : ∀ {c c' : Canon} {y x : Sc} {b : Blk} {ob : List Bool} {id : Nat}, ownIdx c.heap (j + 1) = c.wi.map (·.1) → b.own = true → c.wrt y b x ob id j = some c' → ownIdx c'.heap j = c'.wi.map (·.1) := fun {c c' y x b ob id} ih hb e => by
      unfold Canon.wrt at e
      split at e
      · simp at e
      · simp only [Option.some.injEq] at e; subst e
        simp only [ownIdx, hb, if_true, List.map_cons, ih]
    cases d <;> simp only [canon] at e <;> repeat' split at e
    all_goals first
      | (simp at e; done)
      | (rename_i hc; exact hrd (ownIdx_wi hc) rfl e)
      | (rename_i hc; exact hwrt (ownIdx_wi hc) rfl e)
      | (rename_i hc; simp only [Option.some.injEq] at e; subst e; exact ownIdx_wi hc)
      | (rename_i hc; simp only [Option.some.injEq] at e; subst e; simp only [ownIdx, Blk.own, Bool.false_eq_true, if_false]; exact ownIdx_wi hc)

theorem look_of_get : ∀ {l : Heap} {i id : Nat} {b : Blk}, (l.map (·.1)).Nodup → l[i]? = some (id, b) → look l id = some b
  | [], i, _, _, _, h => by simp at h
  | (j, c) :: r, i, id, b, hn, h => by
    simp only [List.map_cons, List.nodup_cons] at hn
    cases i with
    | zero => simp at h; obtain ⟨rfl, rfl⟩ := h; simp [look]
    | succ i =>
      have h' : r[i]? = some (id, b) := by simpa using h
      have hne : (j == id) = false := by
        simp only [beq_eq_false_iff_ne, ne_eq]
        intro e
        subst e
        exact hn.1 (List.mem_map.2 ⟨_, List.mem_of_getElem? h', rfl⟩)
      simp only [look, hne, Bool.false_eq_true, if_false]
      exact look_of_get hn.2 h'

theorem get_of_look {α : Type} : ∀ {l : List (Nat × α)} {id : Nat} {b : α}, look l id = some b → ∃ i : Nat, l[i]? = some (id, b)
  | [], _, _, h => by simp [look] at h
  | (j, c) :: r, id, b, h => by
    simp only [look] at h
    split at h
    · rename_i hj
      simp only [beq_iff_eq] at hj
      simp only [Option.some.injEq] at h
      subst hj h
      exact ⟨0, rfl⟩
    · obtain ⟨i, hi⟩ := get_of_look h
      exact ⟨i + 1, by simpa using hi⟩

/-- A FUNCTION THAT READS AND WRITES BLOCKS AND MAKES NEW ONES keeps its contract -/
theorem callOK_heapW (hT : TOK P T) (hC : COK P C) (hm : P.follows .mixedOrders = true) {f : Nat} {fn : Func} (hf : P.funcs[f]? = some fn) (hn : fn.body.isNone = false) (hnm : (fn.name == "runtime.NumGoroutine") = false)
    {ds : List PD} {g : List CV → List Blk → Option LW} (hN : ds.length ≤ fn.ntmps) {un : Md}
    (hrun : ∀ (w : World) (Wr : Base) (args : List CV) (bs : List Blk) (r : LW), g args bs = some r → (∀ b, b ∈ r.ob → b = true) → (∀ i, Wr.ids i → i < bs.length) →
      ∀ (A : Alg) (L : Code → St → (Exit → St → Prop) → Prop) (k : XV → Heap → Prop), A = stdA → (∀ c s k, LoopP P (cx0 fn.ntmps T C) w Wr c s k → L c s k) → (∀ v h, GoodW bs r v h → k v h) →
        runF ⟨0, A, T, C, un, L⟩ fn args (heapOf bs 0) bs.length k) : CallOK P f (heapSemW ds stdA g) where
  enters args w := by
    unfold callFunc
    simp only [Sem.run_bind, run_program, Result.andThen_ok, hf]
    rw [if_neg (by rw [hnm]; simp), if_neg (by rw [hn]; simp)]
    rfl
  calls n m args h r hlt hr hob w0 Wr ρ w hs hargs := by
    unfold heapSemW at hr
    split at hr
    · rename_i c hcan
      split at hr
      · rename_i rr hg
        split at hr
        · rename_i hnews
          simp only [Bool.and_eq_true] at hnews
          obtain ⟨hnew, hnwr⟩ := hnews
          split at hr
          · rename_i o y wr hy hwr
            simp only [Option.some.injEq] at hr
            subst hr
            have ho1 : ∀ b, b ∈ c.ob → b = true := fun b hb => hob b (by simp [hb])
            have ho2 : ∀ b, b ∈ rr.ob → b = true := fun b hb => hob b (by simp [hb])
            have ho3 : ∀ b, b ∈ o → b = true := fun b hb => hob b (by simp [hb])
            have hc := canon_sound rfl hs hcan ho1
            have hlen := canon_length hcan
            have hidx := ownIdx_wi hcan
            obtain ⟨hwm, hwg⟩ := wrOf_map hwr
            have hwn : (wr.map (·.1)).Nodup := by rw [hwm]; exact hc.nod
            have hentry := HS.enter hc
            have hr0 : ∀ i x, c.sc[i]? = some x → (baseOf c ρ).rho i = x.den ρ := fun i x h => by simp only [baseOf, h]
            have hcall := fn_calls (un := un) hT hC hm hf hentry (fun v hv => (hc.stb v hv _).mono fun i hi => by omega) (fun i hi => by rw [hc.len]; exact hi) (by rw [hlen]; exact hN) (R := GoodW c.heap rr)
              (hrun w (baseOf c ρ) c.args c.heap rr hg ho2 (fun i hi => by rw [hc.len]; exact hi))
            rw [hc.args _ (fun i x hx => by rw [Nat.zero_add]; exact hr0 i x hx)] at hcall
            refine hcall.mono fun e w' ⟨v, ρ2, n2, h2, hgood, he, hst, hs2⟩ => ?_
            obtain ⟨τ, t1, t2, t2', t3, t4, t5⟩ := hgood.ex
            have hq : c.heap.length = c.sc.length := hc.len
            rw [hq] at t3 t2'
            -- blocks of before that are written
            have hWr : ∀ y, (baseOf c ρ).wr y → wblk ρ wr y := fun y ⟨i, x, b, h1, h2, h3, h4⟩ => by
              obtain ⟨id, k, g1, g2, g3, g4⟩ := hc.own i x b h1 h2 h3
              obtain ⟨q, hq'⟩ := List.getElem?_of_mem g1
              obtain ⟨b', u1, u2⟩ := hwg q _ hq'
              exact ⟨id, b', List.mem_of_getElem? u2, by rw [← g4]; exact h4⟩
            have hbut : But (wblk ρ wr) w w' := ⟨hs2.os, hs2.tape, hs2.output, hs2.size, fun x hx hnw => hs2.frame x hx fun hw => hnw (hWr x hw)⟩
            let ρ3 : Rho := fun i => if m ≤ i ∧ i < m + rr.new.length then ρ2 (τ.getD (i - m) 0) else ρ i
            have hag : Agree n ρ ρ3 := fun i hi => by have := hlt i hi; show ite _ _ _ = _; rw [if_neg (by omega)]
            have hold : ∀ i, n i → ρ3 i = ρ i := fun i hi => hag i hi
            have hnewr : ∀ q, q < rr.new.length → ρ3 (m + q) = ρ2 (τ.getD q 0) := fun q hq => by
              show ite _ _ _ = _
              rw [if_pos ⟨by omega, by omega⟩, show m + q - m = q from by omega]
            obtain ⟨y1, y2⟩ := renX_sound (ρ2 := ρ2) (ρ3 := ρ3) (f := lf c.sc.length τ) (n := n) (q := c.sc.length) rfl (fun j x hx => by
                have hj := (List.getElem?_eq_some_iff.1 hx).1
                simp only [lf, if_pos hj]
                rw [hs2.ag j hj, hr0 j x hx]) (fun j h1 h2 => by
                rw [hnewr _ (by omega)]
                simp only [lf, if_neg (show ¬ j < c.sc.length by omega)]) hag hc.scs hy ho3
            have hτ : ∀ q b, rr.new[q]? = some b → ∃ t, τ[q]? = some t ∧ τ.getD q 0 = t ∧ c.sc.length ≤ t ∧ ∃ b', look h2 t = some b' ∧ BlkLe b' b := fun q b hb => by
              have h1 := (List.getElem?_eq_some_iff.1 hb).1
              rw [← t1] at h1
              exact ⟨τ[q], List.getElem?_eq_getElem h1, by simp [List.getD, List.getElem?_eq_getElem h1], t2' _ (List.getElem_mem h1), t4 q _ b (List.getElem?_eq_getElem h1) hb⟩
            -- a written handle: the callee's
            have hwr2 : ∀ i b, look wr i = some b → ∃ t b' k, t < c.sc.length ∧ look h2 t = some b' ∧ BlkLe b' b ∧ b.own = true ∧ b.flat = true ∧ ρ2 t = ρ i ∧ look h i = some k ∧ k.own = true := fun i b hb => by
              obtain ⟨q, hq'⟩ := get_of_look hb
              have hql : q < wr.length := (List.getElem?_eq_some_iff.1 hq').1
              have hwl : wr.length = c.wi.length := by have := congrArg List.length hwm; simpa using this
              have hp : ∃ p, c.wi[q]? = some p := ⟨_, List.getElem?_eq_getElem (by omega)⟩
              obtain ⟨⟨t, id⟩, hp⟩ := hp
              obtain ⟨b1, u1, u2⟩ := hwg q _ hp
              rw [hq'] at u2
              simp only [Option.some.injEq, Prod.mk.injEq] at u2
              obtain ⟨rfl, rfl⟩ := u2
              have hix : (ownIdx c.heap 0)[q]? = some t := by rw [hidx]; simp [hp]
              obtain ⟨b', v1, v2⟩ := t5 q t b hix u1
              obtain ⟨_, i', x, b2, k, e1, e2, e3, e4, e5, e6, e7⟩ := hc.wis t i (List.mem_of_getElem? hp)
              rw [Nat.zero_add] at e1
              subst e1
              have hj := (List.getElem?_eq_some_iff.1 e2).1
              obtain ⟨o1, o2⟩ := okNew_mem hnwr b (List.mem_of_getElem? u1)
              exact ⟨t, b', k, hj, v1, v2, o1, o2, by rw [hs2.ag t hj, hr0 t x e2, e7], e5, e6⟩
            have hlook : ∀ i b, look (addH (allH h wr) m rr.new) i = some b → (∃ q, i = m + q ∧ q < rr.new.length ∧ rr.new[q]? = some b) ∨
                (¬ (m ≤ i ∧ i < m + rr.new.length) ∧ ((look wr i = some b ∧ ∃ k, look h i = some k) ∨ (look wr i = none ∧ look h i = some b))) := fun i b hb => by
              rw [look_addH] at hb
              split at hb
              · rename_i hi; exact .inl ⟨i - m, by omega, by omega, hb⟩
              · rename_i hi
                rw [look_allH wr h i hwn] at hb
                split at hb
                · rename_i c' hc'
                  cases hk : look h i with
                  | none => rw [hk] at hb; cases hb
                  | some k => rw [hk] at hb; simp only [Option.map_some, Option.some.injEq] at hb; subst hb; exact .inr ⟨hi, .inl ⟨hc', k, rfl⟩⟩
                · rename_i hc'; exact .inr ⟨hi, .inr ⟨hc', hb⟩⟩
            -- new blocks are the callee's own, and no argument's
            have hfresh : ∀ q b x, rr.new[q]? = some b → blkOf (ρ3 (m + q)) = some x → w.heap.size ≤ x := fun q b x hb hx => by
              obtain ⟨t, g1, g2, g2', b', g3, g4⟩ := hτ q b hb
              rw [hnewr q (List.getElem?_eq_some_iff.1 hb).1, g2] at hx
              have hbo := (okNew_mem hnew b (List.mem_of_getElem? hb)).1
              rcases hs2.wr t b' x g3 (by rw [g4.own]; exact hbo) hx with h | ⟨i, x', b1, h1, h2', h3, h4⟩
              · exact h
              · exfalso
                obtain ⟨id, k, e1, e2, e3, e4⟩ := hc.own i x' b1 h1 h2' h3
                rw [Nat.zero_add] at e1
                obtain ⟨p, hp⟩ := List.getElem?_of_mem e1
                obtain ⟨b2, u1, u2⟩ := hwg p _ hp
                have hix : (ownIdx c.heap 0)[p]? = some i := by rw [hidx]; simp [hp]
                obtain ⟨b3, v1, v2⟩ := t5 p i b2 hix u1
                have hil := (List.getElem?_eq_some_iff.1 h1).1
                have hb3 : b3.own = true := by rw [v2.own]; exact (okNew_mem hnwr b2 (List.mem_of_getElem? u1)).1
                refine hs2.sep i b3 t b' v1 g3 (by omega) hb3 (Blk.live_own (by rw [g4.own]; exact hbo)) x ?_ hx
                rw [hs2.ag i hil, hr0 i x' h1]; exact h4
            have holdx : ∀ i b x, look h i = some b → blkOf (ρ i) = some x → x < w.heap.size := fun i b x hb hx => Blk.block (hs.ok i b hb).2.1 hx
            -- an elder block that isn't written stands
            have hkeep : ∀ i b, look wr i = none → look h i = some b → b.live = true → ∀ x, blkOf (ρ i) = some x → w'.heap[x]? = w.heap[x]? := fun i b hw hb hl x hx => by
              refine hbut.block x (holdx i b x hb hx) fun ⟨id, b1, g1, g2⟩ => ?_
              obtain ⟨p, hp⟩ := List.getElem?_of_mem g1
              have hlw := look_of_get hwn hp
              obtain ⟨t, b', k, e1, e2, e3, e4, e5, e6, e7, e8⟩ := hwr2 id b1 hlw
              have hne : id ≠ i := fun e => by subst e; rw [hw] at hlw; cases hlw
              exact hs.sep id k i b e7 hb hne e8 hl x g2 hx
            refine ⟨v.den ρ2, he, ρ3, hag, by rw [t3, y1], y2, ?_, hbut, fun i x g1 g2 hx => .inl ?_⟩
            · refine { one := fun i => ?_, ok := fun i b hl => ?_, sep := fun i b j b2 hi hj hij ho hlv x hx hx2 => ?_, wr := fun i b x hi ho hx => ?_, org := fun i b x hi hlv hx => ?_, frame := fun x h1 h2 => ?_, os := hbut.os.trans hs.os, tape := hbut.tape.trans hs.tape, output := hbut.output.trans hs.output, size := Nat.le_trans hs.size hbut.size, ag := hs.ag.trans hag hs.inn, inn := fun i hi => .inl (hs.inn i hi) }
              · show (ite _ _ _ : Value).oneCell' = true
                split
                · exact hs2.one _
                · exact hs.one _
              · rcases hlook i b hl with ⟨q, rfl, hq, hb2⟩ | ⟨hi, ⟨hw, k, hk⟩ | ⟨hw, hl⟩⟩
                · obtain ⟨t, g1, g2, _, b', g3, g4⟩ := hτ q b hb2
                  obtain ⟨g5, g6⟩ := okNew_mem hnew b (List.mem_of_getElem? hb2)
                  rw [hnewr q hq, g2]
                  exact ⟨show addI n m rr.new.length _ from .inr ⟨by omega, by omega⟩, Blk.flat_ok g6 _ (g4.ok (hs2.ok t b' g3).2.1), Blk.flat_stb g6 _ _⟩
                · obtain ⟨t, b', k', e1, e2, e3, e4, e5, e6, e7, e8⟩ := hwr2 i b hw
                  have hni := (hs.ok i k hk).1
                  rw [hold i hni]
                  refine ⟨.inl hni, ?_, Blk.flat_stb e5 _ _⟩
                  have := e3.ok (hs2.ok t b' e2).2.1
                  rw [e6] at this
                  exact Blk.flat_ok e5 _ this
                · obtain ⟨g1, g2, g3⟩ := hs.ok i b hl
                  rw [hold i g1]
                  refine ⟨.inl g1, ?_, Blk.stb_move g3 hag fun _ hi => .inl hi⟩
                  by_cases hlv : b.live = true
                  · exact Blk.ok_move g3 hag (Blk.ok_of_block hbut.size (fun x hx => hkeep i b hw hl hlv x hx) g2)
                  · cases b with
                    | gone => exact fun x hx => Nat.lt_of_lt_of_le (g2 x hx) hbut.size
                    | fix => exact absurd rfl hlv
                    | vec => exact absurd rfl hlv
              · -- blocks of before: the callee's or the caller's
                have hbef : ∀ i b, look (allH h wr) i = some b → ∃ k, look h i = some k ∧ (b.own = true → k.own = true) ∧ (b.live = true → k.live = true) := fun i b hb => by
                  rw [look_allH wr h i hwn] at hb
                  split at hb
                  · rename_i c' hc'
                    cases hk : look h i with
                    | none => rw [hk] at hb; cases hb
                    | some k =>
                      obtain ⟨t, b', k', e1, e2, e3, e4, e5, e6, e7, e8⟩ := hwr2 i c' hc'
                      rw [hk] at e7
                      simp only [Option.some.injEq] at e7
                      subst e7
                      exact ⟨k, rfl, fun _ => e8, fun _ => Blk.live_own e8⟩
                  · exact ⟨b, hb, id, id⟩
                have hlook2 : ∀ i b, look (addH (allH h wr) m rr.new) i = some b → (∃ q, i = m + q ∧ q < rr.new.length ∧ rr.new[q]? = some b) ∨ (¬ (m ≤ i ∧ i < m + rr.new.length) ∧ look (allH h wr) i = some b) := fun i b hb => by
                  rw [look_addH] at hb
                  split at hb
                  · rename_i hi; exact .inl ⟨i - m, by omega, by omega, hb⟩
                  · rename_i hi; exact .inr ⟨hi, hb⟩
                rcases hlook2 i b hi with ⟨q, rfl, hq, hb2⟩ | ⟨hi, hl⟩
                · have hx3 := hfresh q b x hb2 hx
                  rcases hlook2 j b2 hj with ⟨q', rfl, hq', hb3⟩ | ⟨hj, hl'⟩
                  · obtain ⟨t, g1, g2, _, b', g3, g4⟩ := hτ q b hb2
                    obtain ⟨t', g1', g2', _, b'', g3', g4'⟩ := hτ q' b2 hb3
                    rw [hnewr q hq, g2] at hx
                    rw [hnewr q' hq', g2'] at hx2
                    have hne : t ≠ t' := fun e => by
                      subst e
                      have hq1 : q < τ.length := by omega
                      have hq2 : q' < τ.length := by omega
                      have e1 : τ[q] = τ[q'] := by
                        rw [List.getElem?_eq_getElem hq1] at g1
                        rw [List.getElem?_eq_getElem hq2] at g1'
                        simp only [Option.some.injEq] at g1 g1'
                        rw [g1, g1']
                      have := nodup_inj t2 hq1 hq2 e1
                      omega
                    exact hs2.sep t b' t' b'' g3 g3' hne (by rw [g4.own]; exact ho) (by rw [g4'.live]; exact hlv) x hx hx2
                  · obtain ⟨k, e1, e2, e3⟩ := hbef j b2 hl'
                    rw [hold j (hs.ok j k e1).1] at hx2
                    have := holdx j k x e1 hx2
                    omega
                · obtain ⟨k, e1, e2, e3⟩ := hbef i b hl
                  rw [hold i (hs.ok i k e1).1] at hx
                  have hx3 := holdx i k x e1 hx
                  rcases hlook2 j b2 hj with ⟨q', rfl, hq', hb3⟩ | ⟨hj, hl'⟩
                  · have := hfresh q' b2 x hb3 hx2
                    omega
                  · obtain ⟨k', f1, f2, f3⟩ := hbef j b2 hl'
                    rw [hold j (hs.ok j k' f1).1] at hx2
                    exact hs.sep i k j k' e1 f1 hij (e2 ho) (f3 hlv) x hx hx2
              · rcases hlook i b hi with ⟨q, rfl, hq, hb2⟩ | ⟨hi, ⟨hw, k, hk⟩ | ⟨hw, hl⟩⟩
                · have := hfresh q b x hb2 hx
                  have := hs.size
                  exact .inl (by omega)
                · obtain ⟨t, b', k', e1, e2, e3, e4, e5, e6, e7, e8⟩ := hwr2 i b hw
                  rw [hold i (hs.ok i k hk).1] at hx
                  exact hs.wr i k' x e7 e8 hx
                · rw [hold i (hs.ok i b hl).1] at hx
                  exact hs.wr i b x hl ho hx
              · rcases hlook i b hi with ⟨q, rfl, hq, hb2⟩ | ⟨hi, ⟨hw, k, hk⟩ | ⟨hw, hl⟩⟩
                · have := hfresh q b x hb2 hx
                  have := hs.size
                  exact .inl (by omega)
                · obtain ⟨t, b', k', e1, e2, e3, e4, e5, e6, e7, e8⟩ := hwr2 i b hw
                  rw [hold i (hs.ok i k hk).1] at hx
                  exact hs.org i k' x e7 (Blk.live_own e8) hx
                · rw [hold i (hs.ok i b hl).1] at hx
                  exact hs.org i b x hl hlv hx
              · have hnw : ¬ wblk ρ wr x := fun ⟨id, b1, g1, g2⟩ => by
                  obtain ⟨p, hp⟩ := List.getElem?_of_mem g1
                  have hlw := look_of_get hwn hp
                  obtain ⟨t, b', k, e1, e2, e3, e4, e5, e6, e7, e8⟩ := hwr2 id b1 hlw
                  rcases hs.wr id k x e7 e8 g2 with h3 | h3
                  · omega
                  · exact h2 h3
                rw [hbut.block x (Nat.lt_of_lt_of_le h1 hs.size) hnw]
                exact hs.frame x h1 h2
            · have : ∃ b, rr.new[i - m]? = some b := ⟨_, List.getElem?_eq_getElem (by simp only at g2; omega)⟩
              obtain ⟨b, hb2⟩ := this
              exact hfresh (i - m) b x hb2 (by rw [show m + (i - m) = i from by omega]; exact hx)
          · simp at hr
        · simp at hr
      · simp at hr
    · simp at hr

/-- A FUNCTION THAT READS BLOCKS AND MAKES NEW ONES keeps its contract -/
theorem callOK_heap (hT : TOK P T) (hC : COK P C) (hm : P.follows .mixedOrders = true) {f : Nat} {fn : Func} (hf : P.funcs[f]? = some fn) (hn : fn.body.isNone = false) (hnm : (fn.name == "runtime.NumGoroutine") = false)
    {ds : List PD} {g : List CV → List Blk → Option LR} (hN : ds.length ≤ fn.ntmps) {un : Md}
    (hrun : ∀ (w : World) (Wr : Base) (args : List CV) (bs : List Blk) (r : LR), g args bs = some r → (∀ b, b ∈ r.ob → b = true) → (∀ i, Wr.ids i → i < bs.length) →
      ∀ (A : Alg) (L : Code → St → (Exit → St → Prop) → Prop) (k : XV → Heap → Prop), A = stdA → (∀ c s k, LoopP P (cx0 fn.ntmps T C) w Wr c s k → L c s k) → (∀ v h, Good bs.length r v h → k v h) →
        runF ⟨0, A, T, C, un, L⟩ fn args (heapOf bs 0) bs.length k) : CallOK P f (heapSem ds stdA g) :=
  callOK_heapW (un := un) hT hC hm hf hn hnm hN fun w Wr args bs r hg ho hids A L k hA hL hk => by
    unfold toW at hg
    split at hg
    · rename_i r' hr'
      simp only [Option.some.injEq] at hg
      subst hg
      exact hrun w Wr args bs r' hr' ho hids A L k hA hL fun v h hgd => hk v h (by
        obtain ⟨τ, t1, t2, t2', t3, t4⟩ := hgd.ex
        exact ⟨τ, t1, t2, t2', t3, t4, fun i t b _ hb => by simp at hb⟩)
    · simp at hg

end
end Go.Eng
