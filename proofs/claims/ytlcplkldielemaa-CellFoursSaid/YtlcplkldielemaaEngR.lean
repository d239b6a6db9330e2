/- The engine, part R: such a function's contract. -/
import Derived.Test.YtlcplkldielemaaEngQ
set_option linter.all false
set_option exponentiation.threshold 3000
namespace Go.Eng

theorem look_heapOf : ∀ (l : List Blk) (j i : Nat), look (heapOf l j) i = if j ≤ i then l[i - j]? else none
  | [], j, i => by simp [heapOf, look]
  | b :: r, j, i => by
    simp only [heapOf, look]
    by_cases h : j = i
    · subst h; simp
    · have : (j == i) = false := by simp [h]
      rw [this, if_neg (by simp), look_heapOf r (j + 1) i]
      by_cases h2 : j + 1 ≤ i
      · rw [if_pos h2, if_pos (by omega), show i - j = (i - (j + 1)) + 1 from by omega]; rfl
      · rw [if_neg h2, if_neg (by omega)]

theorem okNew_mem : ∀ {l : List Blk}, okNew l = true → ∀ b, b ∈ l → b.own = true ∧ b.flat = true
  | [], _, b, hb => by simp at hb
  | a :: r, h, b, hb => by
    simp only [okNew, Bool.and_eq_true] at h
    obtain ⟨⟨h1, h2⟩, h3⟩ := h
    simp only [List.mem_cons] at hb
    rcases hb with rfl | hb
    · refine ⟨?_, h2⟩
      split at h1
      · rfl
      · rfl
      · cases h1
    · exact okNew_mem h3 b hb

theorem canon_length {A : Alg} {h : Heap} : ∀ {ds : List PD} {xs : List CV} {j : Nat} {c : Canon}, canon A h ds xs j = some c → c.args.length = ds.length
  | [], [], j, c, e => by simp only [canon, Option.some.injEq] at e; subst e; rfl
  | [], _ :: _, _, _, e => by simp [canon] at e
  | _ :: _, [], _, _, e => by simp [canon] at e
  | d :: ds, x :: xs, j, c, e => by
    cases d <;> simp only [canon] at e <;> repeat' split at e
    all_goals first
      | (simp at e; done)
      | (rename_i hc; simp only [Option.some.injEq] at e; subst e; simp [canon_length hc])

theorem nodup_inj : ∀ {l : List Nat}, l.Nodup → ∀ {i j : Nat} (hi : i < l.length) (hj : j < l.length), l[i] = l[j] → i = j
  | [], _, i, j, hi, _, _ => by simp at hi
  | a :: r, h, i, j, hi, hj, e => by
    rw [List.nodup_cons] at h
    cases i with
    | zero => cases j with
      | zero => rfl
      | succ j => simp at e; exact absurd (e ▸ List.getElem_mem _) h.1
    | succ i => cases j with
      | zero => simp at e; exact absurd (e ▸ List.getElem_mem _) h.1
      | succ j => simp at e hi hj; rw [nodup_inj h.2 hi hj e]

/-- the callee's frame -/
def baseOf (σ : List Sc) (ρ : Rho) : Base := ⟨fun _ => False, fun i => i < σ.length, fun i => match σ[i]? with
  | some x => x.den ρ
  | none => .pointer none⟩

section
variable {P : Program} {T : Nat → Option TI} {C : Nat → Option Sem'}

theorem HS.enter {w : World} {ρ : Rho} {n : Ids} {c : Canon} {xs : List CV} (hc : CanonOK w ρ n c xs 0) : HS w (baseOf c.sc ρ) (baseOf c.sc ρ).rho (heapOf c.heap 0) (fun i => i < c.sc.length) w := by
  have hx : ∀ i b, look (heapOf c.heap 0) i = some b → ∃ x, c.sc[i]? = some x ∧ c.heap[i]? = some b := fun i b h => by
    rw [look_heapOf, if_pos (Nat.zero_le _), Nat.sub_zero] at h
    obtain ⟨h1, _⟩ := List.getElem?_eq_some_iff.1 h
    rw [hc.len] at h1
    exact ⟨c.sc[i], List.getElem?_eq_getElem h1, h⟩
  have hr : ∀ i x, c.sc[i]? = some x → (baseOf c.sc ρ).rho i = x.den ρ := fun i x h => by simp only [baseOf, h]
  exact {
    one := fun i => by
      cases h : c.sc[i]? with
      | none => simp only [baseOf, h]; rfl
      | some x =>
        rw [hr i x h]
        obtain ⟨h1, _⟩ := List.getElem?_eq_some_iff.1 h
        rw [← hc.len] at h1
        exact (hc.blk i x _ h (List.getElem?_eq_getElem h1)).2.2.2
    ok := fun i b h => by
      obtain ⟨x, h1, h2⟩ := hx i b h
      obtain ⟨g1, g2, g3, g4⟩ := hc.blk i x b h1 h2
      rw [hr i x h1]
      exact ⟨(List.getElem?_eq_some_iff.1 h1).1, Blk.flat_ok g2 _ g3, Blk.flat_stb g2 _ _⟩
    sep := fun i b j c' h _ _ ho => by
      obtain ⟨x, h1, h2⟩ := hx i b h
      rw [(hc.blk i x b h1 h2).1] at ho; cases ho
    wr := fun i b x h ho => by
      obtain ⟨x, h1, h2⟩ := hx i b h
      rw [(hc.blk i x b h1 h2).1] at ho; cases ho
    frame := fun _ _ _ => rfl
    os := rfl
    tape := rfl
    output := rfl
    size := Nat.le_refl _
    ag := Agree.refl _ _
    inn := fun _ h => h }

/-- A FUNCTION THAT READS BLOCKS AND MAKES NEW ONES keeps its contract -/
theorem callOK_heap (hT : TOK P T) (hC : COK P C) (hm : P.follows .mixedOrders = true) {f : Nat} {fn : Func} (hf : P.funcs[f]? = some fn) (hn : fn.body.isNone = false) (hnm : (fn.name == "runtime.NumGoroutine") = false)
    {ds : List PD} {g : List CV → List Blk → Option LR} (hN : ds.length ≤ fn.ntmps) {un : Md}
    (hrun : ∀ (w : World) (Wr : Base) (args : List CV) (bs : List Blk) (r : LR), g args bs = some r → (∀ b, b ∈ r.ob → b = true) → (∀ i, Wr.ids i → i < bs.length) →
      ∀ (A : Alg) (L : Code → St → (Exit → St → Prop) → Prop) (k : XV → Heap → Prop), A = stdA → (∀ c s k, LoopP P (cx0 fn.ntmps T C) w Wr c s k → L c s k) → (∀ v h, Good bs.length r v h → k v h) →
        runF ⟨0, A, T, C, un, L⟩ fn args (heapOf bs 0) bs.length k) : CallOK P f (heapSem ds stdA g) where
  enters args w := by
    unfold callFunc
    simp only [Sem.run_bind, run_program, Result.andThen_ok, hf]
    rw [if_neg (by rw [hnm]; simp), if_neg (by rw [hn]; simp)]
    rfl
  calls n m args h r hlt hr hob w0 Wr ρ w hs hargs := by
    unfold heapSem at hr
    split at hr
    · rename_i c hcan
      split at hr
      · rename_i rr hg
        split at hr
        · rename_i hnew
          split at hr
          · rename_i o y hy
            simp only [Option.some.injEq] at hr
            subst hr
            have ho1 : ∀ b, b ∈ c.ob → b = true := fun b hb => hob b (by simp [hb])
            have ho2 : ∀ b, b ∈ rr.ob → b = true := fun b hb => hob b (by simp [hb])
            have ho3 : ∀ b, b ∈ o → b = true := fun b hb => hob b (by simp [hb])
            have hc := canon_sound rfl hs hcan ho1
            have hlen := canon_length hcan
            have hentry := HS.enter hc
            have hr0 : ∀ i x, c.sc[i]? = some x → (baseOf c.sc ρ).rho i = x.den ρ := fun i x h => by simp only [baseOf, h]
            have hcall := fn_calls (un := un) hT hC hm hf hentry (fun v hv => (hc.stb v hv _).mono fun i hi => by omega) (fun i hi => by rw [hc.len]; exact hi) (by rw [hlen]; exact hN) (R := Good c.heap.length rr)
              (hrun w (baseOf c.sc ρ) c.args c.heap rr hg ho2 (fun i hi => by rw [hc.len]; exact hi))
            rw [hc.args _ (fun i x hx => by rw [Nat.zero_add]; exact hr0 i x hx)] at hcall
            refine hcall.mono fun e w' ⟨v, ρ2, n2, h2, hgood, he, hst, hs2⟩ => ?_
            obtain ⟨τ, t1, t2, t3, t4⟩ := hgood.ex
            have hb := hs2.toBelow fun x hx => hx
            have hq : c.heap.length = c.sc.length := hc.len
            rw [hq] at t3
            let ρ3 : Rho := fun i => if m ≤ i ∧ i < m + rr.new.length then ρ2 (τ.getD (i - m) 0) else ρ i
            have hag : Agree n ρ ρ3 := fun i hi => by have := hlt i hi; show ite _ _ _ = _; rw [if_neg (by omega)]
            have hold : ∀ i, n i → ρ3 i = ρ i := fun i hi => hag i hi
            have hnewr : ∀ q, q < rr.new.length → ρ3 (m + q) = ρ2 (τ.getD q 0) := fun q hq => by
              show ite _ _ _ = _
              rw [if_pos ⟨by omega, by omega⟩, show m + q - m = q from by omega]
            obtain ⟨y1, y2⟩ := renX_sound (ρ2 := ρ2) (ρ3 := ρ3) (f := lf c.sc.length τ) (n := n) (q := c.sc.length) rfl (fun j x hx => by
                have hj := (List.getElem?_eq_some_iff.1 hx).1
                simp only [lf, if_pos hj]
                rw [hs2.ag j hj, hr0 j x hx]) (fun j h1 h2 => by
                rw [hnewr _ (by omega)]
                simp only [lf, if_neg (show ¬ j < c.sc.length by omega)]) hag hc.scs hy ho3
            have hτ : ∀ q b, rr.new[q]? = some b → ∃ t, τ[q]? = some t ∧ τ.getD q 0 = t ∧ ∃ b', look h2 t = some b' ∧ BlkLe b' b := fun q b hb => by
              have h1 := (List.getElem?_eq_some_iff.1 hb).1
              rw [← t1] at h1
              refine ⟨τ[q], List.getElem?_eq_getElem h1, by simp [List.getD, List.getElem?_eq_getElem h1], t4 q _ b (List.getElem?_eq_getElem h1) hb⟩
            have hlook : ∀ i b, look (addH h m rr.new) i = some b → (∃ q, i = m + q ∧ q < rr.new.length ∧ rr.new[q]? = some b) ∨ (¬ (m ≤ i ∧ i < m + rr.new.length) ∧ look h i = some b) := fun i b hb => by
              rw [look_addH] at hb
              split at hb
              · rename_i hi; exact .inl ⟨i - m, by omega, by omega, hb⟩
              · rename_i hi; exact .inr ⟨hi, hb⟩
            have hfresh : ∀ q b x, rr.new[q]? = some b → blkOf (ρ3 (m + q)) = some x → w.heap.size ≤ x := fun q b x hb hx => by
              obtain ⟨t, g1, g2, b', g3, g4⟩ := hτ q b hb
              rw [hnewr q (List.getElem?_eq_some_iff.1 hb).1, g2] at hx
              rcases hs2.wr t b' x g3 (by rw [g4.own]; exact (okNew_mem hnew b (List.mem_of_getElem? hb)).1) hx with h | h
              · exact h
              · exact h.elim
            have holdx : ∀ i b x, look h i = some b → blkOf (ρ i) = some x → x < w.heap.size := fun i b x hb hx => Blk.block (hs.ok i b hb).2.1 hx
            refine ⟨v.den ρ2, he, ρ3, hag, by rw [t3, y1], y2, ?_, fun _ => hb, fun _ i x g1 g2 hx => .inl ?_⟩
            · refine { one := fun i => ?_, ok := fun i b hl => ?_, sep := fun i b j b2 hi hj hij ho x hx hx2 => ?_, wr := fun i b x hi ho hx => ?_, frame := fun x h1 h2 => ?_, os := hb.os.trans hs.os, tape := hb.tape.trans hs.tape, output := hb.output.trans hs.output, size := Nat.le_trans hs.size hb.size, ag := hs.ag.trans hag hs.inn, inn := fun i hi => .inl (hs.inn i hi) }
              · show (ite _ _ _ : Value).oneCell' = true
                split
                · exact hs2.one _
                · exact hs.one _
              · rcases hlook i b hl with ⟨q, rfl, hq, hb2⟩ | ⟨hi, hl⟩
                · obtain ⟨t, g1, g2, b', g3, g4⟩ := hτ q b hb2
                  obtain ⟨g5, g6⟩ := okNew_mem hnew b (List.mem_of_getElem? hb2)
                  rw [hnewr q hq, g2]
                  exact ⟨show addI n m rr.new.length _ from .inr ⟨by omega, by omega⟩, Blk.flat_ok g6 _ (g4.ok (hs2.ok t b' g3).2.1), Blk.flat_stb g6 _ _⟩
                · obtain ⟨g1, g2, g3⟩ := hs.ok i b hl
                  rw [hold i g1]
                  exact ⟨.inl g1, Blk.ok_move g3 hag (Blk.ok_of_block hb.size (fun x hx => hb.block x (Blk.block g2 hx)) g2), Blk.stb_move g3 hag fun _ hi => .inl hi⟩
              · rcases hlook i b hi with ⟨q, rfl, hq, hb2⟩ | ⟨hi, hl⟩
                · have hx3 := hfresh q b x hb2 hx
                  rcases hlook j b2 hj with ⟨q', rfl, hq', hb3⟩ | ⟨hj, hl'⟩
                  · obtain ⟨t, g1, g2, b', g3, g4⟩ := hτ q b hb2
                    obtain ⟨t', g1', g2', b'', g3', g4'⟩ := hτ q' b2 hb3
                    rw [hnewr q hq, g2] at hx
                    rw [hnewr q' hq', g2'] at hx2
                    have hne : t ≠ t' := fun e => by
                      subst e
                      have hq1 : q < τ.length := by omega
                      have hq2 : q' < τ.length := by omega
                      have e1 : τ[q] = τ[q'] := by
                        rw [List.getElem?_eq_getElem hq1] at g1
                        rw [List.getElem?_eq_getElem hq2] at g1'
                        simp only [Option.some.injEq] at g1 g1'
                        rw [g1, g1']
                      have := nodup_inj t2 hq1 hq2 e1
                      omega
                    exact hs2.sep t b' t' b'' g3 g3' hne (by rw [g4.own]; exact ho) x hx hx2
                  · rw [hold j (hs.ok j b2 hl').1] at hx2
                    have := holdx j b2 x hl' hx2
                    omega
                · have h1 := (hs.ok i b hl).1
                  rw [hold i h1] at hx
                  have hx3 := holdx i b x hl hx
                  rcases hlook j b2 hj with ⟨q', rfl, hq', hb3⟩ | ⟨hj, hl'⟩
                  · have := hfresh q' b2 x hb3 hx2
                    omega
                  · rw [hold j (hs.ok j b2 hl').1] at hx2
                    exact hs.sep i b j b2 hl hl' hij ho x hx hx2
              · rcases hlook i b hi with ⟨q, rfl, hq, hb2⟩ | ⟨hi, hl⟩
                · have := hfresh q b x hb2 hx
                  have := hs.size
                  exact .inl (by omega)
                · rw [hold i (hs.ok i b hl).1] at hx
                  exact hs.wr i b x hl ho hx
              · rw [hb.block x (Nat.lt_of_lt_of_le h1 hs.size)]
                exact hs.frame x h1 h2
            · have : ∃ b, rr.new[i - m]? = some b := ⟨_, List.getElem?_eq_getElem (by simp only at g2; omega)⟩
              obtain ⟨b, hb2⟩ := this
              exact hfresh (i - m) b x hb2 (by rw [show m + (i - m) = i from by omega]; exact hx)
          · simp at hr
        · simp at hr
      · simp at hr
    · simp at hr

end
end Go.Eng
