/- The engine, part H: new blocks, stores: what becomes of what is known. -/
import Derived.Test.YtmajpppjakdodaaEngG
import Derived.Deep.Upon
set_option linter.all false
set_option exponentiation.threshold 3000
namespace Go.Eng

/-- the world is as it was, but for blocks of S -/
structure But (S : Nat → Prop) (w w' : World) : Prop where
  os : w'.os = w.os
  tape : w'.tape = w.tape
  output : w'.output = w.output
  size : w.heap.size ≤ w'.heap.size
  block : ∀ x, x < w.heap.size → ¬ S x → w'.heap[x]? = w.heap[x]?

theorem But.below {S : Nat → Prop} {w w' : World} (h : But S w w') (hS : ∀ x, ¬ S x) : RowKit.Below w.heap.size w w' := ⟨h.os, h.tape, h.output, h.size, fun x hx => h.block x hx (hS x)⟩
theorem But.of {S : Nat → Prop} {w w' : World} (h : RowKit.Below w.heap.size w w') : But S w w' := ⟨h.os, h.tape, h.output, h.size, fun x hx _ => h.block x hx⟩
theorem But.mono {S T : Nat → Prop} {w w' : World} (h : But S w w') (hS : ∀ x, S x → T x) : But T w w' := ⟨h.os, h.tape, h.output, h.size, fun x hx hn => h.block x hx fun hs => hn (hS x hs)⟩

/-- the blocks of handles that are written -/
def wblk (ρ : Rho) (wr : Heap) : Nat → Prop := fun x => ∃ i b, (i, b) ∈ wr ∧ blkOf (ρ i) = some x
theorem wblk_nil {ρ : Rho} (x : Nat) : ¬ wblk ρ [] x := fun ⟨_, _, h, _⟩ => by simp at h

theorem Blk.live_own {b : Blk} (h : b.own = true) : b.live = true := by cases b <;> first | rfl | cases h

/-- what a step with its result has done: the handles of old stand for what they did; the result; the blocks; m: the first new handle -/
def Did (w0 : World) (Wr : Base) (ρ : Rho) (h : Heap) (n : Ids) (m : Nat) (w : World) (r : FR) (v : Value) (w' : World) : Prop :=
  ∃ ρ', Agree n ρ ρ' ∧ v = r.val.den ρ' ∧ StbX (addI n m r.new.length) ρ' r.val ∧ HS w0 Wr ρ' (addH (allH h r.wr) m r.new) (addI n m r.new.length) w' ∧
    But (wblk ρ r.wr) w w' ∧ (∀ i x, m ≤ i → i < m + r.new.length → blkOf (ρ' i) = some x → w.heap.size ≤ x ∨ wblk ρ r.wr x ∨
      ∃ q b k c, i = m + q ∧ r.new[q]? = some b ∧ b.own = false ∧ look h k = some c ∧ c.own = false ∧ c.live = true ∧ blkOf (ρ k) = some x)

section
variable {P : Program} {K : Cx} {w0 : World} {Wr : Base} {ρ : Rho} {h : Heap} {n : Ids} {m : Nat} {w : World}

def upd (ρ : Rho) (n : Nat) (v : Value) : Rho := fun i => if i = n then v else ρ i

theorem agree_upd (ρ : Rho) (hm : ∀ i, n i → i < m) (v : Value) : Agree n ρ (upd ρ m v) := fun i hi => by have := hm i hi; unfold upd; rw [if_neg (by omega)]

theorem upd_same (ρ : Rho) (n : Nat) (v : Value) : upd ρ n v n = v := by simp [upd]

theorem addI_one {i : Nat} (h : addI n m 1 i) : n i ∨ i = m := by
  rcases h with h | h
  · exact .inl h
  · exact .inr (by omega)

theorem addI_old {k i : Nat} (h : n i) : addI n m k i := .inl h
theorem addI_zero {i : Nat} : addI n m 0 i ↔ n i := ⟨fun h => by rcases h with h | h; exact h; omega, .inl⟩

/-- the same heap, in a world that has the blocks of old as they were -/
theorem HS.below (hs : HS w0 Wr ρ h n w) {w' : World} (hb : RowKit.Below w.heap.size w w') : HS w0 Wr ρ h n w' where
  one := hs.one
  ok id b hl := by
    obtain ⟨h1, h2, h3⟩ := hs.ok id b hl
    exact ⟨h1, Blk.ok_of_block hb.size (fun x hx => hb.block x (Blk.block h2 hx)) h2, h3⟩
  sep := hs.sep
  wr := hs.wr
  org := hs.org
  frame x hx hn := (hb.block x (by have := hs.size; omega)).trans (hs.frame x hx hn)
  os := hb.os.trans hs.os
  tape := hb.tape.trans hs.tape
  output := hb.output.trans hs.output
  size := by have := hs.size; have := hb.size; omega
  ag := hs.ag
  inn := hs.inn

/-- a new handle, of a block that no other one speaks of -/
theorem HS.newG (hs : HS w0 Wr ρ h n w) (hm : ∀ i, n i → i < m) {v : Value} {k : Blk} (hv : v.oneCell' = true) (hk : k.ok w v (upd ρ m v)) (hstb : k.stb (addI n m 1) (upd ρ m v))
    (hnew : ∀ x, blkOf v = some x → (∀ j c, look h j = some c → c.live = true → blkOf (ρ j) ≠ some x) ∧ (w0.heap.size ≤ x ∨ Wr.wr x)) : HS w0 Wr (upd ρ m v) ((m, k) :: h) (addI n m 1) w where
  one i := by unfold upd; split; exact hv; exact hs.one i
  ok id b hl := by
    simp only [look] at hl
    split at hl
    · rename_i hid
      simp only [beq_iff_eq] at hid
      simp only [Option.some.injEq] at hl
      subst hl hid
      rw [upd_same]
      exact ⟨.inr (by omega), hk, hstb⟩
    · rename_i hid
      simp only [beq_iff_eq] at hid
      obtain ⟨h1, h2, h3⟩ := hs.ok id b hl
      have e : upd ρ m v id = ρ id := by unfold upd; rw [if_neg (fun e => hid e.symm)]
      rw [e]
      exact ⟨.inl h1, Blk.ok_move h3 (agree_upd ρ hm v) h2, Blk.stb_move h3 (agree_upd ρ hm v) fun _ => addI_old⟩
  sep i b j c hi hj hij hown hlive x hx := by
    simp only [look] at hi hj
    have ne : ∀ {id : Nat}, ¬ (m == id) = true → upd ρ m v id = ρ id := fun hid => by
      unfold upd; rw [if_neg (fun e => hid (by simp [e]))]
    split at hi
    · rename_i hni
      simp only [beq_iff_eq] at hni
      subst hni
      rw [upd_same] at hx
      split at hj
      · rename_i hnj; simp only [beq_iff_eq] at hnj; exact absurd hnj hij
      · rename_i hnj
        rw [ne hnj]
        exact (hnew x hx).1 j c hj hlive
    · rename_i hni
      rw [ne hni] at hx
      split at hj
      · rename_i hnj
        simp only [beq_iff_eq] at hnj
        subst hnj
        rw [upd_same]
        intro hxj
        exact (hnew x hxj).1 i b hi (Blk.live_own hown) hx
      · rename_i hnj
        rw [ne hnj]
        exact hs.sep i b j c hi hj hij hown hlive x hx
  wr i b x hi hown hx := by
    simp only [look] at hi
    split at hi
    · rename_i hni
      simp only [beq_iff_eq] at hni
      subst hni
      rw [upd_same] at hx
      exact (hnew x hx).2
    · rename_i hni
      have e : upd ρ m v i = ρ i := by unfold upd; rw [if_neg (fun e => hni (by simp [e]))]
      rw [e] at hx
      exact hs.wr i b x hi hown hx
  org i b x hi hlive hx := by
    simp only [look] at hi
    split at hi
    · rename_i hni
      simp only [beq_iff_eq] at hni
      subst hni
      rw [upd_same] at hx
      rcases (hnew x hx).2 with h | h
      · exact .inl h
      · exact .inr (.inl h)
    · rename_i hni
      have e : upd ρ m v i = ρ i := by unfold upd; rw [if_neg (fun e => hni (by simp [e]))]
      rw [e] at hx
      exact hs.org i b x hi hlive hx
  frame := hs.frame
  os := hs.os
  tape := hs.tape
  output := hs.output
  size := hs.size
  ag := hs.ag.trans (agree_upd ρ hm v) hs.inn
  inn := fun i hi => .inl (hs.inn i hi)

/-- a new block and its handle -/
theorem HS.new (hs : HS w0 Wr ρ h n w) (hm : ∀ i, n i → i < m) {w' : World} (hb : RowKit.Below w.heap.size w w') {v : Value} {k : Blk} (hv : v.oneCell' = true) (hk : k.ok w' v (upd ρ m v)) (hstb : k.stb (addI n m 1) (upd ρ m v))
    (hnew : ∀ x, blkOf v = some x → w.heap.size ≤ x) : HS w0 Wr (upd ρ m v) ((m, k) :: h) (addI n m 1) w' :=
  (hs.below hb).newG hm hv hk hstb fun x hx => ⟨fun j c hj _ hxj => by
    have := Blk.block (hs.ok j c hj).2.1 hxj
    have := hnew x hx
    omega, .inl (Nat.le_trans hs.size (hnew x hx))⟩

/-- an own block written: the others stand -/
theorem HS.write (hs : HS w0 Wr ρ h n w) {w' : World} {id b : Nat} {k k' : Blk} (hl : look h id = some k) (hown : k.own = true) (hbo : blkOf (ρ id) = some b)
    (hblk : ∀ x, x ≠ b → w'.heap[x]? = w.heap[x]?) (hsz : w'.heap.size = w.heap.size) (hos : w'.os = w.os) (htape : w'.tape = w.tape) (hout : w'.output = w.output)
    (hk : k'.ok w' (ρ id) ρ) (hstb : k'.stb n ρ) : HS w0 Wr ρ (setH h id k') n w' where
  one := hs.one
  ok i c hi := by
    rw [look_setH] at hi
    split at hi
    · rename_i he
      subst he
      rw [hl] at hi
      simp only [Option.map_some, Option.some.injEq] at hi
      subst hi
      exact ⟨(hs.ok i k hl).1, hk, hstb⟩
    · rename_i hne
      obtain ⟨h1, h2, h3⟩ := hs.ok i c hi
      by_cases hlv : c.live = true
      · refine ⟨h1, Blk.ok_of_block (by omega) (fun x hx => hblk x fun e => ?_) h2, h3⟩
        subst e
        exact hs.sep id k i c hl hi (fun e => hne e.symm) hown hlv x hbo hx
      · cases c with
        | gone => exact ⟨h1, fun x hx => by have : x < w.heap.size := h2 x hx; omega, h3⟩
        | fix => exact absurd rfl hlv
        | vec => exact absurd rfl hlv
  sep i c j d hi hj hij ho hlv x hx := by
    rw [look_setH] at hi hj
    have hi' : ∃ c', look h i = some c' ∧ c'.own = true := by
      split at hi
      · rename_i he; subst he; exact ⟨k, hl, hown⟩
      · exact ⟨c, hi, ho⟩
    have hj' : ∃ d', look h j = some d' ∧ d'.live = true := by
      split at hj
      · rename_i he; subst he; exact ⟨k, hl, Blk.live_own hown⟩
      · exact ⟨d, hj, hlv⟩
    obtain ⟨c', hc', hco⟩ := hi'
    obtain ⟨d', hd', hdl⟩ := hj'
    exact hs.sep i c' j d' hc' hd' hij hco hdl x hx
  wr i c x hi ho hx := by
    rw [look_setH] at hi
    split at hi
    · rename_i he; subst he; exact hs.wr i k x hl hown hx
    · exact hs.wr i c x hi ho hx
  org i c x hi ho hx := by
    rw [look_setH] at hi
    split at hi
    · rename_i he; subst he; exact hs.org i k x hl (Blk.live_own hown) hx
    · exact hs.org i c x hi ho hx
  frame x hx hn := by
    have hne : x ≠ b := fun e => by
      subst e
      rcases hs.wr id k x hl hown hbo with h1 | h1
      · omega
      · exact hn h1
    rw [hblk x hne]
    exact hs.frame x hx hn
  os := hos.trans hs.os
  tape := htape.trans hs.tape
  output := hout.trans hs.output
  size := by rw [hsz]; exact hs.size
  ag := hs.ag
  inn := hs.inn

theorem setCells_far {g : Nat} : ∀ (vs : List Value) (o : Nat) {w : World} (k : Nat), k ≠ g → (w.setCells g o vs).heap[k]? = w.heap[k]?
  | [], _, _, _, _ => rfl
  | v :: vs, o, w, k, h => by
    simp only [World.setCells]
    rw [setCells_far vs (o + 1) k h]
    exact RowKit.Below.heap_setCell w ⟨g, o, none⟩ v k (fun e => h e)

theorem setCells_same (g : Nat) : ∀ (vs : List Value) (o : Nat) (w : World), (w.setCells g o vs).os = w.os ∧ (w.setCells g o vs).tape = w.tape ∧ (w.setCells g o vs).output = w.output ∧ (w.setCells g o vs).heap.size = w.heap.size
  | [], _, _ => ⟨rfl, rfl, rfl, rfl⟩
  | v :: vs, o, w => by
    obtain ⟨h1, h2, h3, h4⟩ := setCells_same g vs (o + 1) (w.setCell ⟨g, o, none⟩ v)
    exact ⟨h1, h2, h3, by simpa [World.setCells] using h4⟩

/-- the cells of a range, a part of them written -/
theorem rangeAt_splice {b o : Nat} {cs : List Value} (hc : w.rangeAt b o cs) (ht : w.there b o cs.length) {off : Nat} {new : List Value} (hle : off + new.length ≤ cs.length) :
    (w.setCells b (o + off) new).rangeAt b o (cs.take off ++ (new ++ cs.drop (off + new.length))) := by
  intro j v hv
  have hsome : ∀ j, j < new.length → (w.cell? ⟨b, o + off + j, none⟩).isSome = true := fun j hj => by
    have := (ht (off + j) (by omega)).1
    rwa [← Nat.add_assoc] at this
  by_cases h1 : j < off
  · rw [List.getElem?_append_left (by simp; omega), List.getElem?_take, if_pos h1] at hv
    rw [World.cell?_setCells_out b new (o + off) w ⟨b, o + j, none⟩ (fun _ _ => .inl (by simp; omega))]
    exact hc j v hv
  · rw [List.getElem?_append_right (by simp; omega)] at hv
    have hlen : (cs.take off).length = off := by simp; omega
    rw [hlen] at hv
    by_cases h2 : j < off + new.length
    · rw [List.getElem?_append_left (by omega)] at hv
      have := World.cell?_setCells_in b new (o + off) w hsome (j - off) (by omega)
      rw [show o + j = o + off + (j - off) from by omega, this]
      rw [← hv]
      simp [show j - off < new.length from by omega]
    · rw [List.getElem?_append_right (by omega), List.getElem?_drop] at hv
      rw [World.cell?_setCells_out b new (o + off) w ⟨b, o + j, none⟩ (fun _ _ => .inr (by simp; omega))]
      exact hc j v (by rw [← hv]; congr 1; omega)

theorem run_newVar' (t : Nat) (v : Value) : (newVar t v).run P w = .ok ⟨w.heap.size, 0, none⟩ (w.alloc (.cells v.cells t)) := by
  simp [newVar, newRow]

theorem below_alloc (o : Obj) : RowKit.Below w.heap.size w (w.alloc o) := (RowKit.Below.refl _ _).alloc (Nat.le_refl _) o

theorem fix_alloc {l : List At} {t : Nat} {ρ' : Rho} (hl : flats ρ' l = flats ρ l) : (Blk.fix true l).ok (w.alloc (.cells (flats ρ l).toArray t)) (.pointer (some ⟨w.heap.size, 0, none⟩)) ρ' := by
  refine ⟨w.heap.size, 0, rfl, by simp, ?_, fun _ j hj => ?_⟩
  · intro j v hv
    rw [hl] at hv
    simp only [Nat.zero_add]
    rw [World.cell?_alloc_new]
    simpa using hv
  · simp only [Nat.zero_add]
    rw [World.cell?_alloc_new]
    constructor
    · simp [hj]
    · simp [World.frozen?, -World.alloc_eq, World.alloc]

/-- a new variable -/
theorem new_Did (hs : HS w0 Wr ρ h n w) (hm : ∀ i, n i → i < m) {l : List At} {t : Nat} (hl : StbL n ρ l) :
    Did w0 Wr ρ h n m w ⟨[], .c (.s (.hp m 0)), [.fix true l], []⟩ (.pointer (some ⟨w.heap.size, 0, none⟩)) (w.alloc (.cells (flats ρ l).toArray t)) := by
  refine ⟨upd ρ m (.pointer (some ⟨w.heap.size, 0, none⟩)), agree_upd _ hm _, ?_, fun ρ' ha => ?_, ?_, But.of (below_alloc _), fun i x h1 h2 hx => .inl ?_⟩
  · show _ = addOff (upd ρ m _ m) 0
    rw [upd_same]; simp [addOff, Addr.add]
  · show addOff (ρ' m) 0 = addOff (upd ρ m _ m) 0
    rw [ha m (.inr ⟨Nat.le_refl _, by simp⟩)]
  · refine hs.new hm (below_alloc _) rfl (fix_alloc (hl _ (agree_upd _ hm _))) ?_ (fun x hx => by simp [blkOf] at hx; omega)
    exact StbL.mono (StbL.move hl (agree_upd _ hm _)) fun _ => addI_old
  · simp only [List.length_cons, List.length_nil] at h2
    have : i = m := by omega
    subst this
    rw [upd_same] at hx
    simp [blkOf] at hx; omega

theorem addH_nil (h : Heap) (n : Nat) : addH h n [] = h := rfl

theorem HS.addI0 (hs : HS w0 Wr ρ h n w) : HS w0 Wr ρ h (addI n m 0) w where
  one := hs.one
  ok id b hl := by obtain ⟨h1, h2, h3⟩ := hs.ok id b hl; exact ⟨.inl h1, h2, Blk.stb_move h3 (Agree.refl _ _) fun _ => addI_old⟩
  sep := hs.sep
  wr := hs.wr
  org := hs.org
  frame := hs.frame
  os := hs.os
  tape := hs.tape
  output := hs.output
  size := hs.size
  ag := hs.ag
  inn := fun i hi => .inl (hs.inn i hi)

theorem write_Did (hs : HS w0 Wr ρ h n w) {w' : World} {id b : Nat} {k k' : Blk} (hl : look h id = some k) (hown : k.own = true) (hbo : blkOf (ρ id) = some b)
    (hblk : ∀ x, x ≠ b → w'.heap[x]? = w.heap[x]?) (hsz : w'.heap.size = w.heap.size) (hos : w'.os = w.os) (htape : w'.tape = w.tape) (hout : w'.output = w.output)
    (hk : k'.ok w' (ρ id) ρ) (hstb : k'.stb n ρ) {ob : List Bool} :
    Did w0 Wr ρ h n m w ⟨ob, .c (.s .un), [], [(id, k')]⟩ undef w' :=
  ⟨ρ, Agree.refl _ _, rfl, fun _ _ => rfl, (hs.write hl hown hbo hblk hsz hos htape hout hk hstb).addI0, ⟨hos, htape, hout, Nat.le_of_eq hsz.symm, fun x _ hn => hblk x fun e => hn ⟨id, k', List.mem_cons_self .., by rw [hbo, e]⟩⟩, fun i x h1 h2 => by simp at h2; omega⟩

/-- 'storeAt', whatever the type, into cells that may be written -/
theorem storeAt_sound {t : Nat} {i : TI} (ht : TyOK P t i) {b o : Nat} {v : CV} (h1 : ∀ i, (ρ i).oneCell' = true) (hn : noUn v.atoms = true) (hsz : sizes v.atoms = i.size) (hth : w.there b o i.size) :
    (Instr.storeAt t (.pointer (some ⟨b, o, none⟩)) (v.den ρ)).run P w = .ok () (w.setCells b o (flats ρ v.atoms)) := by
  have hc := den_cells h1 hn
  have hone := noUn_one h1 hn
  have hrun := run_storeCells_cells (P := P) b o (flats ρ v.atoms) 0 w (fun j hj => by simpa using (hth j (by simp at hj; omega)).1) (fun j hj => by simpa using (hth j (by simp at hj; omega)).2) hone
  simp only [Nat.add_zero] at hrun
  simp only [Instr.storeAt, Instr.sureAddr, Sem.run_bind, Sem.run_pure, Result.andThen_ok]
  unfold storeVar
  rw [Sem.run_bind, run_sizeOf' ht.size]
  simp [hc, hsz, hrun]

theorem list_set_mid {α : Type} (l : List α) (off k : Nat) (m : List α) (v : α) (hk : k < m.length) (hm : (l.drop off).take m.length = m) :
    l.take off ++ (m.set k v ++ l.drop (off + m.length)) = l.take (off + k) ++ ([v] ++ l.drop (off + k + 1)) := by
  have hlen : off + m.length ≤ l.length := by
    have := congrArg List.length hm
    simp at this
    omega
  apply List.ext_getElem?
  intro j
  have hmj : ∀ i, i < m.length → l[off + i]? = m[i]? := fun i hi => by
    have := congrArg (fun l => l[i]?) hm
    simp only [List.getElem?_take, hi, if_true, List.getElem?_drop] at this
    exact this
  by_cases h1 : j < off
  · rw [List.getElem?_append_left (by simp; omega), List.getElem?_append_left (by simp; omega), List.getElem?_take, List.getElem?_take, if_pos h1, if_pos (by omega)]
  · by_cases h2 : j < off + m.length
    · rw [List.getElem?_append_right (by simp; omega), List.getElem?_append_left (by simp; omega)]
      have e : j - (l.take off).length = j - off := by simp; omega
      rw [e, List.getElem?_set]
      by_cases h3 : j < off + k
      · rw [if_neg (by omega), List.getElem?_append_left (by simp; omega), List.getElem?_take, if_pos h3, ← hmj (j - off) (by omega)]
        congr 1; omega
      · by_cases h4 : j = off + k
        · subst h4
          rw [if_pos (by omega), if_pos (by omega), List.getElem?_append_right (by simp; omega)]
          have : off + k - (l.take (off + k)).length = 0 := by simp; omega
          rw [this]; rfl
        · rw [if_neg (by omega), List.getElem?_append_right (by simp; omega), List.getElem?_append_right (by simp; omega), List.getElem?_drop, ← hmj (j - off) (by omega)]
          congr 1; simp; omega
    · rw [List.getElem?_append_right (by simp; omega), List.getElem?_append_right (by simp; omega), List.getElem?_append_right (by simp; omega), List.getElem?_append_right (by simp; omega), List.getElem?_drop, List.getElem?_drop]
      congr 1; simp; omega

theorem ofInt_flats {k : IntKind} {l : List At} {e : Int} (h' : ofInt k l = some e) (ρ : Rho) : flats ρ l = [.int k e] := by
  unfold ofInt at h'
  split at h'
  · split at h'
    · rename_i hk; subst hk; simp only [Option.some.injEq] at h'; subst h'; rfl
    · simp at h'
  · split at h'
    · rename_i hk; subst hk; simp only [Option.some.injEq] at h'; subst h'; rfl
    · simp at h'
  · simp at h'

theorem AK.of_flats {k : AK} {l : List At} {e : k.ty} (h : k.of1 l = some e) (ρ : Rho) : flats ρ l = (k.at1 e).cells ρ := by
  cases k with
  | int k => exact ofInt_flats h ρ
  | bool =>
    have h' : ofBool l = some e := h
    unfold ofBool at h'
    split at h' <;> first
      | (simp only [Option.some.injEq] at h'; subst h'; rfl)
      | simp at h'
  | W =>
    have h' : ofWd l = some e := h
    unfold ofWd at h'
    split at h' <;> first
      | (simp only [Option.some.injEq] at h'; subst h'; simp [flats, AK.at1])
      | simp at h'
  | R =>
    have h' : ofRt l = some e := h
    unfold ofRt at h'
    split at h' <;> first
      | (simp only [Option.some.injEq] at h'; subst h'; simp [flats, AK.at1])
      | simp at h'
  | P =>
    have h' : ofPt l = some e := h
    unfold ofPt at h'
    split at h' <;> first
      | (simp only [Option.some.injEq] at h'; subst h'; simp [flats, AK.at1])
      | simp at h'

theorem ofRow_flats (ρ : Rho) : ∀ {ks : List AK} {l : List At} {e : rowTy ks}, ofRow ks l = some e → flats ρ l = flats ρ (rowAt ks e)
  | [], [], e, h => rfl
  | [], _ :: _, _, h => by simp [ofRow] at h
  | k :: r, l, e, h => by
    simp only [ofRow] at h
    split at h
    · rename_i m q hm hq
      split at h
      · rename_i x y hx hy
        simp only [Option.some.injEq] at h
        subst h
        obtain ⟨_, h2⟩ := takeA_flats ρ _ _ _ _ hm
        obtain ⟨_, h4⟩ := dropA_flats ρ _ _ _ _ hq
        have h5 := AK.of_flats hx ρ
        have h6 := ofRow_flats ρ hy
        rw [merge_flats] at h5
        simp only [rowAt, flats]
        rw [← h5, ← h6, h2, h4, List.take_append_drop]
      · simp at h
    · simp at h

theorem RK.of_flats {k : RK} {l : List At} {e : k.ty} (h : k.of l = some e) (ρ : Rho) : flats ρ l = flats ρ (k.at e) := by
  cases k with
  | wd =>
    have h' : ofWd l = some e := h
    unfold ofWd at h'
    split at h' <;> first
      | (simp only [Option.some.injEq] at h'; subst h'; rfl)
      | simp at h'
  | row ks => exact ofRow_flats ρ h
  | int k =>
    have h' : ofInt k l = some e := h
    unfold ofInt at h'
    split at h'
    · split at h'
      · rename_i hk; subst hk; simp only [Option.some.injEq] at h'; subst h'; rfl
      · simp at h'
    · split at h'
      · rename_i hk; subst hk; simp only [Option.some.injEq] at h'; subst h'; rfl
      · simp at h'
    · simp at h'
  | bool =>
    have h' : ofBool l = some e := h
    unfold ofBool at h'
    split at h' <;> first
      | (simp only [Option.some.injEq] at h'; subst h'; rfl)
      | simp at h'
  | rt =>
    have h' : ofRt l = some e := h
    unfold ofRt at h'
    split at h' <;> first
      | (simp only [Option.some.injEq] at h'; subst h'; rfl)
      | simp at h'
  | pt =>
    have h' : ofPt l = some e := h
    unfold ofPt at h'
    split at h' <;> first
      | (simp only [Option.some.injEq] at h'; subst h'; rfl)
      | simp at h'
  | i3 =>
    have h' : ofI3 l = some e := h
    unfold ofI3 at h'
    split at h'
    · split at h'
      · rename_i h1 h2 h3; simp only [Option.some.injEq] at h'; subst h'
        simp [RK.at, flats, At.cells, num_den h1, num_den h2, num_den h3]; exact ⟨rfl, rfl, rfl⟩
      · simp at h'
    · simp at h'

theorem RK.flat_set (k : RK) (l : List k.ty) (q : Nat) (el : k.ty) (hq : q < l.length) :
    k.flat (l.set q el) = (k.flat l).take (q * k.esz) ++ (flats (fun _ => undef) (k.at el) ++ (k.flat l).drop (q * k.esz + k.esz)) := by
  induction l generalizing q with
  | nil => simp at hq
  | cons a r ih =>
    have hl : ∀ x, (flats (fun _ => undef) (k.at x)).length = k.esz := fun x => by simp [RK.at_sizes]
    have hf : ∀ (x : k.ty) r, k.flat (x :: r) = flats (fun _ => undef) (k.at x) ++ k.flat r := fun x r => by simp [RK.flat]
    cases q with
    | zero =>
      rw [List.set_cons_zero, hf, hf]
      simp [List.drop_append, RK.at_sizes]
    | succ q =>
      rw [List.set_cons_succ, hf, hf, ih q (by simpa using hq)]
      rw [List.take_append, List.drop_append]
      have e1 : (flats (fun _ => undef) (k.at a)).take ((q + 1) * k.esz) = flats (fun _ => undef) (k.at a) := List.take_of_length_le (by rw [hl, Nat.add_mul]; omega)
      have e2 : (flats (fun _ => undef) (k.at a)).drop ((q + 1) * k.esz + k.esz) = [] := List.drop_eq_nil_of_le (by rw [hl, Nat.add_mul]; omega)
      rw [e1, e2, hl]
      rw [show (q + 1) * k.esz - k.esz = q * k.esz from by rw [Nat.add_mul]; omega, show (q + 1) * k.esz + k.esz - k.esz = q * k.esz + k.esz from by rw [Nat.add_mul]; omega]
      simp

theorem setE_cells (d e : Dg) (q y : Nat) (hq : q < 64) (hy : y < 2 ^ 32) : flats ρ [At.D (stdA.setLo d (q : Int) (y : Int)), At.D (stdA.setHi e (q : Int) (y : Int))] = (d.cells ++ e.cells).set q (.int .u32 (y : Nat)) := by
  have e1 : stdA.setLo d (q : Int) (y : Int) = if (q : Int) < 32 then d.set q y else d := rfl
  have e2 : stdA.setHi e (q : Int) (y : Int) = if (q : Int) < 32 then e else e.set (q - 32) y := rfl
  rw [e1, e2]
  simp only [flats, At.cells, List.append_nil]
  by_cases h : q < 32
  · rw [if_pos (by omega), if_pos (by omega), Dg.set_cells d q y h hy, List.set_append_left _ _ (by simpa using h)]
  · rw [if_neg (by omega), if_neg (by omega), Dg.set_cells e (q - 32) y (by omega) hy, List.set_append_right _ _ (by simp; omega)]
    simp

theorem word_store {t : Nat} {i : TI} (ty : TyOK P t i) (hs : HS w0 Wr ρ h n w) {id b o base q y : Nat} {l new m' : List At} {v : CV} {ob : List Bool} (hl : look h id = some (.fix true l)) (h1 : ρ id = .pointer (some ⟨b, o, none⟩)) (h3 : w.rangeAt b o (flats ρ l)) (hth : w.there b o (sizes l))
    (hnu : noUn v.atoms = true) (hsz : sizes v.atoms = i.size) (hfv : flats ρ v.atoms = [.int .u32 (y : Int)]) {cells : List Value} (hq : q < cells.length) (h10 : ((flats ρ l).drop base).take cells.length = cells) (h9 : base + cells.length ≤ sizes l)
    (hm : updA l base new = some m') (h6 : StbL n ρ l) (hset : flats ρ new = cells.set q (.int .u32 (y : Nat))) (hnew : ∀ ρ', flats ρ' new = flats ρ new) :
    ∃ w', (Instr.storeAt t ((Sc.pe id base 1 (q : Int) 0).den ρ) (v.den ρ)).run P w = .ok () w' ∧ Did w0 Wr ρ h n m w ⟨ob, .c (.s .un), [], [(id, .fix true m')]⟩ undef w' := by
  obtain ⟨h7, h8⟩ := updA_flats ρ hm
  have hb : b < w.heap.size := by
    obtain ⟨b', o', g1, g2, _⟩ := hs.fix hl
    rw [h1] at g1
    simp at g1
    omega
  have hi1 : i.size = 1 := by rw [← hsz, ← flats_length ρ v.atoms, hfv]; rfl
  have hden : (Sc.pe id base 1 (q : Int) 0).den ρ = .pointer (some ⟨b, o + (base + q), none⟩) := by
    simp [Sc.den, h1, addOff, Addr.add_mid]
  rw [hden]
  refine ⟨_, storeAt_sound ty hs.one hnu hsz (fun k hk => ?_), ?_⟩
  · have := hth (base + q + k) (by omega)
    rwa [← Nat.add_assoc] at this
  · rw [hfv]
    obtain ⟨e1, e2, e3, e4⟩ := setCells_same b [Value.int .u32 (y : Int)] (o + (base + q)) w
    have hsn : sizes new = cells.length := by rw [← flats_length ρ new, hset, List.length_set]
    have hfm : flats ρ m' = (flats ρ l).take (base + q) ++ ([.int .u32 (y : Int)] ++ (flats ρ l).drop (base + q + 1)) := by
      rw [h8, hset, hsn]
      exact list_set_mid (flats ρ l) base q cells (.int .u32 (y : Nat)) hq h10
    refine write_Did (k' := .fix true m') hs hl rfl (by rw [h1]; rfl) (fun x hx => setCells_far _ _ x hx) e4 e1 e2 e3 ⟨b, o, h1, by omega, ?_, fun _ => ?_⟩ (fun ρ' ha => ?_)
    · rw [hfm]
      have := rangeAt_splice h3 (by simpa using hth) (off := base + q) (new := [Value.int .u32 (y : Int)]) (by simp; omega)
      simpa using this
    · rw [updA_sizes hm]
      exact World.there_setCells hth b (o + (base + q)) _
    · rw [h8, (updA_flats ρ' hm).2, h6 ρ' ha, hnew ρ']

theorem store_Did (hA : K.A = stdA) (hT : TOK P K.T) (hs : HS w0 Wr ρ h n w) {t : Nat} {p : Sc} {v : CV} {r : FR} (hv : StbL n ρ v.atoms) (e : evStore K h t p v = some r) (hob : ∀ b, b ∈ r.ob → b = true) :
    ∃ w', (Instr.storeAt t (p.den ρ) (v.den ρ)).run P w = .ok () w' ∧ Did w0 Wr ρ h n m w r undef w' := by
  unfold evStore at e
  split at e
  · simp at e
  · rename_i i ht
    have ty := hT _ _ ht
    split at e
    · rename_i hc
      simp only [Bool.and_eq_true, beq_iff_eq] at hc
      obtain ⟨hsz, hnu⟩ := hc
      split at e
      · -- into a block
        rename_i id off
        split at e
        · rename_i l hl
          split at e
          · rename_i m' hm
            simp only [wrR, Option.some.injEq] at e
            subst e
            obtain ⟨b, o, h1, h2, h3, h4, h5, h6⟩ := hs.fix hl
            obtain ⟨h7, h8⟩ := updA_flats ρ hm
            have hth := h4 rfl
            rw [hp_den h1]
            refine ⟨_, storeAt_sound ty hs.one hnu hsz (fun j hj => ?_), ?_⟩
            · have := hth (off + j) (by omega)
              rwa [← Nat.add_assoc] at this
            · obtain ⟨g1, g2, g3, g4⟩ := setCells_same b (flats ρ v.atoms) (o + off) w
              refine write_Did (k' := .fix true m') hs hl rfl (by rw [h1]; rfl) (fun x hx => setCells_far _ _ x hx) g4 g1 g2 g3 ⟨b, o, h1, by omega, ?_, fun _ => ?_⟩ (fun ρ' ha => ?_)
              · rw [h8]
                have := rangeAt_splice h3 (by simpa using hth) (off := off) (new := flats ρ v.atoms) (by simpa using h7)
                simpa using this
              · rw [updA_sizes hm]
                exact World.there_setCells hth b (o + off) _
              · rw [h8, (updA_flats ρ' hm).2, h6 ρ' ha, hv ρ' ha]
          · simp at e
        · simp at e
      · -- a word of an array
        rename_i id base esz j off
        split at e
        · rename_i l x hl
          split at e
          · rename_i hc
            simp only [Bool.and_eq_true, beq_iff_eq, Bool.not_eq_true'] at hc
            obtain ⟨⟨⟨hc1, hc2⟩, hc3⟩, hc4⟩ := hc
            subst hc1 hc2
            split at e
            · rename_i d d' lit z hd hz
              split at e
              · rename_i m' hm
                simp only [wrR, Option.some.injEq] at e
                subst e
                rw [hA] at hm hob
                obtain ⟨b, o, h1, h2, h3, h4, h5, h6⟩ := hs.fix hl
                have g1 := cmp_le (hob _ (List.mem_cons_self ..))
                have g2 := cmp_lt (hob _ (List.mem_cons_of_mem _ (List.mem_cons_self ..)))
                have g3 := cmp_le (hob _ (List.mem_cons_of_mem _ (List.mem_cons_of_mem _ (List.mem_cons_self ..))))
                have g4 := cmp_lt (hob _ (List.mem_cons_of_mem _ (List.mem_cons_of_mem _ (List.mem_cons_of_mem _ (List.mem_cons_self ..)))))
                obtain ⟨q, rfl⟩ := Int.eq_ofNat_of_zero_le g1
                obtain ⟨y, rfl⟩ := Int.eq_ofNat_of_zero_le g3
                obtain ⟨h9, h10⟩ := atE_flats (ρ := ρ) hd
                have hfv : flats ρ (CV.s x).atoms = [.int .u32 (y : Int)] := by simp [CV.atoms, flats, At.cells, num_den hz]
                refine word_store ty hs hl h1 h3 (h4 rfl) hnu hsz hfv (cells := d.cells ++ d'.cells) (by simp; omega) (by simpa using h10) (by simpa using h9) hm h6 ?_ (fun _ => rfl)
                exact setE_cells d d' q y (by omega) (by omega)
              · simp at e
            · rename_i lit z hd hz
              split at e
              · rename_i d hd'
                split at e
                · rename_i m' hm
                  simp only [wrR, Option.some.injEq] at e
                  subst e
                  rw [hA] at hm hob
                  obtain ⟨b, o, h1, h2, h3, h4, h5, h6⟩ := hs.fix hl
                  have g1 := cmp_le (hob _ (List.mem_cons_self ..))
                  have g2 := cmp_lt (hob _ (List.mem_cons_of_mem _ (List.mem_cons_self ..)))
                  have g3 := cmp_le (hob _ (List.mem_cons_of_mem _ (List.mem_cons_of_mem _ (List.mem_cons_self ..))))
                  have g4 := cmp_lt (hob _ (List.mem_cons_of_mem _ (List.mem_cons_of_mem _ (List.mem_cons_of_mem _ (List.mem_cons_self ..)))))
                  obtain ⟨q, rfl⟩ := Int.eq_ofNat_of_zero_le g1
                  obtain ⟨y, rfl⟩ := Int.eq_ofNat_of_zero_le g3
                  obtain ⟨h9, h10⟩ := atD_flats (ρ := ρ) hd'
                  have hfv : flats ρ (CV.s x).atoms = [.int .u32 (y : Int)] := by simp [CV.atoms, flats, At.cells, num_den hz]
                  refine word_store ty hs hl h1 h3 (h4 rfl) hnu hsz hfv (cells := d.cells) (by simp; omega) (by simpa using h10) (by simpa using h9) hm h6 ?_ (fun _ => rfl)
                  have hset : stdA.setD d (q : Int) (y : Int) = d.set q y := rfl
                  rw [hset]
                  simp only [flats, At.cells, List.append_nil]
                  exact Dg.set_cells d q y (by omega) (by omega)
                · simp at e
              · simp at e
            · simp at e
          · simp at e
        · simp at e
      · -- a slice's element
        rename_i id esz j off
        split at e
        · rename_i k l hl
          split at e
          · rename_i hc
            simp only [Bool.and_eq_true, beq_iff_eq] at hc
            obtain ⟨⟨hc1, hc2⟩, hc3⟩ := hc
            subst hc1 hc2
            split at e
            · rename_i el hel
              simp only [wrR, Option.some.injEq] at e
              subst e
              rw [hA] at hob
              have g1 := cmp_le (hob _ (List.mem_cons_self ..))
              have g2 : j < (l.length : Int) := cmp_lt (hob _ (List.mem_cons_of_mem _ (List.mem_cons_self ..)))
              obtain ⟨q, rfl⟩ := Int.eq_ofNat_of_zero_le g1
              have hq : q < l.length := by omega
              obtain ⟨b, o, cap, h1, h2, h3, h4, h5, h6⟩ := hs.vecC hl (by omega)
              have hthC := h5 rfl
              have hth : w.there b o (k.esz * l.length) := fun j hj => hthC j (Nat.lt_of_lt_of_le hj (Nat.mul_le_mul_left _ h2))
              have hin : q * k.esz + k.esz ≤ k.esz * l.length := by
                have := Nat.mul_le_mul_left k.esz (show q + 1 ≤ l.length from hq)
                rw [Nat.mul_add, Nat.mul_one, Nat.mul_comm] at this
                exact this
              have hfe : flats ρ v.atoms = flats (fun _ => undef) (k.at el) := by rw [RK.of_flats hel ρ]; exact k.at_flats el _ _
              rw [ve_den h1]
              simp only [Int.toNat_natCast, Nat.add_zero]
              refine ⟨_, storeAt_sound ty hs.one hnu hsz (fun m hm => ?_), ?_⟩
              · have := hth (q * k.esz + m) (by omega)
                rwa [← Nat.add_assoc] at this
              · obtain ⟨e1, e2, e3, e4⟩ := setCells_same b (flats ρ v.atoms) (o + q * k.esz) w
                have hlen : (flats ρ v.atoms).length = k.esz := by simp [hsz, hc3]
                have hset : stdA.set l (q : Int) el = l.set q el := rfl
                refine write_Did (k' := .vec true k (K.A.set l (q : Int) el)) hs hl rfl (by rw [h1]; rfl) (fun x hx => setCells_far _ _ x hx) e4 e1 e2 e3 ⟨some ⟨b, o, none⟩, cap, ?_, ?_, b, o, rfl, by omega, ?_, fun _ => ?_⟩ trivial
                · rw [hA, hset, List.length_set]; exact h1
                · rw [hA, hset, List.length_set]; exact h2
                · rw [hA, hset, RK.flat_set k l q el hq, ← hfe]
                  have := rangeAt_splice h4 (by rw [RK.flat_length]; exact hth) (off := q * k.esz) (new := flats ρ v.atoms) (by rw [RK.flat_length, hlen]; exact hin)
                  rw [hlen] at this
                  exact this
                · exact World.there_setCells hthC b _ _
            · simp at e
          · simp at e
        · simp at e
      · simp at e
    · simp at e


theorem rowOf_sound {k : RK} : ∀ {ps : List (Nat × CV)} {j : Nat} {es : List k.ty}, rowOf k ps j = some es →
    ps.length = es.length ∧ (ps.map fun p => (p.1, p.2.den ρ)) = ((ps.map fun p => p.2.den ρ).zipIdx j).map (fun x => (x.2, x.1)) ∧ (∀ p, p ∈ ps → ∃ e, k.of p.2.atoms = some e) ∧ (ps.flatMap fun p => flats ρ p.2.atoms) = k.flat es
  | [], j, es, h => by simp only [rowOf, Option.some.injEq] at h; subst h; simp [RK.flat]
  | (i, v) :: r, j, es, h => by
    simp only [rowOf] at h
    split at h
    · rename_i hij
      simp only [beq_iff_eq] at hij
      subst hij
      split at h
      · rename_i e l he hl
        simp only [Option.some.injEq] at h
        subst h
        obtain ⟨h1, h2, h3, h4⟩ := rowOf_sound hl
        refine ⟨by simp [h1], by simp [List.zipIdx_cons, h2], fun p hp => ?_, ?_⟩
        · simp only [List.mem_cons] at hp
          rcases hp with rfl | hp
          · exact ⟨e, he⟩
          · exact h3 p hp
        · rw [List.flatMap_cons, h4]
          simp only [RK.flat, List.flatMap_cons]
          rw [RK.of_flats he ρ, k.at_flats e ρ fun _ => undef]
      · simp at h
    · simp at h

theorem noUn_append : ∀ (l m : List At), noUn (l ++ m) = (noUn l && noUn m)
  | [], _ => rfl
  | a :: r, m => by
    cases a with
    | s x => cases x <;> simp [noUn, noUn_append r m]
    | _ => simp [noUn, noUn_append r m]

theorem fold_noUn {f : At → List At → List At} (hf : ∀ a r, noUn (f a r) = true → noUn (a :: r) = true) (hc : ∀ a r q, (noUn q = true → noUn r = true) → noUn (a :: q) = true → noUn (a :: r) = true) : ∀ l, noUn (fold f l) = true → noUn l = true
  | [], h => h
  | a :: r, h => hc a r (fold f r) (fold_noUn hf hc r) (hf _ _ h)

theorem noUn_cons {a : At} {r q : List At} (hi : noUn q = true → noUn r = true) (h : noUn (a :: q) = true) : noUn (a :: r) = true := by
  cases a with
  | s x => cases x <;> first | exact hi h | cases h
  | _ => exact hi h

theorem merge_noUn {l : List At} (h : noUn (merge l) = true) : noUn l = true := by
  unfold merge at h
  refine fold_noUn (f := mcons) ?_ (fun a r q => noUn_cons) l (fold_noUn (f := mWs) ?_ (fun a r q => noUn_cons) _ (fold_noUn (f := mRs) ?_ (fun a r q => noUn_cons) _ h))
  · intro a r h; unfold mcons at h; split at h <;> first | exact h | (simpa [noUn] using h)
  · intro a r h; unfold mWs at h; split at h <;> first | exact h | (simpa [noUn] using h)
  · intro a r h; unfold mRs at h; split at h <;> first | exact h | (simpa [noUn] using h)

theorem AK.of_noUn {k : AK} {l : List At} {e : k.ty} (h : k.of1 l = some e) : noUn l = true := by
  cases k with
  | int k =>
    have h' : ofInt k l = some e := h
    unfold ofInt at h'
    split at h' <;> first | rfl | simp at h'
  | bool =>
    have h' : ofBool l = some e := h
    unfold ofBool at h'
    split at h' <;> first | rfl | simp at h'
  | W =>
    have h' : ofWd l = some e := h
    unfold ofWd at h'
    split at h' <;> first | rfl | simp at h'
  | R =>
    have h' : ofRt l = some e := h
    unfold ofRt at h'
    split at h' <;> first | rfl | simp at h'
  | P =>
    have h' : ofPt l = some e := h
    unfold ofPt at h'
    split at h' <;> first | rfl | simp at h'

theorem take_drop_noUn : ∀ (f n : Nat) (l a b : List At), takeA f n l = some a → dropA f n l = some b → noUn a = true → noUn b = true → noUn l = true
  | _, 0, l, a, b, h1, h2, _, hb => by
    simp only [dropA, Option.some.injEq] at h2; subst h2; exact hb
  | 0, _ + 1, _, _, _, h1, _, _, _ => by simp [takeA] at h1
  | _ + 1, _ + 1, [], _, _, h1, _, _, _ => by simp [takeA] at h1
  | f + 1, n + 1, x :: r, a, b, h1, h2, ha, hb => by
    simp only [takeA] at h1
    simp only [dropA] at h2
    by_cases hle : x.size ≤ n + 1
    · rw [if_pos hle] at h1 h2
      split at h1
      · rename_i l' hl'
        simp only [Option.some.injEq] at h1
        subst h1
        refine noUn_cons (q := l') (fun hq => take_drop_noUn f _ r l' b hl' h2 hq hb) ha
      · simp at h1
    · rw [if_neg hle] at h1 h2
      split at h1
      · rename_i ex hex
        simp only [hex] at h2
        have h3 := take_drop_noUn f (n + 1) (ex ++ r) a b h1 h2 ha hb
        rw [noUn_append, Bool.and_eq_true] at h3
        cases x with
        | s y => simp [At.expand] at hex
        | _ => exact h3.2
      · simp at h1

theorem ofRow_noUn : ∀ {ks : List AK} {l : List At} {e : rowTy ks}, ofRow ks l = some e → noUn l = true
  | [], [], _, _ => rfl
  | [], _ :: _, _, h => by simp [ofRow] at h
  | k :: r, l, e, h => by
    simp only [ofRow] at h
    split at h
    · rename_i m q hm hq
      split at h
      · rename_i x y hx hy
        exact take_drop_noUn _ _ _ _ _ hm hq (merge_noUn (AK.of_noUn hx)) (ofRow_noUn hy)
      · simp at h
    · simp at h

theorem RK.of_noUn {k : RK} {v : CV} {e : k.ty} (h : k.of v.atoms = some e) : noUn v.atoms = true ∧ sizes v.atoms = k.esz := by
  have hs : sizes v.atoms = k.esz := by
    rw [← flats_length rho0, RK.of_flats h, flats_length, RK.at_sizes]
  refine ⟨?_, hs⟩
  cases k with
  | wd =>
    have h' : ofWd v.atoms = some e := h
    unfold ofWd at h'
    split at h' <;> first
      | (rename_i heq; rw [heq]; rfl)
      | simp at h'
  | row ks => exact ofRow_noUn h
  | int k =>
    have h' : ofInt k v.atoms = some e := h
    unfold ofInt at h'
    split at h' <;> first
      | (rename_i heq; rw [heq]; rfl)
      | simp at h'
  | bool =>
    have h' : ofBool v.atoms = some e := h
    unfold ofBool at h'
    split at h' <;> first
      | (rename_i heq; rw [heq]; rfl)
      | simp at h'
  | rt =>
    have h' : ofRt v.atoms = some e := h
    unfold ofRt at h'
    split at h' <;> first
      | (rename_i heq; rw [heq]; rfl)
      | simp at h'
  | pt =>
    have h' : ofPt v.atoms = some e := h
    unfold ofPt at h'
    split at h' <;> first
      | (rename_i heq; rw [heq]; rfl)
      | simp at h'
  | i3 =>
    have h' : ofI3 v.atoms = some e := h
    unfold ofI3 at h'
    split at h'
    · rename_i x y z heq
      split at h'
      · rename_i h1 h2 h3
        rw [heq]
        cases x <;> simp [Sc.num] at h1
        all_goals cases y <;> simp [Sc.num] at h2
        all_goals cases z <;> simp [Sc.num] at h3
        all_goals rfl
      · simp at h'
    · simp at h'


theorem buildSlice_sound (hT : TOK P K.T) {t : Nat} {i : TI} (ht : K.T t = some i) {el esz : Nat} {k : RK} (hel : i.elem = some (el, esz, k)) (h1 : ∀ i, (ρ i).oneCell' = true)
    {ps : List (Nat × CV)} {es : List k.ty} (hes : rowOf k ps 0 = some es) {m : Nat} (hm : es.length = m) (hpos : 0 < m) (hlt : m < 1000) {parts : Array (Nat × Value)} (hpa : parts.toList = ps.map fun p => (p.1, p.2.den ρ)) :
    ∃ T, (Instr.buildSlice t m parts).run P w = .ok (.slice (some ⟨w.heap.size, 0, none⟩) m m) (w.alloc (.cells (k.flat es).toArray T)) := by
  have ty := hT _ _ ht
  obtain ⟨hu, hsz, hz, hzero0, hby, hk, hk2⟩ := ty.elem _ _ _ hel
  have hzero : ((P.info? el).bind (·.zero)).isSome = true := by
    cases hq : (P.info? el).bind (·.zero) with
    | none => simp [hq] at hzero0
    | some z => rfl
  obtain ⟨g1, g2, g3, g4⟩ := rowOf_sound (ρ := ρ) hes
  cases hie : P.info? el with
  | none => simp [hie] at hsz
  | some ie =>
    simp only [hie, Option.map_some, Option.some.injEq, Option.bind_some] at hsz hzero
    obtain ⟨z, hzz⟩ := Option.isSome_iff_exists.1 hzero
    have hprod : 0 < m * ie.size := by rw [hsz, hz]; exact Nat.mul_pos hpos hk
    have hprod2 : m * ie.size ≤ 1000 * 1000 := by rw [hsz, hz]; exact Nat.mul_le_mul (by omega) hk2
    refine ⟨el, run_buildSlice w t el m parts _ ie z hu hie hzz (by omega) (by omega) ?_⟩
    rw [hpa, g2, hsz, hz]
    rw [hsz, hz] at *
    have hlen : (ps.map fun p => p.2.den ρ).length = m := by simp [g1, hm]
    have hall : ∀ v, v ∈ (ps.map fun p => p.2.den ρ) → v.cells.size = k.esz := by
      intro v hv
      simp only [List.mem_map] at hv
      obtain ⟨p, hp, rfl⟩ := hv
      obtain ⟨e, he⟩ := g3 p hp
      obtain ⟨hn, hs⟩ := RK.of_noUn he
      rw [den_cells h1 hn]; simp [hs]
    have hfl : ((ps.map fun p => p.2.den ρ).flatMap fun v => v.cells.toList) = k.flat es := by
      rw [List.flatMap_map, ← g4]
      have hc : ∀ p, p ∈ ps → (p.2.den ρ).cells.toList = flats ρ p.2.atoms := fun p hp => by
        obtain ⟨e, he⟩ := g3 p hp
        rw [den_cells h1 (RK.of_noUn he).1]
      clear g2 g4 hall hlen g1 g3 hes hpa
      induction ps with
      | nil => rfl
      | cons p r ih => rw [List.flatMap_cons, List.flatMap_cons, hc p (List.mem_cons_self ..), ih fun q hq => hc q (List.mem_cons_of_mem _ hq)]
    rw [← hfl]
    exact Great.fill_whole hk _ _ hall (by rw [hlen]; simp)

theorem newVec_Did (hs : HS w0 Wr ρ h n w) (hm : ∀ i, n i → i < m) {k : RK} {es : List k.ty} {q T : Nat} (hq : es.length = q) :
    Did w0 Wr ρ h n m w ⟨[], .c (.s (.hs m)), [.vec true k es], []⟩ (.slice (some ⟨w.heap.size, 0, none⟩) q q) (w.alloc (.cells (k.flat es).toArray T)) := by
  subst hq
  refine ⟨upd ρ m (.slice (some ⟨w.heap.size, 0, none⟩) es.length es.length), agree_upd _ hm _, (upd_same ρ m _).symm, fun ρ' ha => ha m (.inr ⟨Nat.le_refl _, by simp⟩), ?_, But.of (below_alloc _), fun i x h1 h2 hx => .inl ?_⟩
  · refine hs.new hm (below_alloc _) rfl ⟨some ⟨w.heap.size, 0, none⟩, es.length, rfl, Nat.le_refl _, w.heap.size, 0, rfl, by simp, ?_, fun _ j hj => ?_⟩ trivial (fun x hx => by simp [blkOf] at hx; omega)
    · intro j v hv
      simp only [Nat.zero_add]
      rw [World.cell?_alloc_new]
      simpa using hv
    · simp only [Nat.zero_add]
      rw [World.cell?_alloc_new]
      constructor
      · have : j < (k.flat es).length := by rw [RK.flat_length]; exact hj
        simp [this]
      · simp [World.frozen?, -World.alloc_eq, World.alloc]
  · simp only [List.length_cons, List.length_nil] at h2
    have : i = m := by omega
    subst this
    rw [upd_same] at hx
    simp [blkOf] at hx; omega


/-- a new handle on a block that is read alone -/
theorem HS.view (hs : HS w0 Wr ρ h n w) (hm : ∀ i, n i → i < m) {id : Nat} {k0 k : Blk} {v : Value} (hl : look h id = some k0) (h0 : k0.own = false) (hl0 : k0.live = true) (hv : v.oneCell' = true) (hk : k.ok w v (upd ρ m v))
    (hstb : k.stb (addI n m 1) (upd ρ m v)) (hown : k.own = false) (hx : ∀ x, blkOf v = some x → blkOf (ρ id) = some x) : HS w0 Wr (upd ρ m v) ((m, k) :: h) (addI n m 1) w where
  one i := by unfold upd; split; exact hv; exact hs.one i
  ok i b hb := by
    simp only [look] at hb
    split at hb
    · rename_i hid
      simp only [beq_iff_eq] at hid
      simp only [Option.some.injEq] at hb
      subst hb hid
      rw [upd_same]
      exact ⟨.inr (by omega), hk, hstb⟩
    · rename_i hid
      obtain ⟨h1, h2, h3⟩ := hs.ok i b hb
      have e : upd ρ m v i = ρ i := by unfold upd; rw [if_neg (fun e => hid (by simp [e]))]
      rw [e]
      exact ⟨.inl h1, Blk.ok_move h3 (agree_upd ρ hm v) h2, Blk.stb_move h3 (agree_upd ρ hm v) fun _ => addI_old⟩
  sep i b j c hi hj hij ho hlv x hxi := by
    have ne : ∀ {id : Nat}, ¬ (m == id) = true → upd ρ m v id = ρ id := fun hid => by unfold upd; rw [if_neg (fun e => hid (by simp [e]))]
    simp only [look] at hi hj
    split at hi
    · simp only [Option.some.injEq] at hi; subst hi; rw [hown] at ho; cases ho
    · rename_i hni
      rw [ne hni] at hxi
      split at hj
      · rename_i hnj
        simp only [beq_iff_eq] at hnj
        subst hnj
        rw [upd_same]
        intro hxv
        have hne : i ≠ id := fun e => by subst e; rw [hl] at hi; simp only [Option.some.injEq] at hi; subst hi; rw [h0] at ho; cases ho
        exact hs.sep i b id k0 hi hl hne ho hl0 x hxi (hx x hxv)
      · rename_i hnj
        rw [ne hnj]
        exact hs.sep i b j c hi hj hij ho hlv x hxi
  wr i b x hi ho hxi := by
    simp only [look] at hi
    split at hi
    · simp only [Option.some.injEq] at hi; subst hi; rw [hown] at ho; cases ho
    · rename_i hni
      have e : upd ρ m v i = ρ i := by unfold upd; rw [if_neg (fun e => hni (by simp [e]))]
      rw [e] at hxi
      exact hs.wr i b x hi ho hxi
  org i b x hi hlv hxi := by
    simp only [look] at hi
    split at hi
    · rename_i hni
      simp only [beq_iff_eq] at hni
      subst hni
      rw [upd_same] at hxi
      exact hs.org id k0 x hl hl0 (hx x hxi)
    · rename_i hni
      have e : upd ρ m v i = ρ i := by unfold upd; rw [if_neg (fun e => hni (by simp [e]))]
      rw [e] at hxi
      exact hs.org i b x hi hlv hxi
  frame := hs.frame
  os := hs.os
  tape := hs.tape
  output := hs.output
  size := hs.size
  ag := hs.ag.trans (agree_upd ρ hm v) hs.inn
  inn := fun i hi => .inl (hs.inn i hi)

/-- an own block is read alone from here on -/
theorem HS.weaken (hs : HS w0 Wr ρ h n w) {id : Nat} {k k' : Blk} (hl : look h id = some k) (hlk : k.live = true) (hk : k'.ok w (ρ id) ρ) (hstb : k'.stb n ρ) (hown' : k'.own = false) : HS w0 Wr ρ (setH h id k') n w where
  one := hs.one
  ok i c hi := by
    rw [look_setH] at hi
    split at hi
    · rename_i he
      subst he
      rw [hl] at hi
      simp only [Option.map_some, Option.some.injEq] at hi
      subst hi
      exact ⟨(hs.ok i k hl).1, hk, hstb⟩
    · exact hs.ok i c hi
  sep i c j d hi hj hij ho hlv x hx := by
    rw [look_setH] at hi hj
    split at hi
    · rename_i he
      subst he
      rw [hl] at hi
      simp only [Option.map_some, Option.some.injEq] at hi
      subst hi
      rw [hown'] at ho; cases ho
    · have hj' : ∃ d', look h j = some d' ∧ d'.live = true := by
        split at hj
        · rename_i he; subst he; exact ⟨k, hl, hlk⟩
        · exact ⟨d, hj, hlv⟩
      obtain ⟨d', hd', hdl⟩ := hj'
      exact hs.sep i c j d' hi hd' hij ho hdl x hx
  wr i c x hi ho hx := by
    rw [look_setH] at hi
    split at hi
    · rename_i he
      subst he
      rw [hl] at hi
      simp only [Option.map_some, Option.some.injEq] at hi
      subst hi
      rw [hown'] at ho; cases ho
    · exact hs.wr i c x hi ho hx
  org i c x hi ho hx := by
    rw [look_setH] at hi
    split at hi
    · rename_i he; subst he; exact hs.org i k x hl hlk hx
    · exact hs.org i c x hi ho hx
  frame := hs.frame
  os := hs.os
  tape := hs.tape
  output := hs.output
  size := hs.size
  ag := hs.ag
  inn := hs.inn

end
end Go.Eng
