
import Derived.Test.YtekohdfjkmdlpaaGreatEngZA
set_option linter.all false
set_option exponentiation.threshold 3000
namespace Go.Eng
inductive DK where
  | v | vs | s (k : RK) | p (l : List DK) | f (l : List DK) | w (l : List DK) | sw (k : RK)
structure Cn where
  heap : List Blk
  sc : List Sc
  ob : List Bool
  ids : List Nat
  wi : List (Nat × Option Nat)
def Cn.rd (c : Cn) (b : Blk) (x : Sc) (ob : List Bool) (id : Nat) : Option Cn :=
  if c.wi.any (fun p => p.2 == some id) then none else some ⟨c.heap ++ [b], c.sc ++ [x], ob ++ c.ob, id :: c.ids, c.wi⟩
def Cn.rdN (c : Cn) (b : Blk) : Cn := ⟨c.heap ++ [b], c.sc ++ [.nils], c.ob, c.ids, c.wi⟩
def Cn.wrt (c : Cn) (b : Blk) (x : Sc) (id : Nat) : Option Cn :=
  if c.ids.contains id then none else some ⟨c.heap ++ [b], c.sc ++ [x], c.ob, id :: c.ids, c.wi ++ [(c.heap.length, some id)]⟩
def Cn.wrN (c : Cn) (b : Blk) : Cn := ⟨c.heap ++ [b], c.sc ++ [.nils], c.ob, c.ids, c.wi ++ [(c.heap.length, none)]⟩
def At.norm : At → At
  | .s x => .s x.norm
  | a => a
def At.flat : At → Bool
  | .s x => x.flat
  | _ => true
def capsA : List At → Option (List (Nat × Nat))
  | [] => some []
  | .s (.hp i o) :: r => match capsA r with
    | some l => some ((i, o) :: l)
    | none => none
  | _ => none
def cn1 (A : Alg) (h : Heap) (rec : List DK → List At → Cn → Option (List At × Cn)) (d : DK) (a : At) (c : Cn) : Option (At × Cn) := match d with
  | .v => if a.flat then some (a.norm, c) else none
  | .vs => none
  | .s k => match a with
    | .s .nils => some (.s (.hs c.heap.length), c.rdN (.vec false k []))
    | .s (.hs id) => match look h id with
      | some (.vec _ k' l) => match c.rd (.vec false k' l) (.hs id) [] id with
        | some c' => some (.s (.hs c.heap.length), c')
        | none => none
      | _ => none
    | .s (.hw id z lo hi) => match look h id with
      | some (.vec _ k' l) => if z == k'.esz then match c.rd (.vec false k' (A.sub l lo hi)) (.hw id z lo hi) [A.cmp .leq 0 lo, A.cmp .leq lo hi, A.cmp .leq hi (A.len l)] id with
        | some c' => some (.s (.hs c.heap.length), c')
        | none => none else none
      | _ => none
    | _ => none
  | .p ks => match a with
    | .s (.hp id off) => match look h id with
      | some (.fix _ l) => match dropA 400 off l with
        | some l' => match rec ks l' c with
          | some (m, c1) => match c1.rd (.fix false m) (.hp id off) [] id with
            | some c2 => some (.s (.hp c1.heap.length 0), c2)
            | none => none
          | none => none
        | none => none
      | _ => none
    | _ => none
  | .f ks => match a with
    | .s (.fn g caps) => match rec ks (caps.map fun c => .s (.hp c.1 c.2)) c with
      | some (m, c1) => match capsA m with
        | some cs => some (.s (.fn g cs), c1)
        | none => none
      | none => none
    | _ => none
  | .w ks => match a with
    | .s (.hp id 0) => match look h id with
      | some (.fix true l) => match rec ks l c with
        | some (m, c1) => match c1.wrt (.fix true m) (.hp id 0) id with
          | some c2 => some (.s (.hp c1.heap.length 0), c2)
          | none => none
        | none => none
      | _ => none
    | _ => none
  | .sw k => match a with
    | .s .nils => some (.s (.hs c.heap.length), c.wrN (.vec true k []))
    | .s (.hs id) => match look h id with
      | some (.vec true k' l) => match c.wrt (.vec true k' l) (.hs id) id with
        | some c' => some (.s (.hs c.heap.length), c')
        | none => none
      | _ => none
    | _ => none
def cn (A : Alg) (h : Heap) : Nat → List DK → List At → Cn → Option (List At × Cn)
  | 0, _, _, _ => none
  | n + 1, ds, as, c => match ds with
    | [] => match as with
      | [] => some ([], c)
      | _ :: _ => none
    | [.vs] => if flatL as then some (normL as, c) else none
    | d :: ds => match as with
      | [] => none
      | a :: r => match cn1 A h (cn A h n) d a c with
        | some (a', c') => match cn A h n ds r c' with
          | some (r', c'') => some (a' :: r', c'')
          | none => none
        | none => none
def cn0 : Cn := ⟨[], [], [], [], []⟩
section
variable {w0 w : World} {Wr : Base} {ρ : Rho} {h : Heap} {n : Ids}
def Fits (ρ : Rho) (c : Cn) (ρ' : Rho) : Prop := ∀ i x, c.sc[i]? = some x → ρ' i = x.den ρ
def OwnP (h : Heap) (ρ : Rho) (ids : List Nat) (x : Sc) : Option Nat → Prop
  | some id => id ∈ ids ∧ ∃ k, look h id = some k ∧ k.own = true ∧ x.den ρ = ρ id
  | none => blkOf (x.den ρ) = none
structure CnOK (w : World) (ρ : Rho) (h : Heap) (n : Ids) (c : Cn) : Prop where
  len : c.heap.length = c.sc.length
  blk : ∀ (i : Nat) (x : Sc) (b : Blk), c.sc[i]? = some x → c.heap[i]? = some b → b.live = true ∧ (∀ ρ', Fits ρ c ρ' → b.ok w (x.den ρ) ρ') ∧ (∀ ρ', b.stb (fun i => i < c.sc.length) ρ') ∧ (x.den ρ).oneCell' = true
  scs : ∀ x, x ∈ c.sc → ScOK n ρ x
  at_ : ∀ x, x ∈ c.sc → ∀ y, blkOf (x.den ρ) = some y → ∃ id k, id ∈ c.ids ∧ look h id = some k ∧ k.live = true ∧ blkOf (ρ id) = some y
  own : ∀ (i : Nat) (x : Sc) (b : Blk), c.sc[i]? = some x → c.heap[i]? = some b → b.own = true → ∃ o, (i, o) ∈ c.wi ∧ OwnP h ρ c.ids x o
  wis : ∀ q o, (q, o) ∈ c.wi → ∃ x b, c.sc[q]? = some x ∧ c.heap[q]? = some b ∧ b.own = true ∧ OwnP h ρ c.ids x o
  nod : (c.wi.filterMap (·.2)).Nodup
  idx : ownIdx c.heap 0 = c.wi.map (·.1)
  sep : ∀ (i : Nat) (x : Sc) (b : Blk) (i' : Nat) (x' : Sc), c.sc[i]? = some x → c.heap[i]? = some b → c.sc[i']? = some x' → i ≠ i' → b.own = true → ∀ y, blkOf (x.den ρ) = some y → blkOf (x'.den ρ) ≠ some y
theorem get_snoc {α : Type} {l : List α} {a x : α} {i : Nat} (h : (l ++ [a])[i]? = some x) : (i < l.length ∧ l[i]? = some x) ∨ (i = l.length ∧ a = x) := by
  by_cases hi : i < l.length
  · rw [List.getElem?_append_left hi] at h; exact .inl ⟨hi, h⟩
  · rw [List.getElem?_append_right (by omega)] at h
    have : i - l.length = 0 := by
      have := (List.getElem?_eq_some_iff.1 h).1
      simp at this; omega
    rw [this] at h
    simp at h
    exact .inr ⟨by omega, h⟩
theorem get_snocL {α : Type} {l : List α} {a x : α} {i : Nat} (h : l[i]? = some x) : (l ++ [a])[i]? = some x := by
  rw [List.getElem?_append_left (List.getElem?_eq_some_iff.1 h).1]; exact h
theorem get_last {α : Type} {l : List α} {a : α} : (l ++ [a])[l.length]? = some a := by simp
theorem ownIdx_snoc : ∀ (l : List Blk) (b : Blk) (j : Nat), ownIdx (l ++ [b]) j = ownIdx l j ++ (if b.own then [j + l.length] else [])
  | [], b, j => by simp [ownIdx]
  | a :: r, b, j => by
    have e : j + 1 + r.length = j + (a :: r).length := by simp only [List.length_cons]; omega
    simp only [List.cons_append, ownIdx, ownIdx_snoc r b (j + 1), e]
    split <;> rfl
theorem Fits.old {ρ : Rho} {c : Cn} {b : Blk} {x : Sc} {ob : List Bool} {ids : List Nat} {wi : List (Nat × Option Nat)} {ρ' : Rho} (hf : Fits ρ ⟨c.heap ++ [b], c.sc ++ [x], ob, ids, wi⟩ ρ') : Fits ρ c ρ' := fun i y hy => hf i y (get_snocL hy)
theorem OwnP.mono {h : Heap} {ρ : Rho} {ids ids' : List Nat} {x : Sc} {o : Option Nat} (hs : ∀ i, i ∈ ids → i ∈ ids') (ho : OwnP h ρ ids x o) : OwnP h ρ ids' x o := by
  cases o with
  | none => exact ho
  | some id => exact ⟨hs _ ho.1, ho.2⟩
theorem CnOK.add {c : Cn} (hc : CnOK w ρ h n c) (hs : HS w0 Wr ρ h n w) {b : Blk} {x : Sc} {ob : List Bool} {ids : List Nat} {wi : List (Nat × Option Nat)}
    (h1 : b.live = true) (h3 : ∀ ρ', Fits ρ c ρ' → b.ok w (x.den ρ) ρ') (h5 : ∀ ρ', b.stb (fun i => i < c.sc.length) ρ') (h4 : (x.den ρ).oneCell' = true) (h6 : ScOK n ρ x)
    (hids : ∀ id, id ∈ c.ids → id ∈ ids)
    (hat : ∀ z, blkOf (x.den ρ) = some z → ∃ id k, id ∈ ids ∧ look h id = some k ∧ k.live = true ∧ blkOf (ρ id) = some z ∧ ∀ q id', (q, some id') ∈ c.wi → id' ≠ id)
    (hown : (b.own = false ∧ wi = c.wi) ∨ (∃ id k, wi = c.wi ++ [(c.heap.length, some id)] ∧ look h id = some k ∧ k.own = true ∧ x.den ρ = ρ id ∧ id ∉ c.ids ∧ id ∈ ids ∧ b.own = true) ∨
      (wi = c.wi ++ [(c.heap.length, none)] ∧ blkOf (x.den ρ) = none ∧ b.own = true)) :
    CnOK w ρ h n ⟨c.heap ++ [b], c.sc ++ [x], ob, ids, wi⟩ := by
  have hl := hc.len
  have hsub : ∀ p, p ∈ c.wi → p ∈ wi := fun p hp => by
    rcases hown with ⟨_, rfl⟩ | ⟨id, k, rfl, _⟩ | ⟨rfl, _⟩
    · exact hp
    · exact List.mem_append_left _ hp
    · exact List.mem_append_left _ hp
  have hownl : b.own = true → ∃ o, (c.heap.length, o) ∈ wi ∧ OwnP h ρ ids x o := fun ho => by
    rcases hown with ⟨h0, _⟩ | ⟨id, k, rfl, g1, g2, g3, g4, g5, g6⟩ | ⟨rfl, g1, g2⟩
    · rw [h0] at ho; cases ho
    · exact ⟨some id, by simp, g5, k, g1, g2, g3⟩
    · exact ⟨none, by simp, g1⟩
  exact {
    len := by simp [hl]
    blk := fun i x' b' hx hb => by
      rcases get_snoc hx with ⟨hi, hx⟩ | ⟨hi, rfl⟩
      · rcases get_snoc hb with ⟨_, hb⟩ | ⟨hi', _⟩
        · obtain ⟨g1, g2, g3, g4⟩ := hc.blk i x' b' hx hb
          exact ⟨g1, fun ρ' hf => g2 ρ' hf.old, fun ρ' => Blk.stb_move (g3 ρ') (Agree.refl _ _) (fun i hi => by simp only [List.length_append, List.length_cons, List.length_nil]; omega), g4⟩
        · omega
      · rcases get_snoc hb with ⟨hi', _⟩ | ⟨_, rfl⟩
        · omega
        · exact ⟨h1, fun ρ' hf => h3 ρ' hf.old, fun ρ' => Blk.stb_move (h5 ρ') (Agree.refl _ _) (fun i hi => by simp only [List.length_append, List.length_cons, List.length_nil]; omega), h4⟩
    scs := fun x' hx => by
      rcases List.mem_append.1 hx with hx | hx
      · exact hc.scs x' hx
      · simp at hx; subst hx; exact h6
    at_ := fun x' hx z hz => by
      rcases List.mem_append.1 hx with hx | hx
      · obtain ⟨id, k, g1, g2⟩ := hc.at_ x' hx z hz
        exact ⟨id, k, hids id g1, g2⟩
      · simp at hx; subst hx
        obtain ⟨id, k, g1, g2, g3, g4, _⟩ := hat z hz
        exact ⟨id, k, g1, g2, g3, g4⟩
    own := fun i x' b' hx hb ho => by
      rcases get_snoc hx with ⟨hi, hx⟩ | ⟨hi, rfl⟩
      · rcases get_snoc hb with ⟨_, hb⟩ | ⟨hi', _⟩
        · obtain ⟨o, g1, g2⟩ := hc.own i x' b' hx hb ho
          exact ⟨o, hsub _ g1, g2.mono hids⟩
        · omega
      · rcases get_snoc hb with ⟨hi', _⟩ | ⟨hi', rfl⟩
        · omega
        · rw [hi']; exact hownl ho
    wis := fun q o hq => by
      have old : (q, o) ∈ c.wi → ∃ x' b', (c.sc ++ [x])[q]? = some x' ∧ (c.heap ++ [b])[q]? = some b' ∧ b'.own = true ∧ OwnP h ρ ids x' o := fun hq => by
        obtain ⟨x', b', g1, g2, g3, g4⟩ := hc.wis q o hq
        exact ⟨x', b', get_snocL g1, get_snocL g2, g3, g4.mono hids⟩
      have hsl : (c.sc ++ [x])[c.heap.length]? = some x := by rw [hl]; exact get_last
      rcases hown with ⟨_, rfl⟩ | ⟨id, k, rfl, g1, g2, g3, g4, g5, g6⟩ | ⟨rfl, g1, g2⟩
      · exact old hq
      · rcases List.mem_append.1 hq with hq | hq
        · exact old hq
        · simp at hq
          obtain ⟨rfl, rfl⟩ := hq
          exact ⟨x, b, hsl, get_last, g6, g5, k, g1, g2, g3⟩
      · rcases List.mem_append.1 hq with hq | hq
        · exact old hq
        · simp at hq
          obtain ⟨rfl, rfl⟩ := hq
          exact ⟨x, b, hsl, get_last, g2, g1⟩
    nod := by
      rcases hown with ⟨_, rfl⟩ | ⟨id, k, rfl, g1, g2, g3, g4, g5, g6⟩ | ⟨rfl, g1, g2⟩
      · exact hc.nod
      · rw [List.filterMap_append]
        refine List.nodup_append.2 ⟨hc.nod, by simp, fun a ha b' hb' => ?_⟩
        simp at hb'
        subst hb'
        rintro rfl
        obtain ⟨⟨q, o⟩, hp, he⟩ := List.mem_filterMap.1 ha
        simp only at he
        subst he
        obtain ⟨_, _, _, _, _, g7⟩ := hc.wis q _ hp
        exact g4 g7.1
      · simpa using hc.nod
    idx := by
      rw [ownIdx_snoc]
      rcases hown with ⟨h0, rfl⟩ | ⟨id, k, rfl, g1, g2, g3, g4, g5, g6⟩ | ⟨rfl, g1, g2⟩
      · rw [h0]; simp [hc.idx]
      · rw [g6]; simp [hc.idx]
      · rw [g2]; simp [hc.idx]
    sep := fun i x1 b1 i' x2 hx1 hb1 hx2 hij ho z hz hz2 => by
      rcases get_snoc hx1 with ⟨hi, hx1⟩ | ⟨hi, rfl⟩
      · rcases get_snoc hb1 with ⟨_, hb1⟩ | ⟨hi', _⟩
        · rcases get_snoc hx2 with ⟨_, hx2⟩ | ⟨hi2, rfl⟩
          · exact hc.sep i x1 b1 i' x2 hx1 hb1 hx2 hij ho z hz hz2
          · obtain ⟨o, e1, e2⟩ := hc.own i x1 b1 hx1 hb1 ho
            cases o with
            | none => rw [show blkOf (x1.den ρ) = none from e2] at hz; cases hz
            | some id =>
              obtain ⟨e3, k, e4, e5, e6⟩ := e2
              obtain ⟨id', k', f1, f2, f3, f4, f5⟩ := hat z hz2
              rw [e6] at hz
              exact hs.sep id k id' k' e4 f2 (f5 _ id e1) e5 f3 z hz f4
        · omega
      · rcases get_snoc hb1 with ⟨hi', _⟩ | ⟨_, rfl⟩
        · omega
        rcases get_snoc hx2 with ⟨_, hx3⟩ | ⟨hi2, rfl⟩
        · rcases hown with ⟨h0, _⟩ | ⟨id, k, rfl, g1, g2, g3, g4, g5, g6⟩ | ⟨rfl, g1, g2⟩
          · rw [h0] at ho; cases ho
          · obtain ⟨id', k', e1, e2, e3, e4⟩ := hc.at_ x2 (List.mem_of_getElem? hx3) z hz2
            rw [g3] at hz
            exact hs.sep id k id' k' g1 e2 (fun e => by subst e; exact g4 e1) g2 e3 z hz e4
          · rw [g1] at hz; cases hz
        · omega }
theorem CnOK.rd {c c' : Cn} (hc : CnOK w ρ h n c) (hs : HS w0 Wr ρ h n w) {x : Sc} {b : Blk} {ob : List Bool} {id : Nat} (e : c.rd b x ob id = some c') {k : Blk} (hk : look h id = some k) (hkl : k.live = true)
    (hx : ∀ z, blkOf (x.den ρ) = some z → blkOf (ρ id) = some z) (h1 : b.live = true) (h1' : b.own = false) (h3 : ∀ ρ', Fits ρ c ρ' → b.ok w (x.den ρ) ρ') (h5 : ∀ ρ', b.stb (fun i => i < c.sc.length) ρ')
    (h4 : (x.den ρ).oneCell' = true) (h6 : ScOK n ρ x) : CnOK w ρ h n c' := by
  unfold Cn.rd at e
  split at e
  · cases e
  · rename_i hn
    simp only [Option.some.injEq] at e
    subst e
    refine hc.add hs h1 h3 h5 h4 h6 (fun i hi => List.mem_cons_of_mem _ hi) (fun z hz => ⟨id, k, List.mem_cons_self .., hk, hkl, hx z hz, fun q id' hq he => ?_⟩) (.inl ⟨h1', rfl⟩)
    subst he
    exact hn (List.any_eq_true.2 ⟨_, hq, by simp⟩)
theorem CnOK.wrt {c c' : Cn} (hc : CnOK w ρ h n c) (hs : HS w0 Wr ρ h n w) {x : Sc} {b : Blk} {id : Nat} (e : c.wrt b x id = some c') {k : Blk} (hk : look h id = some k) (hko : k.own = true)
    (hx : x.den ρ = ρ id) (h1' : b.own = true) (h3 : ∀ ρ', Fits ρ c ρ' → b.ok w (x.den ρ) ρ') (h5 : ∀ ρ', b.stb (fun i => i < c.sc.length) ρ')
    (h4 : (x.den ρ).oneCell' = true) (h6 : ScOK n ρ x) : CnOK w ρ h n c' := by
  unfold Cn.wrt at e
  split at e
  · cases e
  · rename_i hn
    simp only [Option.some.injEq] at e
    subst e
    have hn' : id ∉ c.ids := fun hi => hn (by simpa using hi)
    refine hc.add hs (Blk.live_own h1') h3 h5 h4 h6 (fun i hi => List.mem_cons_of_mem _ hi) (fun z hz => ⟨id, k, List.mem_cons_self .., hk, Blk.live_own hko, by rw [← hx]; exact hz, fun q id' hq he => ?_⟩)
      (.inr (.inl ⟨id, k, rfl, hk, hko, hx, hn', List.mem_cons_self .., h1'⟩))
    subst he
    obtain ⟨_, _, _, _, _, g7⟩ := hc.wis q _ hq
    exact hn' g7.1
theorem CnOK.rdN {c : Cn} (hc : CnOK w ρ h n c) (hs : HS w0 Wr ρ h n w) (k : RK) : CnOK w ρ h n (c.rdN (.vec false k [])) :=
  hc.add hs rfl (fun _ _ => ⟨none, 0, rfl, Nat.le_refl _, rfl, rfl⟩) (fun _ => trivial) rfl trivial (fun _ h => h) (fun z hz => by cases hz) (.inl ⟨rfl, rfl⟩)
theorem CnOK.wrN {c : Cn} (hc : CnOK w ρ h n c) (hs : HS w0 Wr ρ h n w) (k : RK) : CnOK w ρ h n (c.wrN (.vec true k [])) :=
  hc.add hs rfl (fun _ _ => ⟨none, 0, rfl, Nat.le_refl _, rfl, rfl⟩) (fun _ => trivial) rfl trivial (fun _ h => h) (fun z hz => by cases hz) (.inr (.inr ⟨rfl, rfl, rfl⟩))
theorem CnOK.zero : CnOK w ρ h n cn0 :=
  ⟨rfl, fun i x b hx => by simp [cn0] at hx, fun x hx => by simp [cn0] at hx, fun x hx => by simp [cn0] at hx, fun i x b hx => by simp [cn0] at hx, fun q o hq => by simp [cn0] at hq, by simp [cn0], rfl, fun i x b i' x' hx => by simp [cn0] at hx⟩
end
end Go.Eng
namespace Go.Eng
section
variable {w0 : World} {Wr : Base} {ρ ρ3 : Rho} {h : Heap} {n : Ids} {m : Nat} {w : World}
end
def BlkLeX (F : Rho → Rho) : Blk → Blk → Prop
  | .fix o l, .fix o' l' => o = o' ∧ sizes l = sizes l' ∧ ∀ ρ, flats ρ l = flats (F ρ) l'
  | .vec o k l, .vec o' k' l' => o = o' ∧ l.length = l'.length ∧ k.esz = k'.esz ∧ k.flat l = k'.flat l' ∧ (l = [] → l' = [])
  | _, _ => False
theorem BlkLeX.own {F : Rho → Rho} {b b' : Blk} (h : BlkLeX F b b') : b.own = b'.own := by
  cases b <;> cases b' <;> simp only [BlkLeX] at h
  · exact h.1
  · exact h.1
theorem BlkLeX.ok {F : Rho → Rho} {b b' : Blk} (h : BlkLeX F b b') {w : World} {v : Value} {ρ : Rho} (hk : b.ok w v ρ) : b'.ok w v (F ρ) := by
  cases b with
  | fix o l =>
    cases b' with
    | fix o' l' =>
      obtain ⟨rfl, h2, h3⟩ := h
      obtain ⟨b, o', rfl, hb, hr, ht⟩ := hk
      exact ⟨b, o', rfl, hb, by rw [← h3 ρ]; exact hr, fun e => by rw [← h2]; exact ht e⟩
    | vec => exact h.elim
    | gone => exact h.elim
  | gone => exact h.elim
  | vec o k l =>
    cases b' with
    | fix => exact h.elim
    | gone => exact h.elim
    | vec o' k' l' =>
      obtain ⟨rfl, h2, h3, h4, h5⟩ := h
      obtain ⟨base, cap, rfl, hc, hm⟩ := hk
      refine ⟨base, cap, by rw [h2], by omega, ?_⟩
      cases base with
      | none => exact ⟨h5 hm.1, hm.2⟩
      | some a =>
        obtain ⟨b, o', rfl, hb, hr, ht⟩ := hm
        exact ⟨b, o', rfl, hb, by rw [← h4]; exact hr, fun e => by rw [← h3]; exact ht e⟩
section
variable {P : Program} {T : Nat → Option TI} {C : Nat → Option Sem'}
end
end Go.Eng

