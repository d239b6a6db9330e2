/- The engine, part E: what each evaluator without effect answers is what the model does. -/
import Derived.Test.YtmajpppjakdodaaEngD
set_option linter.all false
set_option exponentiation.threshold 3000
namespace Go.Eng

/-- a step without effect: the result is known, the world stands -/
def PS (P : Program) (w : World) (ρ : Rho) (n : Ids) (r : FR) (s : Sem Value) : Prop :=
  ∃ v, r.val = .c v ∧ r.new = [] ∧ r.wr = [] ∧ ((∀ b, b ∈ r.ob → b = true) → s.run P w = .ok (v.den ρ) w ∧ StbV n ρ v)

section
variable {P : Program} {K : Cx} {w0 : World} {Wr : Base} {ρ : Rho} {h : Heap} {n : Ids} {w : World}

theorem PS.pure {v : CV} {r : FR} {s : Sem Value} (e : pureR v = some r) (hr : s.run P w = .ok (v.den ρ) w) (hs : StbV n ρ v) : PS P w ρ n r s := by
  simp only [pureR, Option.some.injEq] at e; subst e; exact ⟨v, rfl, rfl, rfl, fun _ => ⟨hr, hs⟩⟩

theorem PS.pureO {v : CV} {ob : List Bool} {r : FR} {s : Sem Value} (e : pureO ob v = some r) (hr : (∀ b, b ∈ ob → b = true) → s.run P w = .ok (v.den ρ) w) (hs : (∀ b, b ∈ ob → b = true) → StbV n ρ v) : PS P w ρ n r s := by
  simp only [Eng.pureO, Option.some.injEq] at e; subst e; exact ⟨v, rfl, rfl, rfl, fun ho => ⟨hr ho, hs ho⟩⟩

theorem stb_agg {l : List At} (h : StbL n ρ l) : StbV n ρ (.g l) := fun ρ' ha => by
  show Value.agg (flats ρ' l).toArray = Value.agg (flats ρ l).toArray
  rw [h ρ' ha]

theorem stb_flats_of_agg {l : List At} (h : StbV n ρ (.g l)) : StbL n ρ l := fun ρ' ha => by
  have := h ρ' ha
  simp only [CV.den, Value.agg.injEq] at this
  exact congrArg Array.toList this

theorem stb_atoms {v : CV} (h : StbV n ρ v) : StbL n ρ v.atoms := by
  cases v with
  | s x =>
    intro ρ' ha
    have e : x.den ρ' = x.den ρ := h ρ' ha
    show [x.den ρ'] ++ [] = [x.den ρ] ++ []
    rw [e]
  | g l => exact stb_flats_of_agg h

theorem asVal_stb {agg : Bool} {l : List At} {v : CV} (hv : asVal agg l = some v) (h : StbL n ρ l) : StbV n ρ v := by
  unfold asVal at hv
  split at hv
  · simp only [Option.some.injEq] at hv; subst hv
    exact stb_agg fun ρ' ha => by rw [merge_flats, merge_flats]; exact h ρ' ha
  · split at hv
    · rename_i x
      simp only [Option.some.injEq] at hv; subst hv
      exact fun ρ' ha => by
        have e : [x.den ρ'] ++ [] = [x.den ρ] ++ [] := h ρ' ha
        show x.den ρ' = x.den ρ
        simpa using e
    · simp at hv

/-- a known block's place -/
theorem HS.fix (hs : HS w0 Wr ρ h n w) {id : Nat} {own : Bool} {l : List At} (hl : look h id = some (.fix own l)) :
    ∃ b o, ρ id = .pointer (some ⟨b, o, none⟩) ∧ b < w.heap.size ∧ w.rangeAt b o (flats ρ l) ∧ (own = true → w.there b o (sizes l)) ∧ n id ∧ StbL n ρ l := by
  obtain ⟨h1, ⟨b, o, h2, h3, h4, h5⟩, h6⟩ := hs.ok _ _ hl
  exact ⟨b, o, h2, h3, h4, h5, h1, h6⟩

theorem hp_den {id off b o : Nat} (hρ : ρ id = .pointer (some ⟨b, o, none⟩)) : (Sc.hp id off).den ρ = .pointer (some ⟨b, o + off, none⟩) := by
  simp [Sc.den, hρ, addOff, Addr.add_mid]

theorem hp_stb {id off : Nat} (hid : n id) : StbV n ρ (.s (.hp id off)) := fun ρ' ha => by
  show addOff (ρ' id) off = addOff (ρ id) off
  rw [ha id hid]

theorem ve_stb {id e off : Nat} {i : Int} (hid : n id) : StbV n ρ (.s (.ve id e i off)) := fun ρ' ha => by
  show (match ρ' id with
    | .slice (some a) _ _ => Value.pointer (some (a.add (i.toNat * e + off)))
    | v => v) = match ρ id with
    | .slice (some a) _ _ => Value.pointer (some (a.add (i.toNat * e + off)))
    | v => v
  rw [ha id hid]

theorem cmp_le {i : Int} (h : stdCmp .leq 0 i = true) : 0 ≤ i := by simpa [stdCmp] using h
theorem cmp_lt {i j : Int} (h : stdCmp .lss i j = true) : i < j := by simpa [stdCmp] using h

theorem RK.flat_length (k : RK) (l : List k.ty) : (k.flat l).length = k.esz * l.length := by
  induction l with
  | nil => simp [RK.flat]
  | cons a r ih =>
    have : (k.flat (a :: r)).length = k.esz + (k.flat r).length := by simp [RK.flat, RK.at_sizes]
    rw [this, ih, List.length_cons, Nat.mul_succ, Nat.add_comm]

theorem RK.flat_elem (k : RK) (l : List k.ty) (d : k.ty) : ∀ (i : Nat), i < l.length → ∀ ρ, ((k.flat l).drop (i * k.esz)).take k.esz = flats ρ (k.at (l.getD i d)) := by
  induction l with
  | nil => intro i hi; simp at hi
  | cons a r ih =>
    intro i hi ρ
    have hl : (flats (fun _ => undef) (k.at a)).length = k.esz := by simp [RK.at_sizes]
    have hf : k.flat (a :: r) = flats (fun _ => undef) (k.at a) ++ k.flat r := by simp [RK.flat]
    cases i with
    | zero =>
      rw [hf]
      simp only [Nat.zero_mul, List.drop_zero]
      rw [List.take_append_of_le_length (by omega), List.take_of_length_le (by omega)]
      simpa using k.at_flats a _ _
    | succ i =>
      rw [hf, List.drop_append]
      have e1 : (i + 1) * k.esz - (flats (fun _ => undef) (k.at a)).length = i * k.esz := by rw [hl, Nat.add_mul]; omega
      have e2 : (flats (fun _ => undef) (k.at a)).drop ((i + 1) * k.esz) = [] := List.drop_eq_nil_of_le (by rw [hl, Nat.add_mul]; omega)
      rw [e1, e2, List.nil_append, ih i (by simpa using hi) ρ]
      simp

theorem HS.vec (hs : HS w0 Wr ρ h n w) {id : Nat} {own : Bool} {k : RK} {l : List k.ty} (hl : look h id = some (.vec own k l)) (h0 : 0 < l.length) :
    ∃ b o cap, ρ id = .slice (some ⟨b, o, none⟩) l.length cap ∧ l.length ≤ cap ∧ b < w.heap.size ∧ w.rangeAt b o (k.flat l) ∧ (own = true → w.there b o (k.esz * l.length)) ∧ n id := by
  obtain ⟨h1, ⟨base, cap, h2, h3, h4⟩, h6⟩ := hs.ok _ _ hl
  cases base with
  | none => obtain ⟨h4, _⟩ := h4; subst h4; simp at h0
  | some a =>
    obtain ⟨b, o, rfl, h5, h7, h8⟩ := h4
    exact ⟨b, o, cap, h2, h3, h5, h7, fun e j hj => h8 e j (Nat.lt_of_lt_of_le hj (Nat.mul_le_mul_left _ h3)), h1⟩

/-- such a place, with its spare places -/
theorem HS.vecC (hs : HS w0 Wr ρ h n w) {id : Nat} {own : Bool} {k : RK} {l : List k.ty} (hl : look h id = some (.vec own k l)) (h0 : 0 < l.length) :
    ∃ b o cap, ρ id = .slice (some ⟨b, o, none⟩) l.length cap ∧ l.length ≤ cap ∧ b < w.heap.size ∧ w.rangeAt b o (k.flat l) ∧ (own = true → w.there b o (k.esz * cap)) ∧ n id := by
  obtain ⟨h1, ⟨base, cap, h2, h3, h4⟩, h6⟩ := hs.ok _ _ hl
  cases base with
  | none => obtain ⟨h4, _⟩ := h4; subst h4; simp at h0
  | some a => obtain ⟨b, o, rfl, h5, h7, h8⟩ := h4; exact ⟨b, o, cap, h2, h3, h5, h7, h8, h1⟩

theorem ha_den {id off esz b o cap : Nat} {lo hi : Int} (hρ : ρ id = .pointer (some ⟨b, o, none⟩)) : (Sc.ha id off esz lo hi cap).den ρ = .slice (some (if cap = lo.toNat then ⟨b, o + off, none⟩ else ⟨b, o + (off + lo.toNat * esz), none⟩)) (hi.toNat - lo.toNat) (cap - lo.toNat) := by
  simp [Sc.den, hρ, Addr.add_mid]

theorem ha_stb {id off esz cap : Nat} {lo hi : Int} (hid : n id) : StbV n ρ (.s (.ha id off esz lo hi cap)) := fun ρ' ha => by
  show (Sc.ha id off esz lo hi cap).den ρ' = (Sc.ha id off esz lo hi cap).den ρ
  simp only [Sc.den]; rw [ha id hid]

theorem ve_den {id e off b o len cap : Nat} {i : Int} (hρ : ρ id = .slice (some ⟨b, o, none⟩) len cap) : (Sc.ve id e i off).den ρ = .pointer (some ⟨b, o + (i.toNat * e + off), none⟩) := by
  simp [Sc.den, hρ, Addr.add_mid]

theorem load_PS (hA : K.A = stdA) (hT : TOK P K.T) (hs : HS w0 Wr ρ h n w) {t : Nat} {p : Sc} {r : FR} (e : evLoad K h t p = some r) :
    PS P w ρ n r (Instr.loadAt t (p.den ρ)) := by
  unfold evLoad at e
  split at e
  · simp at e
  · rename_i i ht
    have ty := hT _ _ ht
    split at e
    · -- a pointer into a block
      rename_i id off
      split at e
      · rename_i own l hl
        obtain ⟨b, o, h1, h2, h3, h4, h5, h6⟩ := hs.fix hl
        rw [hp_den h1]
        split at e
        · rename_i m hm
          obtain ⟨h7, h8⟩ := subA_flats ρ hm
          split at e
          · rename_i v hv
            have hr := rangeAt_sub off i.size h3
            rw [← h8] at hr
            have hsz : sizes m = i.size := by rw [← flats_length ρ m, h8]; simp; omega
            refine PS.pure e (loadAt_sound ty hr hsz hv) (asVal_stb hv fun ρ' ha => ?_)
            rw [h8, (subA_flats ρ' hm).2, h6 ρ' ha]
          · simp at e
        · split at e
          · rename_i hsz
            split at e
            · rename_i x hx
              rw [hA] at hx
              obtain ⟨v, rfl, hv⟩ := digAt_flats (ρ := ρ) hx
              refine PS.pure e ?_ fun ρ' _ => rfl
              have hc := h3 off _ hv
              simp only [Instr.loadAt, Instr.sureAddr, Sem.run_bind, Sem.run_pure, Result.andThen_ok]
              rw [loadVar_one ty (by simp at hsz; exact hsz.2) hc]; rfl
            · simp at e
          · simp at e
      · simp at e
    · -- a place in an array of words
      rename_i id base esz j off
      split at e
      · rename_i own l hl
        split at e
        · rename_i hc
          simp only [Bool.and_eq_true, beq_iff_eq, Bool.not_eq_true'] at hc
          obtain ⟨⟨⟨hc1, hc2⟩, hc3⟩, hc4⟩ := hc
          subst hc1 hc2
          split at e
          · rename_i d d' hd
            obtain ⟨b, o, h1, h2, h3, h4, h5, h6⟩ := hs.fix hl
            rw [hA] at e
            refine PS.pureO e (fun ho => ?_) fun _ ρ' _ => rfl
            have g1 := cmp_le (ho _ (List.mem_cons_self ..))
            have g2 := cmp_lt (ho _ (List.mem_cons_of_mem _ (List.mem_cons_self ..)))
            obtain ⟨m, rfl⟩ := Int.eq_ofNat_of_zero_le g1
            have g3 : m < 64 := by omega
            obtain ⟨h7, h8⟩ := atE_flats (ρ := ρ) hd
            have hv : (flats ρ l)[base + m]? = some (.int .u32 (stdA.dig2 d d' (m : Int))) := by
              have : (((flats ρ l).drop base).take 64)[m]? = (d.cells ++ d'.cells)[m]? := by rw [h8]
              rw [List.getElem?_take, if_pos g3, List.getElem?_drop] at this
              rw [this, dig2_cells d d' m g3]
            have hcell := h3 _ _ hv
            have hden : (Sc.pe id base 1 (m : Int) 0).den ρ = .pointer (some ⟨b, o + (base + m), none⟩) := by
              simp [Sc.den, h1, addOff, Addr.add_mid]
            rw [hden]
            simp only [Instr.loadAt, Instr.sureAddr, Sem.run_bind, Sem.run_pure, Result.andThen_ok]
            rw [loadVar_one ty hc4 hcell]
            rfl
          · split at e
            · rename_i d hd
              obtain ⟨b, o, h1, h2, h3, h4, h5, h6⟩ := hs.fix hl
              rw [hA] at e
              refine PS.pureO e (fun ho => ?_) fun _ ρ' _ => rfl
              have g1 := cmp_le (ho _ (List.mem_cons_self ..))
              have g2 := cmp_lt (ho _ (List.mem_cons_of_mem _ (List.mem_cons_self ..)))
              obtain ⟨m, rfl⟩ := Int.eq_ofNat_of_zero_le g1
              have g3 : m < 32 := by omega
              obtain ⟨h7, h8⟩ := atD_flats (ρ := ρ) hd
              have hv : (flats ρ l)[base + m]? = some (.int .u32 (d.dig m : Nat)) := by
                have : (((flats ρ l).drop base).take 32)[m]? = d.cells[m]? := by rw [h8]
                rw [List.getElem?_take, if_pos g3, List.getElem?_drop] at this
                rw [this]; simp [Dg.cells, g3]
              have hcell := h3 _ _ hv
              have hden : (Sc.pe id base 1 (m : Int) 0).den ρ = .pointer (some ⟨b, o + (base + m), none⟩) := by
                simp [Sc.den, h1, addOff, Addr.add_mid]
              rw [hden]
              simp only [Instr.loadAt, Instr.sureAddr, Sem.run_bind, Sem.run_pure, Result.andThen_ok]
              rw [loadVar_one ty hc4 hcell]
              rfl
            · simp at e
        · simp at e
      · simp at e
    · -- a slice's element
      rename_i id esz j off
      split at e
      · rename_i own k l hl
        split at e
        · rename_i m hm
          split at e
          · rename_i v hv
            split at e
            · rename_i hesz
              simp only [beq_iff_eq] at hesz
              subst hesz
              rw [hA] at e hm
              refine PS.pureO e (fun ho => ?_) fun _ => asVal_stb hv fun ρ' ha => ?_
              · have g1 := cmp_le (ho _ (List.mem_cons_self ..))
                have g2 := cmp_lt (ho _ (List.mem_cons_of_mem _ (List.mem_cons_self ..)))
                obtain ⟨m', rfl⟩ := Int.eq_ofNat_of_zero_le g1
                have g3 : m' < l.length := by simpa [stdA] using g2
                obtain ⟨b, o, cap, h1, h2, h3, h4, h5, h6⟩ := hs.vec hl (by omega)
                rw [ve_den h1]
                obtain ⟨h7, h8⟩ := subA_flats ρ hm
                have hel := RK.flat_elem k l (k.dflt stdA) m' g3 ρ
                have hr := rangeAt_sub (m' * k.esz) k.esz h4
                rw [hel] at hr
                have hr2 := rangeAt_sub off i.size hr
                have hg : stdA.get l (m' : Int) (k.dflt stdA) = l.getD m' (k.dflt stdA) := rfl
                rw [hg] at h8
                rw [← h8] at hr2
                have hsz : sizes m = i.size := by
                  rw [← flats_length ρ m, h8, List.length_take, List.length_drop, flats_length, RK.at_sizes]
                  rw [RK.at_sizes] at h7
                  omega
                rw [show o + ((m' : Int).toNat * k.esz + off) = o + m' * k.esz + off from by simp [Nat.add_assoc]]
                exact loadAt_sound ty hr2 hsz hv
              · rw [(subA_flats ρ' hm).2, (subA_flats ρ hm).2, RK.at_flats k _ ρ' ρ]
            · simp at e
          · simp at e
        · simp at e
      · simp at e
    · simp at e

theorem mapM_get {fs : List Field} : ∀ {l : List (Nat × Nat)} {f o z : Nat}, (fs.mapM fun f => (P.info? f.type).map fun i => (f.offset, i.size)) = some l → l[f]? = some (o, z) →
    ∃ g, fs[f]? = some g ∧ g.offset = o ∧ (P.info? g.type).map (·.size) = some z := by
  induction fs with
  | nil => intro l f o z h hf; simp at h; subst h; simp at hf
  | cons g r ih =>
    intro l f o z h hf
    rw [List.mapM_cons] at h
    simp only [bind, Option.bind_eq_some_iff, pure, Option.some.injEq, Option.map_eq_some_iff] at h
    obtain ⟨a, ⟨i, hi, rfl⟩, l', hl', rfl⟩ := h
    cases f with
    | zero => simp at hf; exact ⟨g, by simp, hf.1, by simp [hi, hf.2]⟩
    | succ f => obtain ⟨g', h1, h2, h3⟩ := ih hl' (by simpa using hf); exact ⟨g', by simpa using h1, h2, h3⟩

theorem field_PS (hA : K.A = stdA) (hT : TOK P K.T) (hs : HS w0 Wr ρ h n w) {t f : Nat} {p : Sc} {r : FR} (e : evField K h t p f = some r) :
    PS P w ρ n r (Instr.fieldAt t (p.den ρ) f) := by
  unfold evField at e
  split at e
  · rename_i i ht
    have ty := hT _ _ ht
    split at e
    · rename_i o ft hf
      have hmem : (o, ft) ∈ i.fields := List.mem_of_getElem? hf
      have hgo : ∀ a : Addr, (Instr.fieldAt t (.pointer (some a)) f).run P w = .ok (.pointer (some (a.add o))) w := by
        intro a
        rcases ty.fields with h0 | ⟨fs, hu, hfs⟩
        · rw [h0] at hf; simp at hf
        · obtain ⟨g, hg, hgo, hj⟩ := mapM_get hfs hf
          have hj0 : ft ≠ 0 := ty.fsize _ _ hmem
          have hfld : fs[f]? = some g := by simpa using hg
          unfold Instr.fieldAt
          rw [Sem.run_bind, run_underlying hu w]
          simp only [Result.andThen_ok, hfld, Instr.sureAddr, Sem.run_bind, Sem.run_pure, fieldPlace, run_sizeOf' hj]
          simp [hj0, hgo]
      split at e
      · rename_i id off
        split at e
        · rename_i own l hl
          obtain ⟨b, o', h1, h2, h3, h4, h5, h6⟩ := hs.fix hl
          rw [hp_den h1]
          refine PS.pure e ?_ (hp_stb h5)
          rw [hgo]
          show _ = Result.ok ((Sc.hp id (off + o)).den ρ) w
          rw [hp_den h1, Addr.add_mid, Nat.add_assoc]
        · simp at e
      · rename_i id esz j off
        split at e
        · rename_i own k l hl
          rw [hA] at e
          have hid := (hs.ok _ _ hl).1
          refine PS.pureO e (fun ho => ?_) fun _ => ve_stb hid
          have g1 := cmp_le (ho _ (List.mem_cons_self ..))
          have g2 := cmp_lt (ho _ (List.mem_cons_of_mem _ (List.mem_cons_self ..)))
          have g3 : 0 < l.length := by have : j < (l.length : Int) := g2; omega
          obtain ⟨b, o', cap, h1, h2, h3, h4, h5, h6⟩ := hs.vec hl g3
          rw [ve_den h1, hgo]
          show _ = Result.ok ((Sc.ve id esz j (off + o)).den ρ) w
          rw [ve_den h1, Addr.add_mid]
          simp only [Nat.add_assoc]
        · simp at e
      · simp at e
    · simp at e
  · simp at e

theorem num_den {x : Sc} {lit : Bool} {k : IntKind} {j : Int} (h : x.num = some (lit, k, j)) : x.den ρ = .int k j := by
  cases x <;> simp [Sc.num] at h <;> obtain ⟨_, rfl, rfl⟩ := h <;> rfl

theorem boo_den {x : Sc} {l b : Bool} (hx : x.boo = some (l, b)) : x.den ρ = .bool b := by
  cases x <;> simp [Sc.boo] at hx <;> obtain ⟨_, rfl⟩ := hx <;> rfl

theorem idx_PS (hA : K.A = stdA) (hT : TOK P K.T) (hs : HS w0 Wr ρ h n w) {t : Nat} {p x : Sc} {r : FR} (e : evIdx K h t p x = some r) :
    PS P w ρ n r (Instr.indexAt t (p.den ρ) (x.den ρ)) := by
  unfold evIdx at e
  split at e
  · rename_i i ht
    have ty := hT _ _ ht
    have hgo : ∀ (m el esz : Nat) (k : IntKind) (j : Int) (a : Addr), i.arr = some (m, el, esz) → 0 ≤ j → j < m → (Instr.indexAt t (.pointer (some a)) (.int k j)).run P w = .ok (.pointer (some (a.add (j.toNat * esz)))) w := by
      intro m el esz k j a harr h0 h1
      obtain ⟨hu, hz⟩ := ty.arr _ _ _ harr
      unfold Instr.indexAt
      simp only [asIntOf, Sem.run_bind, Sem.run_pure, Result.andThen_ok, run_underlying hu w, Instr.sureAddr]
      simp only [h0, h1, and_self, if_true, Sem.run_bind, run_sizeOf' hz, Result.andThen_ok, Sem.run_pure]
    split at e
    · -- array, number known
      rename_i m el esz id off k j harr hx
      split at e
      · rename_i own l hl
        split at e
        · rename_i hb
          simp only [Bool.and_eq_true] at hb
          obtain ⟨b, o', h1, h2, h3, h4, h5, h6⟩ := hs.fix hl
          rw [num_den hx, hp_den h1]
          refine PS.pure e ?_ (hp_stb h5)
          rw [hgo _ _ _ _ _ _ harr (cmp_le hb.1) (cmp_lt hb.2)]
          show _ = Result.ok ((Sc.hp id (off + j.toNat * esz)).den ρ) w
          rw [hp_den h1, Addr.add_mid, Nat.add_assoc]
        · simp at e
      · simp at e
    · rename_i m el esz id off k j harr hx
      split at e
      · rename_i own l hl
        rw [hA] at e
        obtain ⟨b, o', h1, h2, h3, h4, h5, h6⟩ := hs.fix hl
        rw [num_den hx, hp_den h1]
        refine PS.pureO e (fun ho => ?_) fun _ ρ' ha => ?_
        · have g1 := cmp_le (ho _ (List.mem_cons_self ..))
          have g2 := cmp_lt (ho _ (List.mem_cons_of_mem _ (List.mem_cons_self ..)))
          rw [hgo _ _ _ _ _ _ harr g1 g2]
          show _ = Result.ok ((Sc.pe id off esz j 0).den ρ) w
          simp [Sc.den, h1, addOff, Addr.add_mid, Nat.add_assoc]
        · show addOff (ρ' id) _ = addOff (ρ id) _
          rw [ha id h5]
      · simp at e
    · rename_i id lit k j harr hx
      split at e
      · rename_i el esz kk own k' l hel hl
        rw [hA] at e
        obtain ⟨hu, hz, hzz, _⟩ := ty.elem _ _ _ hel
        have hid := (hs.ok _ _ hl).1
        refine PS.pureO e (fun ho => ?_) fun _ => ve_stb hid
        have g1 := cmp_le (ho _ (List.mem_cons_self ..))
        have g2 : j < (l.length : Int) := cmp_lt (ho _ (List.mem_cons_of_mem _ (List.mem_cons_self ..)))
        obtain ⟨b, o', cap, h1, h2, h3, h4, h5, h6⟩ := hs.vec hl (by omega)
        rw [num_den hx]
        show (Instr.indexAt t (ρ id) (.int k j)).run P w = Result.ok ((Sc.ve id esz j 0).den ρ) w
        rw [ve_den h1, h1]
        unfold Instr.indexAt
        simp only [asIntOf, Sem.run_bind, Sem.run_pure, Result.andThen_ok, run_underlying hu w]
        simp only [g1, g2, and_self, if_true, Sem.run_bind, run_sizeOf' hz, Result.andThen_ok, Sem.run_pure, Addr.add_mid, Nat.add_zero]
      · simp at e
    · rename_i id z lo hi lit k j harr hx
      split at e
      · rename_i el esz kk own k' l hel hl
        split at e
        · rename_i hze
          simp only [beq_iff_eq] at hze
          subst hze
          rw [hA] at e
          obtain ⟨hu, hz, hzz, _⟩ := ty.elem _ _ _ hel
          have hid := (hs.ok _ _ hl).1
          refine PS.pureO e (fun ho => ?_) fun _ => ve_stb hid
          simp only [List.forall_mem_cons, stdA, stdCmp, decide_eq_true_eq] at ho
          obtain ⟨g0, g1, g2, g3, -⟩ := ho
          obtain ⟨b, o', cap, h1, h2, h3, h4, h5, h6⟩ := hs.vec hl (by omega)
          rw [num_den hx]
          show (Instr.indexAt t ((Sc.hw id z lo hi).den ρ) (.int k j)).run P w = Result.ok ((Sc.ve id z (lo + j) 0).den ρ) w
          rw [ve_den h1]
          have hc : cap ≠ lo.toNat := by omega
          have hj : j < ((hi.toNat - lo.toNat : Nat) : Int) := by omega
          simp only [Sc.den, h1, if_neg hc, Option.map_some, Addr.add_mid]
          unfold Instr.indexAt
          simp only [asIntOf, Sem.run_bind, Sem.run_pure, Result.andThen_ok, run_underlying hu w]
          simp only [g2, hj, and_self, if_true, Sem.run_bind, run_sizeOf' hz, Result.andThen_ok, Sem.run_pure, Addr.add_mid, Nat.add_zero]
          rw [Int.toNat_add g0 g2, Nat.add_mul, Nat.add_assoc]
        · simp at e
      · simp at e
    · rename_i id off z lo hi cap lit k j harr hx
      split at e
      · rename_i el esz kk own l hel hl
        split at e
        · rename_i hze
          simp only [beq_iff_eq] at hze
          subst hze
          rw [hA] at e
          obtain ⟨hu, hz, hzz, _⟩ := ty.elem _ _ _ hel
          obtain ⟨b, o', h1, h2, h3, h4, h5, h6⟩ := hs.fix hl
          refine PS.pureO e (fun ho => ?_) fun _ ρ' ha => ?_
          · simp only [List.forall_mem_cons, stdA, stdCmp, decide_eq_true_eq] at ho
            obtain ⟨g0, g1, g2, g3, -⟩ := ho
            rw [num_den hx, ha_den h1]
            have hc : cap ≠ lo.toNat := by omega
            have hj : j < ((hi.toNat - lo.toNat : Nat) : Int) := by omega
            rw [if_neg hc]
            unfold Instr.indexAt
            simp only [asIntOf, Sem.run_bind, Sem.run_pure, Result.andThen_ok, run_underlying hu w]
            simp only [g2, hj, and_self, if_true, Sem.run_bind, run_sizeOf' hz, Result.andThen_ok, Sem.run_pure, Addr.add_mid, Nat.add_zero]
            show _ = Result.ok ((Sc.pe id off z (lo + j) 0).den ρ) w
            simp only [Sc.den, h1, addOff, Addr.add_mid, Nat.add_zero]
            rw [Int.toNat_add g0 g2, Nat.add_mul]
            simp [Nat.add_assoc]
          · show addOff (ρ' id) _ = addOff (ρ id) _
            rw [ha id h5]
        · simp at e
      · simp at e
    · simp at e
  · simp at e

theorem at_PS (hA : K.A = stdA) (hT : TOK P K.T) {t : Nat} {p x : Sc} {r : FR} (e : evAt K t p x = some r) :
    PS P w ρ n r (Instr.index t (p.den ρ) (x.den ρ)) := by
  unfold evAt at e
  split at e
  · rename_i i ht
    split at e
    · rename_i s lit k j hsc hx
      rw [hA] at e
      refine PS.pureO e (fun ho => ?_) fun _ _ _ => rfl
      simp only [List.forall_mem_cons, stdA, stdCmp, decide_eq_true_eq] at ho
      obtain ⟨g0, g1, -⟩ := ho
      rw [num_den hx]
      have hu := (hT _ _ ht).str hsc
      have hlt : j.toNat < s.size := by omega
      have hs : s[j.toNat]? = some s[j.toNat] := by simp [hlt]
      unfold Instr.index
      simp only [asIntOf, Sem.run_bind, Sem.run_pure, Result.andThen_ok, run_underlying hu w, Sc.den, if_pos g0, hs, stdA]
      rfl
    · simp at e
  · simp at e

theorem numL_flats {k : IntKind} : ∀ {l : List At} {m : List Int}, numL k l = some m → flats ρ l = m.map (Value.int k)
  | [], m, h => by simp only [numL, Option.some.injEq] at h; subst h; rfl
  | .s x :: r, m, h => by
    simp only [numL] at h
    split at h
    · rename_i hx hr
      split at h
      · rename_i hk
        subst hk
        simp only [Option.some.injEq] at h; subst h
        simp only [flats, At.cells, num_den hx, numL_flats hr, List.map_cons]; rfl
      · simp at h
    · simp at h
  | .D _ :: _, _, h => by simp [numL] at h
  | .W _ :: _, _, h => by simp [numL] at h
  | .R _ :: _, _, h => by simp [numL] at h
  | .P _ :: _, _, h => by simp [numL] at h

theorem booL_flats : ∀ {l : List At} {m : List Bool}, booL l = some m → flats ρ l = m.map Value.bool
  | [], m, h => by simp only [booL, Option.some.injEq] at h; subst h; rfl
  | .s x :: r, m, h => by
    simp only [booL] at h
    split at h
    · rename_i hx hr
      simp only [Option.some.injEq] at h; subst h
      have : x.den ρ = .bool _ := boo_den hx
      simp only [flats, At.cells, this, booL_flats hr, List.map_cons]; rfl
    · simp at h
  | .D _ :: _, _, h => by simp [booL] at h
  | .W _ :: _, _, h => by simp [booL] at h
  | .R _ :: _, _, h => by simp [booL] at h
  | .P _ :: _, _, h => by simp [booL] at h

theorem strL_flats : ∀ {l : List At} {m : List ByteArray}, strL l = some m → flats ρ l = m.map Value.string
  | [], m, h => by simp only [strL, Option.some.injEq] at h; subst h; rfl
  | a :: r, m, h => by
    unfold strL at h
    split at h
    · rename_i he; cases he
    · rename_i b r' he
      cases he
      split at h
      · rename_i l hr
        simp only [Option.some.injEq] at h; subst h
        simp only [flats, At.cells, Sc.den, strL_flats hr, List.map_cons]; rfl
      · simp at h
    · simp at h

theorem pickAt_flats {l : List At} {j : Int} {y : Sc} (h : pickAt stdA l j = some y) (h1 : j.toNat < l.length) : (flats ρ l)[j.toNat]? = some (y.den ρ) ∧ ∀ ρ', y.den ρ' = y.den ρ := by
  have hlen : ∀ {α : Type} (f : α → Value) (m : List α) (d : α), flats ρ l = m.map f → (∀ a, a ∈ l → a.size = 1) → (m.map f)[j.toNat]? = some (f (m.getD j.toNat d)) := fun f m d he hs => by
    have hsz : ∀ q : List At, (∀ a, a ∈ q → a.size = 1) → sizes q = q.length := fun q => by
      induction q with
      | nil => intro _; rfl
      | cons a r ih => intro h; simp only [sizes, List.length_cons, h a (List.mem_cons_self ..), ih fun b hb => h b (List.mem_cons_of_mem _ hb)]; omega
    have hm : m.length = l.length := by
      have := congrArg List.length he
      rw [flats_length, hsz l hs] at this
      simpa using this.symm
    have : j.toNat < m.length := by omega
    simp [List.getElem?_map, this]
  unfold pickAt at h
  split at h
  · split at h
    · split at h
      · rename_i m hm
        simp only [Option.some.injEq] at h; subst h
        have he := numL_flats (ρ := ρ) hm
        rw [he]
        refine ⟨hlen _ _ 0 he fun a ha => ?_, fun _ => rfl⟩
        have : ∀ (q : List At) (m : List Int) k, numL k q = some m → ∀ a, a ∈ q → a.size = 1 := fun q => by
          induction q with
          | nil => intro _ _ _ a ha; simp at ha
          | cons b r ih =>
            intro m k hm a ha
            cases b with
            | s x =>
              simp only [numL] at hm
              split at hm
              · rename_i hr
                simp only [List.mem_cons] at ha
                rcases ha with rfl | ha
                · rfl
                · exact ih _ _ hr a ha
              · simp at hm
            | _ => simp [numL] at hm
        exact this _ _ _ hm a ha
      · simp at h
    · split at h
      · split at h
        · rename_i m hm
          simp only [Option.some.injEq] at h; subst h
          have he := booL_flats (ρ := ρ) hm
          rw [he]
          refine ⟨hlen _ _ false he fun a ha => ?_, fun _ => rfl⟩
          have : ∀ (q : List At) (m : List Bool), booL q = some m → ∀ a, a ∈ q → a.size = 1 := fun q => by
            induction q with
            | nil => intro _ _ a ha; simp at ha
            | cons b r ih =>
              intro m hm a ha
              cases b with
              | s x =>
                simp only [booL] at hm
                split at hm
                · rename_i hr
                  simp only [List.mem_cons] at ha
                  rcases ha with rfl | ha
                  · rfl
                  · exact ih _ hr a ha
                · simp at hm
              | _ => simp [booL] at hm
          exact this _ _ hm a ha
        · simp at h
      · split at h
        · rename_i m hm
          simp only [Option.some.injEq] at h; subst h
          have he := strL_flats (ρ := ρ) hm
          rw [he]
          refine ⟨hlen _ _ ByteArray.empty he fun a ha => ?_, fun _ => rfl⟩
          have : ∀ (q : List At) (m : List ByteArray), strL q = some m → ∀ a, a ∈ q → a.size = 1 := fun q => by
            induction q with
            | nil => intro _ _ a ha; simp at ha
            | cons b r ih =>
              intro m hm a ha
              unfold strL at hm
              split at hm
              · rename_i he; cases he
              · rename_i b r' he
                cases he
                split at hm
                · rename_i hr
                  simp only [List.mem_cons] at ha
                  rcases ha with rfl | ha
                  · rfl
                  · exact ih _ hr a ha
                · simp at hm
              · simp at hm
          exact this _ _ hm a ha
        · simp at h
  · simp at h

theorem pick_PS (hA : K.A = stdA) (hT : TOK P K.T) {t : Nat} {l : List At} {x : Sc} {r : FR} (e : evPick K t l x = some r) :
    PS P w ρ n r (Instr.index t ((CV.g l).den ρ) (x.den ρ)) := by
  unfold evPick at e
  split at e
  · rename_i i ht
    split at e
    · rename_i m el lit k j harr hx
      split at e
      · rename_i ie hte
        split at e
        · rename_i hagg hln
          split at e
          · rename_i y hy
            rw [hA] at e hy
            simp only [beq_iff_eq] at hln
            have hpk := fun h => pickAt_flats (ρ := ρ) hy h
            refine PS.pureO e (fun ho => ?_) fun ho => ?_
            · simp only [List.forall_mem_cons, stdA, stdCmp, decide_eq_true_eq] at ho
              obtain ⟨g0, g1, -⟩ := ho
              obtain ⟨p1, p2⟩ := hpk (by omega)
              rw [num_den hx]
              obtain ⟨hu, hz⟩ := (hT _ _ ht).arr _ _ _ harr
              unfold Instr.index
              simp only [asIntOf, Sem.run_bind, Sem.run_pure, Result.andThen_ok, run_underlying hu w, CV.den, if_pos (And.intro g0 g1), run_sizeOf' hz, Nat.mul_one]
              unfold part
              rw [Sem.run_bind, run_isAgg (hT _ _ hte), hagg]
              simp only [Result.andThen_ok, Bool.false_eq_true, if_false, List.getElem?_toArray, p1]
              rfl
            · simp only [List.forall_mem_cons, stdA, stdCmp, decide_eq_true_eq] at ho
              obtain ⟨g0, g1, -⟩ := ho
              obtain ⟨p1, p2⟩ := hpk (by omega)
              exact fun ρ' _ => p2 ρ'
          · simp at e
        · simp at e
      · simp at e
    · simp at e
  · simp at e

theorem bnd_num {v : Option Sc} {d j : Int} (h : bnd v d = some j) : (v = none ∧ j = d) ∨ ∃ x k, v = some x ∧ x.den ρ = .int k j := by
  unfold bnd at h
  split at h
  · simp only [Option.some.injEq] at h; exact .inl ⟨rfl, h.symm⟩
  · rename_i x
    split at h
    · rename_i hx
      simp only [Option.some.injEq] at h
      subst h
      exact .inr ⟨x, _, rfl, num_den hx⟩
    · simp at h

theorem bounds_run {lo hi : Option Sc} {len cap : Nat} {a b : Int} (ha : bnd lo 0 = some a) (hb : bnd hi len = some b) (h0 : 0 ≤ a) (h1 : a ≤ b) (h2 : b ≤ cap) :
    (Instr.sliceBounds true len cap (lo.map (Sc.den ρ)) (hi.map (Sc.den ρ)) none).run P w = .ok (a.toNat, b.toNat, cap) w := by
  unfold Instr.sliceBounds
  have e1 : ∀ (k : IntKind) (code : BoundsCode), (Instr.sliceBound (.int k b) cap code).run P w = .ok b.toNat w := fun k code => by
    unfold Instr.sliceBound
    simp only [asIntOf, Sem.run_bind, Sem.run_pure, Result.andThen_ok]
    rw [if_pos ⟨by omega, h2⟩]; rfl
  have e2 : ∀ (k : IntKind) (code : BoundsCode), (Instr.sliceBound (.int k a) b.toNat code).run P w = .ok a.toNat w := fun k code => by
    unfold Instr.sliceBound
    simp only [asIntOf, Sem.run_bind, Sem.run_pure, Result.andThen_ok]
    rw [if_pos ⟨h0, by omega⟩]; rfl
  rcases bnd_num (ρ := ρ) ha with ⟨rfl, rfl⟩ | ⟨x, kx, rfl, hx⟩ <;> rcases bnd_num (ρ := ρ) hb with ⟨rfl, rfl⟩ | ⟨y, ky, rfl, hy⟩
  · simp
  · simp [hy, e1]
  · have := e2 kx .sliceB
    simp at this
    simp [hx, this]
  · simp [hx, hy, e1, e2]

theorem bounds_runA {lo hi : Option Sc} {m : Nat} {a b : Int} (ha : bnd lo 0 = some a) (hb : bnd hi m = some b) (h0 : 0 ≤ a) (h1 : a ≤ b) (h2 : b ≤ m) :
    (Instr.sliceBounds false m m (lo.map (Sc.den ρ)) (hi.map (Sc.den ρ)) none).run P w = .ok (a.toNat, b.toNat, m) w := by
  unfold Instr.sliceBounds
  have e1 : ∀ (k : IntKind) (code : BoundsCode), (Instr.sliceBound (.int k b) m code).run P w = .ok b.toNat w := fun k code => by
    unfold Instr.sliceBound
    simp only [asIntOf, Sem.run_bind, Sem.run_pure, Result.andThen_ok]
    rw [if_pos ⟨by omega, h2⟩]; rfl
  have e2 : ∀ (k : IntKind) (code : BoundsCode), (Instr.sliceBound (.int k a) b.toNat code).run P w = .ok a.toNat w := fun k code => by
    unfold Instr.sliceBound
    simp only [asIntOf, Sem.run_bind, Sem.run_pure, Result.andThen_ok]
    rw [if_pos ⟨h0, by omega⟩]; rfl
  rcases bnd_num (ρ := ρ) ha with ⟨rfl, rfl⟩ | ⟨x, kx, rfl, hx⟩ <;> rcases bnd_num (ρ := ρ) hb with ⟨rfl, rfl⟩ | ⟨y, ky, rfl, hy⟩
  · simp
  · simp [hy, e1]
  · have := e2 kx .sliceB
    simp at this
    simp [hx, this]
  · simp [hx, hy, e1, e2]

theorem slice_PS (hA : K.A = stdA) (hT : TOK P K.T) (hs : HS w0 Wr ρ h n w) {t : Nat} {x : Sc} {lo hi : Option Sc} {r : FR} (e : evSlice K h t x lo hi = some r) :
    PS P w ρ n r (Instr.sliceAt t (x.den ρ) (lo.map (Sc.den ρ)) (hi.map (Sc.den ρ)) none) := by
  unfold evSlice at e
  split at e
  · simp at e
  · rename_i i ht
    split at e
    · split at e
      · -- a part of an array
        rename_i m el esz id off harr
        split at e
        · rename_i own l hl
          obtain ⟨hu, hz⟩ := (hT _ _ ht).arr _ _ _ harr
          obtain ⟨b, o, h1, h2, h3, h4, h5, h6⟩ := hs.fix hl
          split at e
          · rename_i a c ha hb
            rw [hA] at e
            refine PS.pureO e (fun ho => ?_) fun _ => ha_stb h5
            simp only [List.forall_mem_cons, stdA, stdCmp, decide_eq_true_eq] at ho
            obtain ⟨g0, g1, g2, -⟩ := ho
            rw [hp_den h1]
            unfold Instr.sliceAt
            simp only [Sem.run_bind, run_underlying hu w, Result.andThen_ok, Instr.sureAddr, Sem.run_pure, bounds_runA ha hb g0 g1 g2, run_sizeOf' hz]
            show _ = Result.ok ((Sc.ha id off esz a c m).den ρ) w
            rw [ha_den h1]
            by_cases hc : m = a.toNat
            · rw [if_pos hc, if_pos hc]
            · rw [if_neg hc, if_neg hc, Addr.add_mid, Nat.add_assoc]
          · simp at e
        · simp at e
      · -- a part of a text
        rename_i s harr
        split at e
        · rename_i hsc
          split at e
          · rename_i a c ha hb
            rw [hA] at e hb
            have hu := (hT _ _ ht).str hsc
            refine PS.pureO e (fun ho => ?_) fun _ _ _ => rfl
            simp only [List.forall_mem_cons, stdA, stdCmp, decide_eq_true_eq] at ho
            obtain ⟨g0, g1, g2, -⟩ := ho
            show (Instr.sliceAt t (.string s) _ _ none).run P w = _
            unfold Instr.sliceAt Instr.slice
            simp only [Sem.run_bind, run_underlying hu w, Result.andThen_ok, Sem.run_pure, bounds_runA (m := s.size) ha hb g0 g1 g2, Option.isSome_none, Bool.false_eq_true, if_false]
            rfl
          · simp at e
        · simp at e
      · simp at e
    · rename_i el esz kk hel
      obtain ⟨hu, hz, hzz, _⟩ := (hT _ _ ht).elem _ _ _ hel
      have hgo : ∀ (base : Option Addr) (len cap : Nat) (a b : Int), bnd lo 0 = some a → bnd hi len = some b → 0 ≤ a → a ≤ b → b ≤ cap →
          (Instr.sliceAt t (.slice base len cap) (lo.map (Sc.den ρ)) (hi.map (Sc.den ρ)) none).run P w =
            .ok (.slice (if cap = a.toNat then base else base.map (·.add (a.toNat * esz))) (b.toNat - a.toNat) (cap - a.toNat)) w := by
        intro base len cap a b ha hb h0 h1 h2
        unfold Instr.sliceAt Instr.slice
        simp only [Sem.run_bind, run_underlying hu w, Result.andThen_ok, bounds_run ha hb h0 h1 h2, run_sizeOf' hz, Sem.run_pure]
      split at e
      · rename_i id
        split at e
        · rename_i own k l hl
          rw [hA] at e
          obtain ⟨hid, ⟨base, cap, h2, h3, h4⟩, _⟩ := hs.ok _ _ hl
          split at e
          · rename_i a b ha hb
            refine PS.pureO e (fun ho => ?_) fun _ ρ' hag => ?_
            · simp only [List.forall_mem_cons, stdA, stdCmp, decide_eq_true_eq] at ho
              obtain ⟨g0, g1, g2, -⟩ := ho
              show (Instr.sliceAt t (ρ id) _ _ none).run P w = Result.ok ((Sc.hw id esz a b).den ρ) w
              rw [h2, hgo _ _ _ _ _ ha hb g0 g1 (by omega)]
              simp only [Sc.den, h2]
            · show (Sc.hw id esz a b).den ρ' = (Sc.hw id esz a b).den ρ
              simp only [Sc.den]; rw [hag id hid]
          · simp at e
        · simp at e
      · rename_i id z lo' hi'
        split at e
        · rename_i own k l hl
          split at e
          · rename_i hze
            simp only [beq_iff_eq] at hze
            subst hze
            rw [hA] at e
            obtain ⟨hid, ⟨base, cap, h2, h3, h4⟩, _⟩ := hs.ok _ _ hl
            have hstb : ∀ a b, StbV n ρ (.s (.hw id z a b)) := fun a b ρ' hag => by
              show (Sc.hw id z a b).den ρ' = (Sc.hw id z a b).den ρ
              simp only [Sc.den]; rw [hag id hid]
            split at e
            · rename_i a b ha hb
              split at e
              · rename_i hlo
                refine PS.pureO e (fun ho => ?_) fun _ => hstb _ _
                simp only [List.forall_mem_cons, stdA, stdCmp, decide_eq_true_eq] at ho
                obtain ⟨g0, g1, g2, g3, g4, -⟩ := ho
                have ha0 : a = 0 := by
                  unfold lo0 at hlo
                  split at hlo
                  · simp [bnd] at ha; omega
                  · simp [bnd, Sc.num] at ha hlo; omega
                  · simp at hlo
                subst ha0
                show (Instr.sliceAt t ((Sc.hw id z lo' hi').den ρ) _ _ none).run P w = Result.ok ((Sc.hw id z lo' (lo' + b)).den ρ) w
                simp only [Sc.den, h2]
                have hb' : bnd hi ((hi'.toNat - lo'.toNat : Nat) : Int) = some b := by
                  have : ((hi'.toNat - lo'.toNat : Nat) : Int) = hi' - lo' := by omega
                  rw [this]; exact hb
                rw [hgo _ _ _ _ _ ha hb' (by omega) (by omega) (by omega)]
                have e1 : b.toNat - (0 : Int).toNat = (lo' + b).toNat - lo'.toNat := by omega
                rw [e1]
                simp [Addr.add]
              · refine PS.pureO e (fun ho => ?_) fun _ => hstb _ _
                simp only [List.forall_mem_cons, stdA, stdCmp, decide_eq_true_eq] at ho
                obtain ⟨g0, g1, g2, g3, g4, g5, -⟩ := ho
                show (Instr.sliceAt t ((Sc.hw id z lo' hi').den ρ) _ _ none).run P w = Result.ok ((Sc.hw id z (lo' + a) (lo' + b)).den ρ) w
                simp only [Sc.den, h2]
                have hb' : bnd hi ((hi'.toNat - lo'.toNat : Nat) : Int) = some b := by
                  have : ((hi'.toNat - lo'.toNat : Nat) : Int) = hi' - lo' := by omega
                  rw [this]; exact hb
                rw [hgo _ _ _ _ _ ha hb' (by omega) (by omega) (by omega)]
                have e1 : b.toNat - a.toNat = (lo' + b).toNat - (lo' + a).toNat := by omega
                have e2 : cap - lo'.toNat - a.toNat = cap - (lo' + a).toNat := by omega
                have e3 : cap - lo'.toNat ≠ a.toNat := by omega
                have e4 : cap ≠ lo'.toNat := by omega
                have e5 : cap ≠ (lo' + a).toNat := by omega
                rw [e1, e2, if_neg e3, if_neg e4, if_neg e5, Int.toNat_add g0 g2, Nat.add_mul]
                cases base with
                | none => rfl
                | some a0 =>
                  obtain ⟨b0, o0, rfl, _⟩ := h4
                  simp only [Option.map_some, Addr.add_mid, Nat.add_assoc]
            · simp at e
          · simp at e
        · simp at e
      · simp at e

theorem int_PS (hA : K.A = stdA) {op : BinOp} {x y : Sc} {p q : Bool × IntKind × Int} {r : FR} {t : Nat} {X Y : Operand} (hx : x.num = some p) (hy : y.num = some q) (e : evInt K op p q = some r) :
    PS P w ρ n r (do eqGuard op t X Y (x.den ρ) (y.den ρ); binOp op t (x.den ρ) (y.den ρ)) := by
  obtain ⟨lx, k, a⟩ := p
  obtain ⟨ly, k', b⟩ := q
  rw [num_den hx, num_den hy]
  have hg : (eqGuard op t X Y (.int k a) (.int k' b)).run P w = .ok () w := by
    unfold eqGuard
    cases op <;> simp
  have hmk : ∀ (lit : Bool) (o : BinOp), (mkInt K lit k o a b).den ρ = .int k (stdBin o k a b) := by
    intro lit o; unfold mkInt; rw [hA]; cases lit <;> rfl
  have hst : ∀ (lit : Bool) (o : BinOp), StbV n ρ (.s (mkInt K lit k o a b)) := by
    intro lit o ρ' _; unfold mkInt; cases lit <;> rfl
  unfold evInt at e
  have hcmp : ∀ (o : BinOp), (CV.s (if lx && ly then .tt (stdCmp o a b) else .bool (K.A.cmp o a b))).den ρ = .bool (stdCmp o a b) := by
    intro o; rw [hA]; cases lx && ly <;> rfl
  have hcst : ∀ (o : BinOp), StbV n ρ (.s (if lx && ly then .tt (stdCmp o a b) else .bool (K.A.cmp o a b))) := by
    intro o ρ' _; cases lx && ly <;> rfl
  have hbin : ∀ (o : BinOp) (lit : Bool), ((CV.s (mkInt K lit k o a b)).den ρ) = .int k (stdBin o k a b) := fun o lit => hmk lit o
  cases op <;> simp only at e
  case add | sub | mul | and | or | xor | andNot =>
    split at e
    · rename_i hk
      subst hk
      refine PS.pure e ?_ (hst _ _)
      rw [Sem.run_bind, hg, hbin]
      simp [binOp, Op.intArith, Op.intBits, stdBin]
    · simp at e
  case eql | neq | lss | leq | gtr | geq =>
    split at e
    · rename_i hk
      subst hk
      refine PS.pure e ?_ (hcst _)
      rw [Sem.run_bind, hg, hcmp]
      simp [binOp, Op.intCmp, stdCmp]
    · simp at e
  case quo | rem =>
    split at e
    · rename_i hk
      subst hk
      split at e
      · split at e
        · rename_i hb
          refine PS.pure e ?_ (hst _ _)
          have hb' : b ≠ 0 := by simpa [stdCmp] using hb
          rw [Sem.run_bind, hg, hbin]
          simp [binOp, Op.intDiv, stdBin, hb']
        · simp at e
      · refine PS.pureO e (fun ho => ?_) fun _ => (hst _ _)
        have hb := ho _ (List.mem_cons_self ..)
        rw [hA] at hb
        have hb' : b ≠ 0 := by simpa [stdA, stdCmp] using hb
        rw [Sem.run_bind, hg, hbin]
        simp [binOp, Op.intDiv, stdBin, hb']
    · simp at e
  case shl | shr =>
    split at e
    · split at e
      · rename_i hb
        refine PS.pure e ?_ (hst _ _)
        have hb' : ¬ b < 0 := by simp [stdCmp] at hb; omega
        rw [Sem.run_bind, hg, hbin]
        simp [binOp, Op.shift, stdBin, hb']
      · simp at e
    · refine PS.pureO e (fun ho => ?_) fun _ => (hst _ _)
      have hb := ho _ (List.mem_cons_self ..)
      rw [hA] at hb
      have hb' : ¬ b < 0 := by simp [stdA, stdCmp] at hb; omega
      rw [Sem.run_bind, hg, hbin]
      simp [binOp, Op.shift, stdBin, hb']

/-! ## == -/
theorem eqSc_sound (hA : K.A = stdA) {x y z : Sc} (e : eqSc K x y = some z) : ∃ b : Bool, (∀ ρ, z.den ρ = .bool b) ∧
    ((∃ k p q, x.den ρ = .int k p ∧ y.den ρ = .int k q ∧ b = (p == q)) ∨ (∃ p q : Bool, x.den ρ = .bool p ∧ y.den ρ = .bool q ∧ b = (p == q)) ∨
      (∃ p q : ByteArray, x.den ρ = .string p ∧ y.den ρ = .string q ∧ b = (p == q))) := by
  unfold eqSc at e
  split at e
  all_goals first
    | (split at e
       all_goals first
         | (split at e
            all_goals first
              | (rename_i hk; subst hk; simp only [Option.some.injEq] at e; subst e; exact ⟨_, fun _ => rfl, .inl ⟨_, _, _, rfl, rfl, by simp [stdCmp, hA, stdA]⟩⟩)
              | (simp at e))
         | (simp only [Option.some.injEq] at e; subst e; exact ⟨_, fun _ => rfl, .inr (.inl ⟨_, _, rfl, rfl, by simp [hA, stdA]⟩)⟩)
         | (simp at e))
    | (simp only [Option.some.injEq] at e; subst e; exact ⟨_, fun _ => rfl, .inr (.inr ⟨_, _, rfl, rfl, by simp [hA, stdA]⟩)⟩)
    | (simp at e)

theorem den_tt (ρ : Rho) (b : Bool) : (Sc.tt b).den ρ = .bool b := rfl
theorem den_bool (ρ : Rho) (b : Bool) : (Sc.bool b).den ρ = .bool b := rfl

theorem andSc_sound (hA : K.A = stdA) {x y z : Sc} (e : andSc K x y = some z) {p q : Bool} (hx : ∀ ρ, x.den ρ = .bool p) (hy : ∀ ρ, y.den ρ = .bool q) : ∀ ρ, z.den ρ = .bool (p && q) := by
  have ex := hx fun _ => undef
  have ey := hy fun _ => undef
  unfold andSc at e
  split at e
  · simp only [Option.some.injEq] at e; subst e
    simp only [den_tt, Value.bool.injEq] at ex; subst ex
    simpa using hy
  · simp only [Option.some.injEq] at e; subst e
    simp only [den_tt, Value.bool.injEq] at ex; subst ex
    intro ρ; simp [den_tt]
  · simp only [Option.some.injEq] at e; subst e
    simp only [den_tt, Value.bool.injEq] at ey; subst ey
    simpa using hx
  · simp only [Option.some.injEq] at e; subst e
    simp only [den_tt, Value.bool.injEq] at ey; subst ey
    intro ρ; simp [den_tt]
  · simp only [Option.some.injEq] at e; subst e
    simp only [den_bool, Value.bool.injEq] at ex ey; subst ex ey
    intro ρ; simp [den_bool, hA, stdA]
  · simp at e

theorem notSc_sound (hA : K.A = stdA) {x z : Sc} (e : notSc K x = some z) {p : Bool} (hx : ∀ ρ, x.den ρ = .bool p) : ∀ ρ, z.den ρ = .bool (!p) := by
  have ex := hx fun _ => undef
  unfold notSc at e
  split at e
  · simp only [Option.some.injEq] at e; subst e
    simp only [den_tt, Value.bool.injEq] at ex; subst ex
    intro ρ; rfl
  · simp only [Option.some.injEq] at e; subst e
    simp only [den_bool, Value.bool.injEq] at ex; subst ex
    intro ρ; simp [den_bool, hA, stdA]
  · simp at e

/-! the cells of a plain value tell it -/
theorem dig_ext {x y : Nat} (hx : x < 2 ^ 1024) (hy : y < 2 ^ 1024) (h : ∀ i, i < 32 → x / 2 ^ (32 * i) % 2 ^ 32 = y / 2 ^ (32 * i) % 2 ^ 32) : x = y := by
  have key : ∀ k : Nat, k ≤ 32 → x % 2 ^ (32 * k) = y % 2 ^ (32 * k) := by
    intro k
    induction k with
    | zero => intro _; simp [Nat.mod_one]
    | succ k ih =>
      intro hk
      have h1 := ih (by omega)
      have h2 := h k (by omega)
      rw [show 32 * (k + 1) = 32 * k + 32 from by omega, Nat.pow_add, Nat.mod_mul, Nat.mod_mul (x := y), h1, h2]
  have h32 := key 32 (Nat.le_refl _)
  have e1 : x % 2 ^ (32 * 32) = x := Nat.mod_eq_of_lt (by rw [show 32 * 32 = 1024 from rfl]; exact hx)
  have e2 : y % 2 ^ (32 * 32) = y := Nat.mod_eq_of_lt (by rw [show 32 * 32 = 1024 from rfl]; exact hy)
  rw [e1, e2] at h32
  exact h32

theorem Dg.cells_inj {x y : Dg} (h : x.cells = y.cells) : x = y := by
  have hn : x.n = y.n := dig_ext x.lt y.lt fun i hi => by
    have := congrArg (fun l => l[i]?) h
    simp [Dg.cells, hi] at this
    exact_mod_cast this
  cases x; cases y; simp at hn; subst hn; rfl

theorem Wd.cells_inj {x y : Wd} (h : x.cells = y.cells) : x = y := by
  simp only [Wd.cells, List.cons.injEq, Value.bool.injEq] at h
  have := Dg.cells_inj h.2
  cases x; cases y; simp_all

theorem Rt.cells_inj {x y : Rt} (h : x.cells = y.cells) : x = y := by
  obtain ⟨h1, h2⟩ := List.append_inj h (by simp)
  have := Wd.cells_inj h1
  have := Wd.cells_inj h2
  cases x; cases y; simp_all

theorem Pt.cells_inj {x y : Pt} (h : x.cells = y.cells) : x = y := by
  obtain ⟨h1, h2⟩ := List.append_inj h (by simp)
  have := Rt.cells_inj h1
  have := Rt.cells_inj h2
  cases x; cases y; simp_all

end
end Go.Eng
