/- Contracts: the reference's numbers: tenth, text, Text. -/
import Derived.Test.YtmajpppjakdodaaCMB
import Derived.Test.YtmajpppjakdodaaCNC
set_option linter.all false
set_option exponentiation.threshold 3000
namespace Go.Eng
open Go.Proofs
set_option maxRecDepth 100000
set_option linter.all false
set_option exponentiation.threshold 3000
set_option exponentiation.threshold 40000
set_option maxHeartbeats 1000000

theorem retFI {ρ : Rho} {q : Nat} {x : Sc} {k : IntKind} {a c : Int} (h : a = c) : (XV.t [.s x, .s (.int k a)]).den ρ = (XV.t [.s (.hs q), .s (.int k c)]).den (extR q [x] ρ) := by
  subst h
  have e1 : extR q [x] ρ q = x.den ρ := extR_new (i := 0) rfl
  show Value.tuple #[x.den ρ, .int k a] = .tuple #[extR q [x] ρ q, .int k a]
  rw [e1]

def gMtenth (M : SM) : List CV → List Blk → Option LR
  | [.s (.hs 0)], [.vec false (.int .u32) l] => some ⟨[M.ok l], .t [.s (.hs 1), .s (.int .u32 (M.tr l))], [.vec false (.int .u32) (M.tq l)]⟩
  | _, _ => none

structure TnI (l : List Int) (i : Int) (Q : List Int) (r : Int) : Prop where
  i0 : -1 ≤ i
  i1 : i < (l.length : Int)
  len : Q.length = l.length
  w : W32 Q
  r0 : 0 ≤ r
  r1 : r < 10
  eq : valL (l.drop (i + 1).toNat) = 10 * valL (Q.drop (i + 1).toNat) + r.toNat

theorem drop_getD {l : List Int} {i : Nat} (h : i < l.length) : l.drop i = l.getD i 0 :: l.drop (i + 1) := by
  rw [List.drop_eq_getElem_cons h]
  congr 1
  simp [List.getD_eq_getElem?_getD, List.getElem?_eq_getElem h]

structure TnStep (A : Alg) (l : List Int) (i : Int) (Q : List Int) (r x : Int) : Prop where
  o1 : A.cmp .leq 0 i = true
  o2 : A.cmp .lss i (A.len l) = true
  o3 : A.cmp .lss i (A.len Q) = true
  nx : TnI l (i - 1) (A.set Q i (A.wrap .u32 (A.bin .quo .u64 x 10))) (A.bin .rem .u64 x 10)
  ad : A.bin .sub .i64 i 1 = i - 1
  ms : (i - 1 + 1).toNat < (i + 1).toNat

theorem tn_step {l : List Int} (hl : Mag l) {i : Int} {Q : List Int} {r : Int} (hI : TnI l i Q r) (A : Alg) (hA : A = stdA) (hb : A.cmp .geq i 0 = true) (x : Int) (hx : x = A.bin .or .u64 (A.bin .shl .u64 r 32) (A.wrap .u64 (A.get l i 0))) : TnStep A l i Q r x := by
  subst hA
  have hb : i ≥ 0 := of_decide_eq_true hb
  obtain ⟨i0, i1, hlen, hw, r0, r1, heq⟩ := hI
  have hn := hl.n
  have g := hl.w.getD i.toNat
  have hi1 : (i + 1).toNat = i.toNat + 1 := by omega
  rw [hi1] at heq
  obtain ⟨R, hR⟩ : ∃ R : Nat, (R : Int) = r := ⟨r.toNat, by omega⟩
  obtain ⟨y, hy⟩ : ∃ y : Nat, (y : Int) = l.getD i.toNat 0 := ⟨(l.getD i.toNat 0).toNat, by omega⟩
  have e1 : stdA.bin .shl .u64 r 32 = ((R * 2 ^ 32 : Nat) : Int) := by
    show IntKind.u64.wrap (r * 2 ^ min (32 : Int).toNat 64) = _
    rw [w_u64, ← hR]
    have : ((2 : Int) ^ min (32 : Int).toNat 64) = 4294967296 := rfl
    rw [this]
    omega
  have e2 : stdA.wrap .u64 (stdA.get l i 0) = (y : Int) := by
    show IntKind.u64.wrap (l.getD i.toNat 0) = _
    rw [w_u64]; omega
  have ex : x = ((y + R * 2 ^ 32 : Nat) : Int) := by
    rw [hx, e1, e2]
    show stdBin .or .u64 _ _ = _
    rw [u64_or _ _ (by omega) (by omega) (by omega) (by omega), Int.toNat_natCast, Int.toNat_natCast, Nat.or_comm, or_add _ _ 32 (by omega) (Nat.dvd_mul_left _ _)]
  obtain ⟨X, hX⟩ : ∃ X, X = y + R * 2 ^ 32 := ⟨_, rfl⟩
  rw [← hX] at ex
  have hXl : X < 2 ^ 64 := by omega
  have eq1 : stdA.wrap .u32 (stdA.bin .quo .u64 x 10) = ((X / 10 : Nat) : Int) := by
    rw [ex]
    show IntKind.u32.wrap (IntKind.u64.wrap ((X : Int).tdiv 10)) = _
    rw [Int.tdiv_eq_ediv_of_nonneg (by omega), w_u64, IntKind.wrap_u32]; omega
  have eq2 : stdA.bin .rem .u64 x 10 = ((X % 10 : Nat) : Int) := by
    rw [ex]
    show (X : Int).tmod 10 = _
    rw [Int.tmod_eq_emod_of_nonneg (by omega)]; omega
  exact {
    o1 := leq_of _ rfl _ _ hb
    o2 := lss_of _ rfl _ _ i1
    o3 := lss_of _ rfl _ _ (by show i < (Q.length : Int); omega)
    nx := by
      rw [eq1, eq2]
      refine ⟨by omega, by omega, ?_, hw.set _ (by omega), by omega, by omega, ?_⟩
      · show (Q.set i.toNat _).length = _
        rw [List.length_set]; exact hlen
      · show valL (l.drop (i - 1 + 1).toNat) = 10 * valL ((Q.set i.toNat ((X / 10 : Nat) : Int)).drop (i - 1 + 1).toNat) + _
        rw [show (i - 1 + 1).toNat = i.toNat by omega, drop_getD (by omega : i.toNat < l.length), drop_getD (by rw [List.length_set]; omega : i.toNat < (Q.set i.toNat ((X / 10 : Nat) : Int)).length), List.drop_set_of_lt (by omega)]
        have hg : (Q.set i.toNat ((X / 10 : Nat) : Int)).getD i.toNat 0 = ((X / 10 : Nat) : Int) := by
          simp [List.getD_eq_getElem?_getD, List.getElem?_set_self (by omega : i.toNat < Q.length)]
        rw [hg]
        simp only [valL, heq, Int.toNat_natCast]
        omega
    ad := by show stdBin .sub .i64 i 1 = i - 1; simp only [stdBin, IntKind.wrap_i64]; omega
    ms := by omega }

structure TnHead (A : Alg) (l : List Int) : Prop where
  o1 : A.cmp .leq 0 (A.len l) = true
  o2 : A.cmp .eql (A.len l) (A.len l) = true
  o3 : A.cmp .leq (A.len l) 1000000 = true
  ini : TnI l (A.bin .sub .i64 (A.len l) 1) (A.rep (A.len l) 0) 0

theorem tn_head {l : List Int} (hl : Mag l) (A : Alg) (hA : A = stdA) : TnHead A l := by
  subst hA
  have hn := hl.n
  have e1 : stdA.bin .sub .i64 (stdA.len l) 1 = (l.length : Int) - 1 := by show stdBin .sub .i64 (l.length : Int) 1 = _; simp only [stdBin, IntKind.wrap_i64]; omega
  exact {
    o1 := leq_of _ rfl _ _ (Int.natCast_nonneg _)
    o2 := by show ((l.length : Int) == l.length) = true; simp
    o3 := leq_of _ rfl _ _ (by show (l.length : Int) ≤ 1000000; omega)
    ini := by
      have e2 : stdA.rep (stdA.len l) (0 : Int) = List.replicate l.length 0 := by show List.replicate ((l.length : Int)).toNat 0 = _; rw [Int.toNat_natCast]
      rw [e1, e2]
      refine ⟨by omega, by omega, by simp, W32.rep0 _, Int.le_refl 0, by decide, ?_⟩
      rw [List.drop_eq_nil_of_le (by omega), List.drop_eq_nil_of_le (by rw [List.length_replicate]; omega)]
      rfl }

theorem tn_end {l : List Int} (hl : Mag l) {i : Int} {Q : List Int} {r : Int} (hI : TnI l i Q r) (A : Alg) (hA : A = stdA) (X : SX) (hX : X = stdX) (M : SM) (hM : M = stdM) (hb : A.cmp .geq i 0 = false) : MagEnd A X Q (M.tq l) ∧ A.wrap .u32 r = M.tr l := by
  subst hM
  obtain ⟨i0, i1, hlen, hw, r0, r1, heq⟩ := hI
  have hb : ¬ i ≥ 0 := by subst hA; exact of_decide_eq_false hb
  have hn := hl.n
  rw [show (i + 1).toNat = 0 by omega, List.drop_zero, List.drop_zero] at heq
  constructor
  · exact mag_end hw (by omega) (by omega : valL Q = valL l / 10) A hA X hX
  · subst hA
    show IntKind.u32.wrap r = ((valL l % 10 : Nat) : Int)
    rw [IntKind.wrap_u32]; omega

theorem ok_mtenth : CallOK Try.prog 98 (heapSemF [.s (.int .u32)] stdA (gMtenth stdM)) := by
  refine callOK_heapF (un := ⟨false, some [0,2,3,4,5,6,7,15]⟩) tok tM16OK mixed (fn := Try.f98) (by kernel_rfl) (by kernel_rfl) (by kernel_rfl) (by decide +kernel) ?_
  intro w Wr args bs r hg ho hWr A L k hA hL hk
  obtain ⟨M, hM⟩ : ∃ M, M = stdM := ⟨_, rfl⟩
  obtain ⟨S, hS⟩ : ∃ S, S = stdW := ⟨_, rfl⟩
  obtain ⟨V, hV⟩ : ∃ V, V = stdV := ⟨_, rfl⟩
  obtain ⟨X, hX⟩ : ∃ X, X = stdX := ⟨_, rfl⟩
  (try rw [← hM])
  (try rw [← hS])
  (try rw [← hV])
  (try rw [← hX])
  (try rw [← hA])
  unfold gMtenth at hg
  split at hg
  rotate_left
  · cases hg
  simp only [Option.some.injEq] at hg
  subst hg
  rename_i l
  have hl : Mag l := isMag_iff.1 ((ho_cons ho).1)
  clear ho
  have hd := tn_head hl A hA
  cbv
  repeat' first | (with_reducible intro hb; cbv) | with_reducible refine And.intro ?_ ?_
  all_goals first | exact hd.o1 | exact hd.o2 | exact hd.o3 | skip
  have i0 := hd.ini
  clear hd
  refine hL _ _ _ (loop_rule (un := ⟨false, some [0, 2, 3, 4, 5, 6, 7, 15]⟩) tok tM16OK mixed (fun p : Int × List Int × Int => ⟨[(6, ⟨[], .c (.s (.int .i64 p.1))⟩), (5, ⟨[], .c (.s (.int .u64 p.2.2))⟩), (4, ⟨[], .c (.s (.hs 1))⟩), (0, ⟨[], .c (.s (.hs 0))⟩)], [(0, .vec false (.int .u32) l), (1, .vec true (.int .u32) p.2.1)], 2⟩)
    (fun p => TnI l p.1 p.2.1 p.2.2) (fun p => (p.1 + 1).toNat) (_, _, 0) i0 ?_ (fun _ i hi => by have := hWr i hi; simp at this; show i < 2; omega) ?_)
  · exact ⟨⟨⟨rfl, rfl, fun _ => rfl⟩, ⟨rfl, rfl, fun _ => rfl⟩, ⟨rfl, rfl, fun _ => rfl⟩, ⟨rfl, rfl, fun _ => rfl⟩, trivial⟩, ⟨leRefl rfl, leRefl rfl, trivial⟩, rfl, rfl⟩
  clear i0
  rintro ⟨i, Q, r⟩ hI A2 L2 k2 hA2 hL2 hnext hexit hret
  have st := fun hb => tn_step hl hI A2 hA2 hb _ rfl
  have en := fun hb => tn_end hl hI A hA X hX M hM (by rw [hA, ← hA2]; exact hb)
  clear hI
  rw [← hA2, ← hS, ← hV, ← hX, ← hM]
  cbv
  repeat' first | (with_reducible intro hb; cbv) | with_reducible refine And.intro ?_ ?_
  all_goals first | exact (st hb).o1 | exact (st hb).o2 | exact (st hb).o3 | skip
  · refine hnext _ (i - 1, _, _) (st hb).nx (st hb).ms ?_
    have ead := (st hb).ad
    exact ⟨⟨⟨rfl, rfl, leI ead⟩, ⟨rfl, rfl, fun _ => rfl⟩, ⟨rfl, rfl, fun _ => rfl⟩, ⟨rfl, rfl, fun _ => rfl⟩, trivial⟩, ⟨leRefl rfl, leRefl rfl, trivial⟩, rfl, rfl⟩
  · apply hexit
    obtain ⟨em, er⟩ := en hb
    clear hexit hnext hret st en hb
    cbv
    repeat' first | (with_reducible intro hb; cbv) | with_reducible refine And.intro ?_ ?_
    all_goals first | exact em.o1 | skip
    subst hM
    exact hk _ _ (GoodF.one _ _ rfl (fun ρ => retFI er) (SrcOK.hw rfl rfl (Int.le_refl 0) em.t0 em.t1 em.eq))

def tM17 (A : Alg) (S : SW) (V : SV) (X : SX) (M : SM) : List (Nat × Sem') := (98, heapSemF [.s (.int .u32)] A (gMtenth M)) :: ((tM16 A S V X M))
theorem tM17OK : COK Try.prog (look (tM17 stdA stdW stdV stdX stdM)) := COK_cons ok_mtenth (tM16OK)

/-! ## text -/
def gMtext (M : SM) (X : SX) : List CV → List Blk → Option LR
  | [.s (.hs 0)], [.vec false (.int .u32) l] => some ⟨[M.ok l, X.wOK l], .c (.s (.str (M.text l))), []⟩
  | _, _ => none

theorem foldl_push (l : List Int) : ∀ r : ByteArray, (l.foldl (fun r n => r.push (UInt8.ofNat n.toNat)) r).data = r.data ++ (l.map fun n => UInt8.ofNat n.toNat).toArray := by
  induction l with
  | nil => intro r; simp
  | cons a l ih =>
    intro r
    rw [List.foldl_cons, ih]
    show (r.data.push _) ++ _ = _
    simp

theorem ofB_data (l : List Int) : (stdA.ofB l).data = (l.map fun n => UInt8.ofNat n.toNat).toArray := by
  show (l.foldl (fun r n => r.push (UInt8.ofNat n.toNat)) ByteArray.empty).data = _
  rw [foldl_push]; simp

theorem ofB_app (l m : List Int) : stdA.ofB l ++ stdA.ofB m = stdA.ofB (l ++ m) := by
  apply ByteArray.ext
  rw [ByteArray.data_append, ofB_data, ofB_data, ofB_data]
  simp

theorem ofB_size (l : List Int) : (stdA.ofB l).size = l.length := by
  show (stdA.ofB l).data.size = _
  rw [ofB_data]; simp

/-- the text so far -/
structure TtI (l p : List Int) (s : ByteArray) : Prop where
  hp : Mag p
  ex : ∃ (f : Nat) (D : List Int), f ≤ 400 ∧ D.length + f = 400 ∧ valL p < 10 ^ f ∧ s = stdA.ofB D ∧ (digD 400 (valL l)).reverse = (digD f (valL p)).reverse ++ D

theorem TtI.init {l : List Int} (hl : Mag l) (h : valL l < 2 ^ 1024) : TtI l l ByteArray.empty :=
  ⟨hl, 400, [], by omega, rfl, Nat.lt_of_lt_of_le h (by decide), rfl, by simp⟩

structure TtStep (A : Alg) (M : SM) (l p : List Int) (s b : ByteArray) : Prop where
  o1 : M.ok p = true
  o2 : A.cmp .leq (A.iadd (A.slen b) (A.slen s)) 1000000 = true
  nx : TtI l (M.tq p) (A.scat b s)
  ms : valL (M.tq p) < valL p

theorem tt_step {l p : List Int} {s : ByteArray} (hI : TtI l p s) (A : Alg) (hA : A = stdA) (M : SM) (hM : M = stdM) (hb : A.cmp .gtr (A.len p) 0 = true) (b : ByteArray) (hx : b = A.ofB [A.wrap .u8 (A.bin .add .u32 48 (M.tr p))]) : TtStep A M l p s b := by
  subst hA hM
  have hb : (p.length : Int) > 0 := of_decide_eq_true hb
  obtain ⟨hp, f, D, f1, f2, f3, f4, f5⟩ := hI
  have hp0 : valL p ≠ 0 := fun h => by have := hp.nz.1 h; omega
  obtain ⟨f, rfl⟩ : ∃ g, f = g + 1 := by
    cases f with
    | zero => simp at f3; omega
    | succ g => exact ⟨g, rfl⟩
  have ec : stdA.wrap .u8 (stdA.bin .add .u32 48 (stdM.tr p)) = (48 + (valL p % 10 : Nat) : Int) := by
    show IntKind.u8.wrap (IntKind.u32.wrap (48 + ((valL p % 10 : Nat) : Int))) = _
    rw [IntKind.wrap_u32, IntKind.wrap_u8]; omega
  rw [ec] at hx
  have eq : stdM.tq p = magL (valL p / 10) := rfl
  have hv : valL (stdM.tq p) = valL p / 10 := by rw [eq, magL_val]
  exact {
    o1 := isMag_iff.2 hp
    o2 := by
      refine leq_of _ rfl _ _ ?_
      show (b.size : Int) + (s.size : Int) ≤ 1000000
      rw [hx, f4, ofB_size, ofB_size]
      simp only [List.length_singleton]
      omega
    nx := by
      refine ⟨?_, f, [(48 + (valL p % 10 : Nat) : Int)] ++ D, by omega, by simp; omega, ?_, ?_, ?_⟩
      · rw [eq]; exact Mag.lt (k := 32000) (Nat.lt_of_le_of_lt (Nat.div_le_self _ _) hp.small) (Nat.le_refl _)
      · rw [hv, Nat.div_lt_iff_lt_mul (by decide), ← Nat.pow_succ]; exact f3
      · show b ++ s = _
        rw [hx, f4]; exact ofB_app _ _
      · rw [f5, digD_one _ _ hp0, List.reverse_cons, hv, List.append_assoc]
    ms := by rw [hv]; omega }

structure TtEnd (A : Alg) (M : SM) (l p : List Int) (s : ByteArray) : Prop where
  eq : valL l ≠ 0 → s = M.text l

theorem tt_end {l p : List Int} {s : ByteArray} (hl : valL l < 2 ^ 1024) (hI : TtI l p s) (A : Alg) (hA : A = stdA) (M : SM) (hM : M = stdM) (hb : A.cmp .gtr (A.len p) 0 = false) (h0 : valL l ≠ 0) : s = M.text l := by
  subst hA hM
  have hb : ¬ (p.length : Int) > 0 := of_decide_eq_false hb
  obtain ⟨hp, f, D, f1, f2, f3, f4, f5⟩ := hI
  have hp0 : valL p = 0 := hp.nz.2 (by omega)
  rw [hp0, digD_nil] at f5
  have hn : (mk1024 (valL l)).n = valL l := Nat.mod_eq_of_lt hl
  show s = stdA.ofB (textL ⟨false, mk1024 (valL l)⟩)
  rw [textL_form _ (by show (mk1024 (valL l)).n ≠ 0; rw [hn]; exact h0)]
  show s = stdA.ofB ([] ++ (digD 400 (mk1024 (valL l)).n).reverse)
  rw [hn, f5, f4]; rfl

theorem ok_mtext : CallOK Try.prog 74 (heapSem [.s (.int .u32)] stdA (gMtext stdM stdX)) := by
  refine callOK_heap (un := ⟨false, some [0,2,3,4,5,8,11]⟩) tok tM17OK mixed (fn := Try.f74) (by kernel_rfl) (by kernel_rfl) (by kernel_rfl) (by decide +kernel) ?_
  intro w Wr args bs r hg ho hWr A L k hA hL hk
  obtain ⟨M, hM⟩ : ∃ M, M = stdM := ⟨_, rfl⟩
  obtain ⟨S, hS⟩ : ∃ S, S = stdW := ⟨_, rfl⟩
  obtain ⟨V, hV⟩ : ∃ V, V = stdV := ⟨_, rfl⟩
  obtain ⟨X, hX⟩ : ∃ X, X = stdX := ⟨_, rfl⟩
  (try rw [← hM])
  (try rw [← hS])
  (try rw [← hV])
  (try rw [← hX])
  (try rw [← hA])
  unfold gMtext at hg
  split at hg
  rotate_left
  · cases hg
  simp only [Option.some.injEq] at hg
  subst hg
  rename_i l
  have hl : Mag l := isMag_iff.1 ((ho_cons ho).1)
  have hlt : valL l < 2 ^ 1024 := by
    have h : tlen l ≤ 32 := of_decide_eq_true ((ho_cons (ho_cons ho).2).1)
    rw [hl.t, hl.len] at h
    exact mWords_32.1 h
  clear ho
  have hz : ∀ b, A.cmp .eql (A.len l) 0 = b → decide (valL l = 0) = b := fun b h => by
    subst hA
    have h : ((l.length : Int) == 0) = b := h
    rw [← h]
    have := hl.nz
    by_cases h0 : valL l = 0
    · rw [decide_eq_true h0]; have := this.1 h0; rw [this]; rfl
    · rw [decide_eq_false h0]
      have : ¬ l.length = 0 := fun h => h0 (this.2 h)
      symm; rw [beq_eq_false_iff_ne]; omega
  have hzt : valL l = 0 → (⟨#[48]⟩ : ByteArray) = M.text l := fun h => by
    subst hM
    show _ = stdA.ofB (textL ⟨false, mk1024 (valL l)⟩)
    unfold textL
    rw [if_pos (by show (mk1024 (valL l)).n = 0; rw [h]; exact Nat.zero_mod _)]
    rfl
  cbv
  repeat' first | (with_reducible intro hb; cbv) | with_reducible refine And.intro ?_ ?_
  · have h := of_decide_eq_true (hz _ hb)
    refine hk _ _ (Good.pure rfl fun ρ => ?_)
    subst hM
    exact retS (hzt h)
  have h0 : valL l ≠ 0 := of_decide_eq_false (hz _ hb)
  have i0 := TtI.init hl hlt
  clear hz hzt hb
  refine hL _ _ _ (loop_ruleR (un := ⟨false, some [0, 2, 3, 4, 5, 11]⟩) tok tM17OK mixed 1 (fun i hi => by have := hWr i hi; simp at this; show i < 1; omega) (fun p : List Int × ByteArray => ⟨[(3, ⟨[], .c (.s (.str p.2))⟩), (0, ⟨[], .c (.s (.hs 1))⟩)], [(1, .vec false (.int .u32) p.1)], 2⟩)
    (fun p => TtI l p.1 p.2) (fun p => valL p.1) (l, ByteArray.empty) i0 [(1, .hs 0)] ?_ (fun _ => Nat.le_of_ble_eq_true rfl) ?_)
  · exact ⟨⟨⟨rfl, rfl, fun _ => rfl⟩, ⟨rfl, rfl, fun _ => rfl⟩, trivial⟩, ⟨⟨rfl, rfl, rfl, rfl, fun h => h⟩, trivial⟩, rfl, rfl, rfl, rfl⟩
  clear i0
  rintro ⟨p, s⟩ hI A2 L2 k2 hA2 hL2 hnext hexit hret
  have st := fun hb => tt_step hI A2 hA2 M hM hb _ rfl
  have en := fun hb => tt_end hlt hI A hA M hM (by rw [hA, ← hA2]; exact hb) h0
  clear hI
  rw [← hA2, ← hS, ← hV, ← hX, ← hM]
  cbv
  repeat' first | (with_reducible intro hb; cbv) | with_reducible refine And.intro ?_ ?_
  all_goals first | exact (st hb).o1 | exact (st hb).o2 | skip
  · refine hnext _ (_, _) [(1, .hs 2)] (st hb).nx (st hb).ms ?_
    exact ⟨⟨⟨rfl, rfl, fun _ => rfl⟩, ⟨rfl, rfl, fun _ => rfl⟩, trivial⟩, ⟨⟨rfl, rfl, rfl, rfl, fun h => h⟩, trivial⟩, rfl, rfl, rfl, rfl⟩
  · apply hexit
    have em := en hb
    clear hexit hnext hret st en hb
    cbv
    refine hk _ _ (Good.pure rfl fun ρ => ?_)
    subst hM
    exact retS em

def tM18 (A : Alg) (S : SW) (V : SV) (X : SX) (M : SM) : List (Nat × Sem') := (74, heapSem [.s (.int .u32)] A (gMtext M X)) :: ((tM17 A S V X M))
theorem tM18OK : COK Try.prog (look (tM18 stdA stdW stdV stdX stdM)) := COK_cons ok_mtext (tM17OK)

theorem text_f (w : Wd) (A : Alg) (hA : A = stdA) (S : SW) (hS : S = stdW) (T : ST) (hT : T = stdT) (X : SX) (hX : X = stdX) (M : SM) (hM : M = stdM) :
    X.wOK (M.of w) = true ∧ (S.below w = true → A.cmp .leq (A.iadd (A.slen ⟨#[45]⟩) (A.slen (M.text (M.of w)))) 1000000 = true ∧ A.scat ⟨#[45]⟩ (M.text (M.of w)) = T.text w) ∧ (S.below w = false → M.text (M.of w) = T.text w) := by
  subst hA hS hT hX hM
  have hv : valL (stdM.of w) = w.d.n := magL_val _
  have hd : mk1024 w.d.n = w.d := Dg.ext' (Nat.mod_eq_of_lt w.d.lt)
  have et : stdM.text (stdM.of w) = stdA.ofB (textL ⟨false, w.d⟩) := by
    show stdA.ofB (textL ⟨false, mk1024 (valL (stdM.of w))⟩) = _
    rw [hv, hd]
  have hT : stdT.text w = stdA.ofB (textL w) := rfl
  have hlen : (textL ⟨false, w.d⟩).length ≤ 400 := by
    have h10 : (2 : Nat) ^ 1024 ≤ 10 ^ 309 := by decide
    by_cases h0 : w.d.n = 0
    · unfold textL; rw [if_pos h0]; decide
    · rw [textL_form ⟨false, w.d⟩ h0, List.length_append, List.length_reverse]
      have := digD_len 400 309 w.d.n (Nat.lt_of_lt_of_le w.d.lt h10)
      show (if false = true then [(45 : Int)] else []).length + (digD 400 w.d.n).length ≤ 400
      simp; omega
  refine ⟨?_, fun h => ⟨?_, ?_⟩, fun h => ?_⟩
  · show decide (tlen (magL w.d.n) ≤ 32) = true
    rw [(Mag.ofW w).t, magL_len]
    exact decide_eq_true (mWords_32.2 w.d.lt)
  · refine leq_of _ rfl _ _ ?_
    rw [et]
    show ((1 : Nat) : Int) + ((stdA.ofB (textL ⟨false, w.d⟩)).size : Int) ≤ 1000000
    rw [ofB_size]; omega
  · have h : (w.neg && decide (w.d.n ≠ 0)) = true := h
    rw [Bool.and_eq_true, decide_eq_true_eq] at h
    rw [et, hT]
    have e1 : (⟨#[45]⟩ : ByteArray) = stdA.ofB [45] := rfl
    show (⟨#[45]⟩ : ByteArray) ++ stdA.ofB (textL ⟨false, w.d⟩) = _
    rw [e1, ofB_app, textL_form w h.2, textL_form ⟨false, w.d⟩ h.2, h.1]
    rfl
  · have h : (w.neg && decide (w.d.n ≠ 0)) = false := h
    rw [et, hT]
    by_cases h0 : w.d.n = 0
    · unfold textL; rw [if_pos h0, if_pos h0]
    · have hn : w.neg = false := by simpa [h0] using h
      rw [textL_form w h0, textL_form ⟨false, w.d⟩ h0, hn]

theorem ok_mtextW : CallOK Try.prog 40 (heapSem [.v] stdA (gText stdT)) := by
  refine callOK_heap (un := ⟨false, some [1,2,4]⟩) tok tM18OK mixed (fn := Try.f40) (by kernel_rfl) (by kernel_rfl) (by kernel_rfl) (by decide +kernel) ?_
  intro w Wr args bs r hg ho hWr A L k hA hL hk
  obtain ⟨M, hM⟩ : ∃ M, M = stdM := ⟨_, rfl⟩
  obtain ⟨S, hS⟩ : ∃ S, S = stdW := ⟨_, rfl⟩
  obtain ⟨T, hT⟩ : ∃ T, T = stdT := ⟨_, rfl⟩
  obtain ⟨V, hV⟩ : ∃ V, V = stdV := ⟨_, rfl⟩
  obtain ⟨X, hX⟩ : ∃ X, X = stdX := ⟨_, rfl⟩
  (try rw [← hM])
  (try rw [← hS])
  (try rw [← hT])
  (try rw [← hV])
  (try rw [← hX])
  (try rw [← hA])
  unfold gText at hg
  split at hg
  rotate_left
  · cases hg
  simp only [Option.some.injEq] at hg
  subst hg
  rename_i w
  have mf := mfs A hA X hX M hM
  have tf := text_f w A hA S hS T hT X hX M hM
  cbv
  repeat' first | (with_reducible intro hb; cbv) | with_reducible refine And.intro ?_ ?_
  all_goals first | exact mf.of _ | exact tf.1 | exact (tf.2.1 hb).1 | skip
  · refine hk _ _ (Good.pure rfl fun ρ => ?_)
    have := (tf.2.1 hb).2
    subst hT
    exact retS this
  · refine hk _ _ (Good.pure rfl fun ρ => ?_)
    have := tf.2.2 hb
    subst hT
    exact retS this

def tM19 (A : Alg) (S : SW) (V : SV) (T : ST) (X : SX) (M : SM) : List (Nat × Sem') := (40, heapSem [.v] A (gText T)) :: ((tM18 A S V X M))
theorem tM19OK : COK Try.prog (look (tM19 stdA stdW stdV stdT stdX stdM)) := COK_cons ok_mtextW (tM18OK)
end Go.Eng
