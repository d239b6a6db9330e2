
import Derived.Test.YtjjmpghdjoohfaaCVA
import Derived.Test.YtjjmpghdjoohfaaEngMW
set_option linter.all false
set_option exponentiation.threshold 3000
namespace Go.Eng
open Go.Proofs
set_option maxRecDepth 100000
set_option linter.all false
set_option exponentiation.threshold 3000
set_option maxHeartbeats 2000000
def gToldL (A : Alg) : List CV → List Blk → Option LW
  | [.g [.R r], .s (.bool o), .s (.hp 0 0)], [.fix true [.s (.tt false)]] => some ⟨[], .c (.g [.R r]), [], [.fix true [.s (.bool (A.not o))]]⟩
  | [.g [.R r], .s (.bool o), .s (.hp 0 0)], [.fix true [.s (.bool b)]] => some ⟨[], .c (.g [.R r]), [], [.fix true [.s (.bool (A.ite b true (A.not o)))]]⟩
  | _, _ => none
theorem ok_ltold : CallOK Try.prog 61 (heapSemW [.v, .v, .pw] stdA (gToldL stdA)) := by
  refine callOK_heapW (un := ⟨false, some [1,2,3,5]⟩) tok noCOK mixed (fn := Try.f61) (by kernel_rfl) (by kernel_rfl) (by kernel_rfl) (by decide +kernel) ?_
  intro w Wr args bs r hg ho hWr A L k hA hL hk
  (try rw [← hA])
  unfold gToldL at hg
  split at hg
  · simp only [Option.some.injEq] at hg
    subst hg
    cbv
    subst hA
    exact hk _ _ (GoodW.one (t := 0) rfl (fun ρ => retR rfl) rfl rfl rfl (leRefl rfl))
  · simp only [Option.some.injEq] at hg
    subst hg
    cbv
    subst hA
    exact hk _ _ (GoodW.one (t := 0) rfl (fun ρ => retR rfl) rfl rfl rfl (leRefl rfl))
  · cases hg
def gAlong (F : SF) (J : SJ) : List CV → List Blk → Option LR
  | [.g [.R x1], .g [.R y1], .g [.R x2], .g [.R y2], .g [.R x]], [] => some ⟨[F.safe x1 60, F.safe y1 60, F.safe x2 60, F.safe y2 60, F.safe x 60], .t [.g [.R (J.alg x1 y1 x2 y2 x)], .s (.bool (J.alOK x1 x2 x))], []⟩
  | _, _ => none
def alC (A : Alg) (F : SF) (x1 x2 x : Rt) : Bool := A.ite (A.ite (A.ite (A.ite (A.not (F.two x1 x)) true (A.not (F.two x x2))) true (A.not (F.two x1 x2))) true (A.cmp .eql (F.cmp x1 x2) 0)) true (A.cmp .lss (A.bin .mul .i64 (F.cmp x1 x) (F.cmp x x2)) 0)
structure AlF (A : Alg) (F : SF) (J : SJ) (x1 y1 x2 y2 x : Rt) : Prop where
  no : alC A F x1 x2 x = true → zeroR = J.alg x1 y1 x2 y2 x ∧ false = J.alOK x1 x2 x
  ok : alC A F x1 x2 x = false → true = J.alOK x1 x2 x
  t1 : alC A F x1 x2 x = false → F.two x x1 = true ∧ F.two x2 x1 = true ∧ F.divOK (F.sub x x1) (F.sub x2 x1) = true ∧ F.two y2 y1 = true ∧ F.two (F.div (F.sub x x1) (F.sub x2 x1)) (F.sub y2 y1) = true ∧ F.two y1 (F.mul (F.div (F.sub x x1) (F.sub x2 x1)) (F.sub y2 y1)) = true
  v : alC A F x1 x2 x = false → F.add y1 (F.mul (F.div (F.sub x x1) (F.sub x2 x1)) (F.sub y2 y1)) = J.alg x1 y1 x2 y2 x
theorem al_c {x1 x2 x : Rt} (h1 : SafeR x1 60) (h2 : SafeR x2 60) (hx : SafeR x 60) : alC stdA stdF x1 x2 x = !alOKP x1 x2 x := by
  obtain ⟨a1, b1⟩ := (Cal.of h1).cmp (Cal.of hx) (by decide)
  obtain ⟨a2, b2⟩ := (Cal.of hx).cmp (Cal.of h2) (by decide)
  obtain ⟨a3, b3⟩ := (Cal.of h1).cmp (Cal.of h2) (by decide)
  unfold alC alOKP
  rw [a1, a2, a3, b1, b2, b3]
  show (if (if (if (if (!true) = true then true else (!true)) = true then true else (!true)) = true then true else (sgnQ (rval x1) (rval x2) == 0)) = true then true else decide (stdBin .mul .i64 (sgnQ (rval x1) (rval x)) (sgnQ (rval x) (rval x2)) < 0)) = _
  rw [sgnQ_mul]
  have e1 : (sgnQ (rval x1) (rval x2) == 0) = !decide (rval x1 ≠ rval x2) := by
    by_cases h : rval x1 = rval x2
    · rw [(sgnQ_eq _ _).2 h, h]; simp
    · rw [beq_eq_false_iff_ne.2 fun h' => h ((sgnQ_eq _ _).1 h'), decide_eq_true h]; rfl
  have e2 : decide (sgnQ (rval x1) (rval x) * sgnQ (rval x) (rval x2) < 0) = !decide (0 ≤ sgnQ (rval x1) (rval x) * sgnQ (rval x) (rval x2)) := by
    by_cases h : 0 ≤ sgnQ (rval x1) (rval x) * sgnQ (rval x) (rval x2)
    · rw [decide_eq_true h, decide_eq_false (by omega)]; rfl
    · rw [decide_eq_false h, decide_eq_true (by omega)]; rfl
  rw [e1, e2]
  cases decide (rval x1 ≠ rval x2) <;> cases decide (0 ≤ sgnQ (rval x1) (rval x) * sgnQ (rval x) (rval x2)) <;> rfl
theorem al_f {x1 y1 x2 y2 x : Rt} (A : Alg) (hA : A = stdA) (F : SF) (hF : F = stdF) (J : SJ) (hJ : J = stdJ) (h1 : F.safe x1 60 = true) (g1 : F.safe y1 60 = true) (h2 : F.safe x2 60 = true) (g2 : F.safe y2 60 = true) (hx : F.safe x 60 = true) : AlF A F J x1 y1 x2 y2 x := by
  subst hA hF hJ
  have h1 : SafeR x1 60 := safeR_of h1 (by decide)
  have h2 : SafeR x2 60 := safeR_of h2 (by decide)
  have g1 : SafeR y1 60 := safeR_of g1 (by decide)
  have g2 : SafeR y2 60 := safeR_of g2 (by decide)
  have hx : SafeR x 60 := safeR_of hx (by decide)
  have hc := al_c h1 h2 hx
  have ev : ∀ c, alOKP x1 x2 x = c → stdJ.alg x1 y1 x2 y2 x = if c then ofQ (algQ (rval x1) (rval y1) (rval x2) (rval y2) (rval x)) else zeroR := fun c h => by
    show (if alOKP x1 x2 x = true then _ else _) = _
    rw [h]
  have s1 := (Cal.of hx).sub (Cal.of h1) (by decide)
  have s2 := (Cal.of h2).sub (Cal.of h1) (by decide)
  have s3 := (Cal.of g2).sub (Cal.of g1) (by decide)
  have key : alC stdA stdF x1 x2 x = false → rval x2 - rval x1 ≠ 0 := fun h => by
    rw [hc, Bool.not_eq_false'] at h
    unfold alOKP at h
    rw [Bool.and_eq_true, decide_eq_true_eq] at h
    intro e
    exact h.1 (by grind)
  refine ⟨fun h => ?_, fun h => ?_, fun h => ?_, fun h => ?_⟩
  · rw [hc, Bool.not_eq_true'] at h
    exact ⟨(ev _ h).symm, h.symm⟩
  · rw [hc, Bool.not_eq_false'] at h
    exact h.symm
  · have d := s1.2.div s2.2 (by decide) (key h)
    have m := d.2.mul (s3.2.mono (by decide)) (by decide)
    have a := ((Cal.of g1).mono (by decide)).add m.2 (by decide)
    exact ⟨s1.1, s2.1, d.1, s3.1, m.1, a.1⟩
  · have d := s1.2.div s2.2 (by decide) (key h)
    have m := d.2.mul (s3.2.mono (by decide)) (by decide)
    have a := ((Cal.of g1).mono (by decide)).add m.2 (by decide)
    have hk := key h
    rw [hc, Bool.not_eq_false'] at h
    rw [ev _ h, a.2.eq]
    show ofQ _ = ofQ _
    congr 1
    unfold algQ
    grind
def tK7 (A : Alg) (F : SF) : List (Nat × Sem') := (31, heapSem [.v, .v] A (gCmpF F)) :: (61, heapSemW [.v, .v, .pw] A (gToldL A)) :: (62, heapSem [.v, .v] A (gSubF F)) :: (37, heapSem [.v, .v] A (gDivF F)) :: (63, heapSem [.v, .v] A (gAddF F)) :: (64, heapSem [.v, .v] A (gMulF F)) :: ([])
theorem tK7OK : COK Try.prog (look (tK7 stdA stdF)) := COK_cons ok_fcmp (COK_cons ok_ltold (COK_cons ok_fsub (COK_cons ok_fdiv (COK_cons ok_fadd (COK_cons ok_fmul (COK_nil))))))
theorem ok_lalong : CallOK Try.prog 39 (heapSem [.v, .v, .v, .v, .v] stdA (gAlong stdF stdJ)) := by
  refine callOK_heap (un := ⟨false, some [5,6,7,8,9,10,11,12,13,14,15,16,17,18,19,20,21,59,100]⟩) tok tK7OK mixed (fn := Try.f39) (by kernel_rfl) (by kernel_rfl) (by kernel_rfl) (by decide +kernel) ?_
  intro w Wr args bs r hg ho hWr A L k hA hL hk
  obtain ⟨F, hF⟩ : ∃ F, F = stdF := ⟨_, rfl⟩
  obtain ⟨J, hJ⟩ : ∃ J, J = stdJ := ⟨_, rfl⟩
  (try rw [← hF])
  (try rw [← hJ])
  (try rw [← hA])
  unfold gAlong at hg
  split at hg
  rotate_left
  · cases hg
  simp only [Option.some.injEq] at hg
  subst hg
  rename_i x1 y1 x2 y2 x
  have o1 := (ho_cons ho).1; replace ho := (ho_cons ho).2
  have o2 := (ho_cons ho).1; replace ho := (ho_cons ho).2
  have o3 := (ho_cons ho).1; replace ho := (ho_cons ho).2
  have o4 := (ho_cons ho).1; replace ho := (ho_cons ho).2
  have o5 := (ho_cons ho).1
  clear ho
  rw [← hF] at o1 o2 o3 o4 o5
  have al := al_f A hA F hF J hJ o1 o2 o3 o4 o5
  cbv
  repeat' first | (with_reducible intro hb; cbv) | with_reducible refine And.intro ?_ ?_
  · have e := al.no hb
    refine hk _ _ (Good.pure rfl fun ρ => ?_)
    subst hJ
    exact tupRt e.1 e.2
  · rename_i h0
    exfalso
    obtain ⟨t1, t2, t3, t4, t5, t6⟩ := al.t1 h0
    simp only [t1, t2, t3, t4, t5, t6] at hb
    clear al t1 t2 t3 t4 t5 t6 h0
    subst hA
    exact absurd hb (by decide)
  · rename_i h0
    have e := al.v h0
    have e2 := al.ok h0
    refine hk _ _ (Good.pure rfl fun ρ => ?_)
    subst hF hJ
    exact tupRt e e2
def gYAt (J : SJ) : List CV → List Blk → Option LR
  | [.g [.P a], .g [.P b], .g [.R x]], [] => some ⟨[], .t [.g [.R (J.yat a b x)], .s (.bool (J.yok a b x))], []⟩
  | _, _ => none
def gXAt (J : SJ) : List CV → List Blk → Option LR
  | [.g [.P a], .g [.P b], .g [.R x]], [] => some ⟨[], .t [.g [.R (J.xat a b x)], .s (.bool (J.xok a b x))], []⟩
  | _, _ => none
structure YaF (A : Alg) (F : SF) (H : SH) (J : SJ) (a b : Pt) (x : Rt) : Prop where
  al : A.cmp .lss (A.len [a, b]) 1000000 = true
  no : A.ite (A.not (H.all [a, b])) true (A.not (F.safe x 60)) = true → zeroR = J.yat a b x ∧ false = J.yok a b x ∧ zeroR = J.xat a b x ∧ false = J.xok a b x
  ok : A.ite (A.not (H.all [a, b])) true (A.not (F.safe x 60)) = false → F.safe a.X 60 = true ∧ F.safe a.Y 60 = true ∧ F.safe b.X 60 = true ∧ F.safe b.Y 60 = true ∧ F.safe x 60 = true
  v : A.ite (A.not (H.all [a, b])) true (A.not (F.safe x 60)) = false → J.alg a.X a.Y b.X b.Y x = J.yat a b x ∧ J.alOK a.X b.X x = J.yok a b x ∧ J.alg a.Y a.X b.Y b.X x = J.xat a b x ∧ J.alOK a.Y b.Y x = J.xok a b x
theorem ya_f (a b : Pt) (x : Rt) (A : Alg) (hA : A = stdA) (F : SF) (hF : F = stdF) (H : SH) (hH : H = stdH) (J : SJ) (hJ : J = stdJ) : YaF A F H J a b x := by
  subst hA hF hH hJ
  have hc : stdA.ite (stdA.not (stdH.all [a, b])) true (stdA.not (stdF.safe x 60)) = !yrawP a b x := by
    show (if (!allP [a, b]) = true then true else !safeR x 60) = !(allP [a, b] && safeR x 60)
    cases allP [a, b] <;> rfl
  have hs : yrawP (swapP a) (swapP b) x = yrawP a b x := by
    unfold yrawP
    have : allP [swapP a, swapP b] = allP [a, b] := by
      show ((safeR a.Y 60 && safeR a.X 60) && ((safeR b.Y 60 && safeR b.X 60) && true)) = ((safeR a.X 60 && safeR a.Y 60) && ((safeR b.X 60 && safeR b.Y 60) && true))
      rw [Bool.and_comm (safeR a.Y 60), Bool.and_comm (safeR b.Y 60)]
    rw [this]
  have ey : ∀ c, yrawP a b x = c → (stdJ.yat a b x = if c then algP a.X a.Y b.X b.Y x else zeroR) ∧ (stdJ.yok a b x = (c && alOKP a.X b.X x)) ∧ (stdJ.xat a b x = if c then algP a.Y a.X b.Y b.X x else zeroR) ∧ (stdJ.xok a b x = (c && alOKP a.Y b.Y x)) := fun c h => by
    refine ⟨?_, ?_, ?_, ?_⟩
    · show (if yrawP a b x = true then _ else _) = _
      rw [h]
    · show (yrawP a b x && _) = _
      rw [h]
    · show (if yrawP (swapP a) (swapP b) x = true then _ else _) = _
      rw [hs, h]; rfl
    · show (yrawP (swapP a) (swapP b) x && _) = _
      rw [hs, h]; rfl
  refine ⟨len_lt rfl _ (by show 2 < 1000000; decide), fun h => ?_, fun h => ?_, fun h => ?_⟩
  · rw [hc, Bool.not_eq_true'] at h
    obtain ⟨e1, e2, e3, e4⟩ := ey _ h
    exact ⟨e1.symm, e2.symm, e3.symm, e4.symm⟩
  · rw [hc, Bool.not_eq_false'] at h
    unfold yrawP at h
    rw [Bool.and_eq_true] at h
    obtain ⟨h, hx⟩ := h
    have h : (ptOK a && (ptOK b && true)) = true := h
    unfold ptOK at h
    simp only [Bool.and_true, Bool.and_eq_true] at h
    exact ⟨h.1.1, h.1.2, h.2.1, h.2.2, hx⟩
  · rw [hc, Bool.not_eq_false'] at h
    obtain ⟨e1, e2, e3, e4⟩ := ey _ h
    exact ⟨e1.symm, e2.symm, e3.symm, e4.symm⟩
def tK8 (A : Alg) (F : SF) (H : SH) (J : SJ) : List (Nat × Sem') := (21, heapSem [.s .pt] A (gAllP A H)) :: (38, heapSem [.v, .v] A (gSafeR F)) :: (39, heapSem [.v, .v, .v, .v, .v] A (gAlong F J)) :: ([])
theorem tK8OK : COK Try.prog (look (tK8 stdA stdF stdH stdJ)) := COK_cons ok_lare (COK_cons ok_fsafe (COK_cons ok_lalong (COK_nil)))
theorem ok_lyat : CallOK Try.prog 16 (heapSem [.v, .v, .v] stdA (gYAt stdJ)) := by
  refine callOK_heap (un := ⟨false, some [3,4,5,6,7,17]⟩) tok tK8OK mixed (fn := Try.f16) (by kernel_rfl) (by kernel_rfl) (by kernel_rfl) (by decide +kernel) ?_
  intro w Wr args bs r hg ho hWr A L k hA hL hk
  obtain ⟨F, hF⟩ : ∃ F, F = stdF := ⟨_, rfl⟩
  obtain ⟨H, hH⟩ : ∃ H, H = stdH := ⟨_, rfl⟩
  obtain ⟨J, hJ⟩ : ∃ J, J = stdJ := ⟨_, rfl⟩
  (try rw [← hF])
  (try rw [← hH])
  (try rw [← hJ])
  (try rw [← hA])
  unfold gYAt at hg
  split at hg
  rotate_left
  · cases hg
  simp only [Option.some.injEq] at hg
  subst hg
  rename_i a b x
  have ya := ya_f a b x A hA F hF H hH J hJ
  cbv
  repeat' first | (with_reducible intro hb; cbv) | with_reducible refine And.intro ?_ ?_
  all_goals first | exact ya.al | exact (ya.ok (by assumption)).1 | exact (ya.ok (by assumption)).2.1 | exact (ya.ok (by assumption)).2.2.1 | exact (ya.ok (by assumption)).2.2.2.1 | exact (ya.ok (by assumption)).2.2.2.2 | skip
  · have e := ya.no hb
    refine hk _ _ (Good.pure rfl fun ρ => ?_)
    subst hJ
    exact tupRt e.1 e.2.1
  · have e := ya.v hb
    refine hk _ _ (Good.pure rfl fun ρ => ?_)
    subst hJ
    exact tupR e.1 e.2.1
theorem ok_lxat : CallOK Try.prog 18 (heapSem [.v, .v, .v] stdA (gXAt stdJ)) := by
  refine callOK_heap (un := ⟨false, some [3,4,5,6,7,17]⟩) tok tK8OK mixed (fn := Try.f18) (by kernel_rfl) (by kernel_rfl) (by kernel_rfl) (by decide +kernel) ?_
  intro w Wr args bs r hg ho hWr A L k hA hL hk
  obtain ⟨F, hF⟩ : ∃ F, F = stdF := ⟨_, rfl⟩
  obtain ⟨H, hH⟩ : ∃ H, H = stdH := ⟨_, rfl⟩
  obtain ⟨J, hJ⟩ : ∃ J, J = stdJ := ⟨_, rfl⟩
  (try rw [← hF])
  (try rw [← hH])
  (try rw [← hJ])
  (try rw [← hA])
  unfold gXAt at hg
  split at hg
  rotate_left
  · cases hg
  simp only [Option.some.injEq] at hg
  subst hg
  rename_i a b x
  have ya := ya_f a b x A hA F hF H hH J hJ
  cbv
  repeat' first | (with_reducible intro hb; cbv) | with_reducible refine And.intro ?_ ?_
  all_goals first | exact ya.al | exact (ya.ok (by assumption)).1 | exact (ya.ok (by assumption)).2.1 | exact (ya.ok (by assumption)).2.2.1 | exact (ya.ok (by assumption)).2.2.2.1 | exact (ya.ok (by assumption)).2.2.2.2 | skip
  · have e := ya.no hb
    refine hk _ _ (Good.pure rfl fun ρ => ?_)
    subst hJ
    exact tupRt e.2.2.1 e.2.2.2
  · have e := ya.v hb
    refine hk _ _ (Good.pure rfl fun ρ => ?_)
    subst hJ
    exact tupR e.2.2.1 e.2.2.2
end Go.Eng
namespace Go.Eng
open Go.Proofs
set_option maxRecDepth 100000
set_option linter.all false
set_option exponentiation.threshold 3000
set_option maxHeartbeats 2000000
end Go.Eng

