
import Derived.Test.YtjjmpghdjoohfaaGreatZCVA
import Derived.Test.YtjjmpghdjoohfaaGreatEngMW
set_option linter.all false
set_option exponentiation.threshold 3000
namespace Go.Eng
open Go.Proofs
set_option maxRecDepth 100000
set_option linter.all false
set_option exponentiation.threshold 3000
set_option maxHeartbeats 2000000
def gToldL (A : Alg) : List CV → List Blk → Option LW
  | [.g [.R r], .s (.bool o), .s (.hp 0 0)], [.fix true [.s (.tt false)]] => some ⟨[], .c (.g [.R r]), [], [.fix true [.s (.bool (A.not o))]]⟩
  | [.g [.R r], .s (.bool o), .s (.hp 0 0)], [.fix true [.s (.bool b)]] => some ⟨[], .c (.g [.R r]), [], [.fix true [.s (.bool (A.ite b true (A.not o)))]]⟩
  | _, _ => none
theorem ok_ltold : CallOK Tryz.prog 83 (heapSemW [.v, .v, .pw] stdA (gToldL stdA)) := by
  refine callOK_heapW (un := ⟨false, some [1,2,3,5]⟩) tok noCOK mixed (fn := Tryz.f83) (by kernel_rfl) (by kernel_rfl) (by kernel_rfl) (by decide +kernel) ?_
  intro w Wr args bs r hg ho hWr A L k hA hL hk
  (try rw [← hA])
  unfold gToldL at hg
  split at hg
  · simp only [Option.some.injEq] at hg
    subst hg
    cbv
    subst hA
    exact hk _ _ (GoodW.one (t := 0) rfl (fun ρ => retR rfl) rfl rfl rfl (leRefl rfl))
  · simp only [Option.some.injEq] at hg
    subst hg
    cbv
    subst hA
    exact hk _ _ (GoodW.one (t := 0) rfl (fun ρ => retR rfl) rfl rfl rfl (leRefl rfl))
  · cases hg
def gAlong (F : SF) (J : SJ) : List CV → List Blk → Option LR
  | [.g [.R x1], .g [.R y1], .g [.R x2], .g [.R y2], .g [.R x]], [] => some ⟨[F.safe x1 60, F.safe y1 60, F.safe x2 60, F.safe y2 60, F.safe x 60], .t [.g [.R (J.alg x1 y1 x2 y2 x)], .s (.bool (J.alOK x1 x2 x))], []⟩
  | _, _ => none
def alC (A : Alg) (F : SF) (x1 x2 x : Rt) : Bool := A.ite (A.ite (A.ite (A.ite (A.not (F.two x1 x)) true (A.not (F.two x x2))) true (A.not (F.two x1 x2))) true (A.cmp .eql (F.cmp x1 x2) 0)) true (A.cmp .lss (A.bin .mul .i64 (F.cmp x1 x) (F.cmp x x2)) 0)
structure AlF (A : Alg) (F : SF) (J : SJ) (x1 y1 x2 y2 x : Rt) : Prop where
  no : alC A F x1 x2 x = true → zeroR = J.alg x1 y1 x2 y2 x ∧ false = J.alOK x1 x2 x
  ok : alC A F x1 x2 x = false → true = J.alOK x1 x2 x
  t1 : alC A F x1 x2 x = false → F.two x x1 = true ∧ F.two x2 x1 = true ∧ F.divOK (F.sub x x1) (F.sub x2 x1) = true ∧ F.two y2 y1 = true ∧ F.two (F.div (F.sub x x1) (F.sub x2 x1)) (F.sub y2 y1) = true ∧ F.two y1 (F.mul (F.div (F.sub x x1) (F.sub x2 x1)) (F.sub y2 y1)) = true
  v : alC A F x1 x2 x = false → F.add y1 (F.mul (F.div (F.sub x x1) (F.sub x2 x1)) (F.sub y2 y1)) = J.alg x1 y1 x2 y2 x
theorem al_c {x1 x2 x : Rt} (h1 : SafeR x1 60) (h2 : SafeR x2 60) (hx : SafeR x 60) : alC stdA stdF x1 x2 x = !alOKP x1 x2 x := by
  obtain ⟨a1, b1⟩ := (Cal.of h1).cmp (Cal.of hx) (by decide)
  obtain ⟨a2, b2⟩ := (Cal.of hx).cmp (Cal.of h2) (by decide)
  obtain ⟨a3, b3⟩ := (Cal.of h1).cmp (Cal.of h2) (by decide)
  unfold alC alOKP
  rw [a1, a2, a3, b1, b2, b3]
  show (if (if (if (if (!true) = true then true else (!true)) = true then true else (!true)) = true then true else (sgnQ (rval x1) (rval x2) == 0)) = true then true else decide (stdBin .mul .i64 (sgnQ (rval x1) (rval x)) (sgnQ (rval x) (rval x2)) < 0)) = _
  rw [sgnQ_mul]
  have e1 : (sgnQ (rval x1) (rval x2) == 0) = !decide (rval x1 ≠ rval x2) := by
    by_cases h : rval x1 = rval x2
    · rw [(sgnQ_eq _ _).2 h, h]; simp
    · rw [beq_eq_false_iff_ne.2 fun h' => h ((sgnQ_eq _ _).1 h'), decide_eq_true h]; rfl
  have e2 : decide (sgnQ (rval x1) (rval x) * sgnQ (rval x) (rval x2) < 0) = !decide (0 ≤ sgnQ (rval x1) (rval x) * sgnQ (rval x) (rval x2)) := by
    by_cases h : 0 ≤ sgnQ (rval x1) (rval x) * sgnQ (rval x) (rval x2)
    · rw [decide_eq_true h, decide_eq_false (by omega)]; rfl
    · rw [decide_eq_false h, decide_eq_true (by omega)]; rfl
  rw [e1, e2]
  cases decide (rval x1 ≠ rval x2) <;> cases decide (0 ≤ sgnQ (rval x1) (rval x) * sgnQ (rval x) (rval x2)) <;> rfl
theorem al_f {x1 y1 x2 y2 x : Rt} (A : Alg) (hA : A = stdA) (F : SF) (hF : F = stdF) (J : SJ) (hJ : J = stdJ) (h1 : F.safe x1 60 = true) (g1 : F.safe y1 60 = true) (h2 : F.safe x2 60 = true) (g2 : F.safe y2 60 = true) (hx : F.safe x 60 = true) : AlF A F J x1 y1 x2 y2 x := by
  subst hA hF hJ
  have h1 : SafeR x1 60 := safeR_of h1 (by decide)
  have h2 : SafeR x2 60 := safeR_of h2 (by decide)
  have g1 : SafeR y1 60 := safeR_of g1 (by decide)
  have g2 : SafeR y2 60 := safeR_of g2 (by decide)
  have hx : SafeR x 60 := safeR_of hx (by decide)
  have hc := al_c h1 h2 hx
  have ev : ∀ c, alOKP x1 x2 x = c → stdJ.alg x1 y1 x2 y2 x = if c then ofQ (algQ (rval x1) (rval y1) (rval x2) (rval y2) (rval x)) else zeroR := fun c h => by
    show (if alOKP x1 x2 x = true then _ else _) = _
    rw [h]
  have s1 := (Cal.of hx).sub (Cal.of h1) (by decide)
  have s2 := (Cal.of h2).sub (Cal.of h1) (by decide)
  have s3 := (Cal.of g2).sub (Cal.of g1) (by decide)
  have key : alC stdA stdF x1 x2 x = false → rval x2 - rval x1 ≠ 0 := fun h => by
    rw [hc, Bool.not_eq_false'] at h
    unfold alOKP at h
    rw [Bool.and_eq_true, decide_eq_true_eq] at h
    intro e
    exact h.1 (by grind)
  refine ⟨fun h => ?_, fun h => ?_, fun h => ?_, fun h => ?_⟩
  · rw [hc, Bool.not_eq_true'] at h
    exact ⟨(ev _ h).symm, h.symm⟩
  · rw [hc, Bool.not_eq_false'] at h
    exact h.symm
  · have d := s1.2.div s2.2 (by decide) (key h)
    have m := d.2.mul (s3.2.mono (by decide)) (by decide)
    have a := ((Cal.of g1).mono (by decide)).add m.2 (by decide)
    exact ⟨s1.1, s2.1, d.1, s3.1, m.1, a.1⟩
  · have d := s1.2.div s2.2 (by decide) (key h)
    have m := d.2.mul (s3.2.mono (by decide)) (by decide)
    have a := ((Cal.of g1).mono (by decide)).add m.2 (by decide)
    have hk := key h
    rw [hc, Bool.not_eq_false'] at h
    rw [ev _ h, a.2.eq]
    show ofQ _ = ofQ _
    congr 1
    unfold algQ
    grind
def tK7 (A : Alg) (F : SF) : List (Nat × Sem') := (73, heapSem [.v, .v] A (gCmpF F)) :: (83, heapSemW [.v, .v, .pw] A (gToldL A)) :: (84, heapSem [.v, .v] A (gSubF F)) :: (69, heapSem [.v, .v] A (gDivF F)) :: (85, heapSem [.v, .v] A (gAddF F)) :: (86, heapSem [.v, .v] A (gMulF F)) :: ([])
theorem tK7OK : COK Tryz.prog (look (tK7 stdA stdF)) := COK_cons ok_fcmp (COK_cons ok_ltold (COK_cons ok_fsub (COK_cons ok_fdiv (COK_cons ok_fadd (COK_cons ok_fmul (COK_nil))))))
theorem ok_lalong : CallOK Tryz.prog 48 (heapSem [.v, .v, .v, .v, .v] stdA (gAlong stdF stdJ)) := by
  refine callOK_heap (un := ⟨false, some [5,6,7,8,9,10,11,12,13,14,15,16,17,18,19,20,21,59,100]⟩) tok tK7OK mixed (fn := Tryz.f48) (by kernel_rfl) (by kernel_rfl) (by kernel_rfl) (by decide +kernel) ?_
  intro w Wr args bs r hg ho hWr A L k hA hL hk
  obtain ⟨F, hF⟩ : ∃ F, F = stdF := ⟨_, rfl⟩
  obtain ⟨J, hJ⟩ : ∃ J, J = stdJ := ⟨_, rfl⟩
  (try rw [← hF])
  (try rw [← hJ])
  (try rw [← hA])
  unfold gAlong at hg
  split at hg
  rotate_left
  · cases hg
  simp only [Option.some.injEq] at hg
  subst hg
  rename_i x1 y1 x2 y2 x
  have o1 := (ho_cons ho).1; replace ho := (ho_cons ho).2
  have o2 := (ho_cons ho).1; replace ho := (ho_cons ho).2
  have o3 := (ho_cons ho).1; replace ho := (ho_cons ho).2
  have o4 := (ho_cons ho).1; replace ho := (ho_cons ho).2
  have o5 := (ho_cons ho).1
  clear ho
  rw [← hF] at o1 o2 o3 o4 o5
  have al := al_f A hA F hF J hJ o1 o2 o3 o4 o5
  cbv
  repeat' first | (with_reducible intro hb; cbv) | with_reducible refine And.intro ?_ ?_
  · have e := al.no hb
    refine hk _ _ (Good.pure rfl fun ρ => ?_)
    subst hJ
    exact tupRt e.1 e.2
  · rename_i h0
    exfalso
    obtain ⟨t1, t2, t3, t4, t5, t6⟩ := al.t1 h0
    simp only [t1, t2, t3, t4, t5, t6] at hb
    clear al t1 t2 t3 t4 t5 t6 h0
    subst hA
    exact absurd hb (by decide)
  · rename_i h0
    have e := al.v h0
    have e2 := al.ok h0
    refine hk _ _ (Good.pure rfl fun ρ => ?_)
    subst hF hJ
    exact tupRt e e2
def gYAt (J : SJ) : List CV → List Blk → Option LR
  | [.g [.P a], .g [.P b], .g [.R x]], [] => some ⟨[], .t [.g [.R (J.yat a b x)], .s (.bool (J.yok a b x))], []⟩
  | _, _ => none
def gXAt (J : SJ) : List CV → List Blk → Option LR
  | [.g [.P a], .g [.P b], .g [.R x]], [] => some ⟨[], .t [.g [.R (J.xat a b x)], .s (.bool (J.xok a b x))], []⟩
  | _, _ => none
structure YaF (A : Alg) (F : SF) (H : SH) (J : SJ) (a b : Pt) (x : Rt) : Prop where
  al : A.cmp .lss (A.len [a, b]) 1000000 = true
  no : A.ite (A.not (H.all [a, b])) true (A.not (F.safe x 60)) = true → zeroR = J.yat a b x ∧ false = J.yok a b x ∧ zeroR = J.xat a b x ∧ false = J.xok a b x
  ok : A.ite (A.not (H.all [a, b])) true (A.not (F.safe x 60)) = false → F.safe a.X 60 = true ∧ F.safe a.Y 60 = true ∧ F.safe b.X 60 = true ∧ F.safe b.Y 60 = true ∧ F.safe x 60 = true
  v : A.ite (A.not (H.all [a, b])) true (A.not (F.safe x 60)) = false → J.alg a.X a.Y b.X b.Y x = J.yat a b x ∧ J.alOK a.X b.X x = J.yok a b x ∧ J.alg a.Y a.X b.Y b.X x = J.xat a b x ∧ J.alOK a.Y b.Y x = J.xok a b x
theorem ya_f (a b : Pt) (x : Rt) (A : Alg) (hA : A = stdA) (F : SF) (hF : F = stdF) (H : SH) (hH : H = stdH) (J : SJ) (hJ : J = stdJ) : YaF A F H J a b x := by
  subst hA hF hH hJ
  have hc : stdA.ite (stdA.not (stdH.all [a, b])) true (stdA.not (stdF.safe x 60)) = !yrawP a b x := by
    show (if (!allP [a, b]) = true then true else !safeR x 60) = !(allP [a, b] && safeR x 60)
    cases allP [a, b] <;> rfl
  have hs : yrawP (swapP a) (swapP b) x = yrawP a b x := by
    unfold yrawP
    have : allP [swapP a, swapP b] = allP [a, b] := by
      show ((safeR a.Y 60 && safeR a.X 60) && ((safeR b.Y 60 && safeR b.X 60) && true)) = ((safeR a.X 60 && safeR a.Y 60) && ((safeR b.X 60 && safeR b.Y 60) && true))
      rw [Bool.and_comm (safeR a.Y 60), Bool.and_comm (safeR b.Y 60)]
    rw [this]
  have ey : ∀ c, yrawP a b x = c → (stdJ.yat a b x = if c then algP a.X a.Y b.X b.Y x else zeroR) ∧ (stdJ.yok a b x = (c && alOKP a.X b.X x)) ∧ (stdJ.xat a b x = if c then algP a.Y a.X b.Y b.X x else zeroR) ∧ (stdJ.xok a b x = (c && alOKP a.Y b.Y x)) := fun c h => by
    refine ⟨?_, ?_, ?_, ?_⟩
    · show (if yrawP a b x = true then _ else _) = _
      rw [h]
    · show (yrawP a b x && _) = _
      rw [h]
    · show (if yrawP (swapP a) (swapP b) x = true then _ else _) = _
      rw [hs, h]; rfl
    · show (yrawP (swapP a) (swapP b) x && _) = _
      rw [hs, h]; rfl
  refine ⟨len_lt rfl _ (by show 2 < 1000000; decide), fun h => ?_, fun h => ?_, fun h => ?_⟩
  · rw [hc, Bool.not_eq_true'] at h
    obtain ⟨e1, e2, e3, e4⟩ := ey _ h
    exact ⟨e1.symm, e2.symm, e3.symm, e4.symm⟩
  · rw [hc, Bool.not_eq_false'] at h
    unfold yrawP at h
    rw [Bool.and_eq_true] at h
    obtain ⟨h, hx⟩ := h
    have h : (ptOK a && (ptOK b && true)) = true := h
    unfold ptOK at h
    simp only [Bool.and_true, Bool.and_eq_true] at h
    exact ⟨h.1.1, h.1.2, h.2.1, h.2.2, hx⟩
  · rw [hc, Bool.not_eq_false'] at h
    obtain ⟨e1, e2, e3, e4⟩ := ey _ h
    exact ⟨e1.symm, e2.symm, e3.symm, e4.symm⟩
def tK8 (A : Alg) (F : SF) (H : SH) (J : SJ) : List (Nat × Sem') := (37, heapSem [.s .pt] A (gAllP A H)) :: (47, heapSem [.v, .v] A (gSafeR F)) :: (48, heapSem [.v, .v, .v, .v, .v] A (gAlong F J)) :: ([])
theorem tK8OK : COK Tryz.prog (look (tK8 stdA stdF stdH stdJ)) := COK_cons ok_lare (COK_cons ok_fsafe (COK_cons ok_lalong (COK_nil)))
theorem ok_lyat : CallOK Tryz.prog 14 (heapSem [.v, .v, .v] stdA (gYAt stdJ)) := by
  refine callOK_heap (un := ⟨false, some [3,4,5,6,7,17]⟩) tok tK8OK mixed (fn := Tryz.f14) (by kernel_rfl) (by kernel_rfl) (by kernel_rfl) (by decide +kernel) ?_
  intro w Wr args bs r hg ho hWr A L k hA hL hk
  obtain ⟨F, hF⟩ : ∃ F, F = stdF := ⟨_, rfl⟩
  obtain ⟨H, hH⟩ : ∃ H, H = stdH := ⟨_, rfl⟩
  obtain ⟨J, hJ⟩ : ∃ J, J = stdJ := ⟨_, rfl⟩
  (try rw [← hF])
  (try rw [← hH])
  (try rw [← hJ])
  (try rw [← hA])
  unfold gYAt at hg
  split at hg
  rotate_left
  · cases hg
  simp only [Option.some.injEq] at hg
  subst hg
  rename_i a b x
  have ya := ya_f a b x A hA F hF H hH J hJ
  cbv
  repeat' first | (with_reducible intro hb; cbv) | with_reducible refine And.intro ?_ ?_
  all_goals first | exact ya.al | exact (ya.ok (by assumption)).1 | exact (ya.ok (by assumption)).2.1 | exact (ya.ok (by assumption)).2.2.1 | exact (ya.ok (by assumption)).2.2.2.1 | exact (ya.ok (by assumption)).2.2.2.2 | skip
  · have e := ya.no hb
    refine hk _ _ (Good.pure rfl fun ρ => ?_)
    subst hJ
    exact tupRt e.1 e.2.1
  · have e := ya.v hb
    refine hk _ _ (Good.pure rfl fun ρ => ?_)
    subst hJ
    exact tupR e.1 e.2.1
theorem ok_lxat : CallOK Tryz.prog 16 (heapSem [.v, .v, .v] stdA (gXAt stdJ)) := by
  refine callOK_heap (un := ⟨false, some [3,4,5,6,7,17]⟩) tok tK8OK mixed (fn := Tryz.f16) (by kernel_rfl) (by kernel_rfl) (by kernel_rfl) (by decide +kernel) ?_
  intro w Wr args bs r hg ho hWr A L k hA hL hk
  obtain ⟨F, hF⟩ : ∃ F, F = stdF := ⟨_, rfl⟩
  obtain ⟨H, hH⟩ : ∃ H, H = stdH := ⟨_, rfl⟩
  obtain ⟨J, hJ⟩ : ∃ J, J = stdJ := ⟨_, rfl⟩
  (try rw [← hF])
  (try rw [← hH])
  (try rw [← hJ])
  (try rw [← hA])
  unfold gXAt at hg
  split at hg
  rotate_left
  · cases hg
  simp only [Option.some.injEq] at hg
  subst hg
  rename_i a b x
  have ya := ya_f a b x A hA F hF H hH J hJ
  cbv
  repeat' first | (with_reducible intro hb; cbv) | with_reducible refine And.intro ?_ ?_
  all_goals first | exact ya.al | exact (ya.ok (by assumption)).1 | exact (ya.ok (by assumption)).2.1 | exact (ya.ok (by assumption)).2.2.1 | exact (ya.ok (by assumption)).2.2.2.1 | exact (ya.ok (by assumption)).2.2.2.2 | skip
  · have e := ya.no hb
    refine hk _ _ (Good.pure rfl fun ρ => ?_)
    subst hJ
    exact tupRt e.2.2.1 e.2.2.2
  · have e := ya.v hb
    refine hk _ _ (Good.pure rfl fun ρ => ?_)
    subst hJ
    exact tupR e.2.2.1 e.2.2.2
end Go.Eng
namespace Go.Eng
open Go.Proofs
set_option maxRecDepth 100000
set_option linter.all false
set_option exponentiation.threshold 3000
set_option maxHeartbeats 2000000
def gOnQ (H : SH) (J : SJ) : List CV → List Blk → Option LR
  | [.g [.P a], .g [.P b], .g [.P p]], [] => some ⟨[H.all [a, b, p]], .c (.s (.bool (J.on a b p))), []⟩
  | _, _ => none
theorem sgnQ_le {q : Rat} : decide (sgnQ q 0 ≤ 0) = decide (q ≤ 0) := by
  rw [decide_eq_decide]
  rcases sgnQ_cases q 0 with ⟨h, e, _⟩ | ⟨h, e, _⟩ | ⟨h, e, _⟩ <;> rw [e]
  · exact ⟨fun _ => by grind, fun _ => by decide⟩
  · exact ⟨fun _ => by grind, fun _ => by decide⟩
  · exact ⟨fun h => absurd h (by decide), fun h' => by exfalso; grind⟩
theorem onq_f {a b p : Pt} (A : Alg) (hA : A = stdA) (F : SF) (hF : F = stdF) (H : SH) (hH : H = stdH) (J : SJ) (hJ : J = stdJ) (h : H.all [a, b, p] = true) :
    A.ite (A.cmp .eql (H.turn a b p) 0) (A.cmp .leq (F.sign (H.dot p a b)) 0) false = J.on a b p := by
  subst hA hF hH hJ
  have h : allP [a, b, p] = true := h
  obtain ⟨ha, hb, hp⟩ := allP_three h
  rw [sign_dot, if_pos (all3 (isPt_iff.2 hp) (isPt_iff.2 ha) (isPt_iff.2 hb)), turn_ok h]
  show (if (sgnQ (crossQ a b p) 0 == 0) = true then decide (sgnQ (dotQ p a b) 0 ≤ 0) else false) = (decide (crossQ a b p = 0) && decide (dotQ p a b ≤ 0))
  rw [sgnQ_le]
  by_cases hc : crossQ a b p = 0
  · rw [hc, sgnQ_zero.2 rfl]; simp
  · rw [beq_eq_false_iff_ne.2 fun h => hc (sgnQ_zero.1 h), decide_eq_false hc]; rfl
def tL1 (A : Alg) (F : SF) (H : SH) : List (Nat × Sem') := (32, heapSem [.v, .v, .v] A (gTurnP H)) :: (45, heapSem [.v, .v, .v] A (gDotR H)) :: (46, heapSem [.v] A (gSignR F)) :: ([])
theorem tL1OK : COK Tryz.prog (look (tL1 stdA stdF stdH)) := COK_cons ok_qturn (COK_cons ok_qdot (COK_cons ok_rsign (COK_nil)))
theorem ok_qon : CallOK Tryz.prog 39 (heapSem [.v, .v, .v] stdA (gOnQ stdH stdJ)) := by
  refine callOK_heap (un := ⟨false, some [3,4,5,6,7,8,9,10]⟩) tok tL1OK mixed (fn := Tryz.f39) (by kernel_rfl) (by kernel_rfl) (by kernel_rfl) (by decide +kernel) ?_
  intro w Wr args bs r hg ho hWr A L k hA hL hk
  obtain ⟨F, hF⟩ : ∃ F, F = stdF := ⟨_, rfl⟩
  obtain ⟨H, hH⟩ : ∃ H, H = stdH := ⟨_, rfl⟩
  obtain ⟨J, hJ⟩ : ∃ J, J = stdJ := ⟨_, rfl⟩
  (try rw [← hF])
  (try rw [← hH])
  (try rw [← hJ])
  (try rw [← hA])
  unfold gOnQ at hg
  split at hg
  rotate_left
  · cases hg
  simp only [Option.some.injEq] at hg
  subst hg
  rename_i a b p
  have h0 := (ho_cons ho).1
  clear ho
  rw [← hH] at h0
  have of := onq_f A hA F hF H hH J hJ h0
  cbv
  refine hk _ _ (Good.pure rfl fun ρ => ?_)
  subst hJ
  exact retB of
theorem qis_c {a b p : Pt} (A : Alg) (hA : A = stdA) (H : SH) (hH : H = stdH) : A.ite (A.ite (A.not (H.all [a])) true (A.not (H.all [b]))) true (A.not (H.all [p])) = A.not (H.all [a, b, p]) := by
  subst hA hH
  show (if (if (!(ptOK a && true)) = true then true else !(ptOK b && true)) = true then true else !(ptOK p && true)) = !(ptOK a && (ptOK b && (ptOK p && true)))
  cases ptOK a <;> cases ptOK b <;> cases ptOK p <;> rfl
def tL2 (A : Alg) (H : SH) (J : SJ) : List (Nat × Sem') := (35, heapSem [.v] A (gIsP H)) :: (39, heapSem [.v, .v, .v] A (gOnQ H J)) :: ([])
theorem tL2OK : COK Tryz.prog (look (tL2 stdA stdH stdJ)) := COK_cons ok_qis (COK_cons ok_qon (COK_nil))
theorem ok_qOn : CallOK Tryz.prog 11 (heapSem [.v, .v, .v] stdA (gOnP stdA stdH stdJ)) := by
  refine callOK_heap (un := ⟨false, some [3,4,5,6,7,20]⟩) tok tL2OK mixed (fn := Tryz.f11) (by kernel_rfl) (by kernel_rfl) (by kernel_rfl) (by decide +kernel) ?_
  intro w Wr args bs r hg ho hWr A L k hA hL hk
  obtain ⟨H, hH⟩ : ∃ H, H = stdH := ⟨_, rfl⟩
  obtain ⟨J, hJ⟩ : ∃ J, J = stdJ := ⟨_, rfl⟩
  (try rw [← hH])
  (try rw [← hJ])
  (try rw [← hA])
  unfold gOnP at hg
  split at hg
  rotate_left
  · cases hg
  simp only [Option.some.injEq] at hg
  subst hg
  rename_i a b p
  have of := ono_f hA (o := H.all [a, b, p]) (c := J.on a b p)
  have ec := qis_c (a := a) (b := b) (p := p) A hA H hH
  cbv
  repeat' first | (with_reducible intro hb; cbv) | with_reducible refine And.intro ?_ ?_
  · rw [ec] at hb
    have e := of.1 hb
    refine hk _ _ (Good.pure rfl fun ρ => ?_)
    subst hA hH hJ
    exact tupTT e.1 e.2
  · rw [ec] at hb
    exact (of.2 hb).2.symm
  · rw [ec] at hb
    have e := of.2 hb
    refine hk _ _ (Good.pure rfl fun ρ => ?_)
    subst hA hH hJ
    exact tupBT e.1 e.2
def gCr (H : SH) (J : SJ) : List CV → List Blk → Option LR
  | [.g [.P a], .g [.P b], .g [.P c], .g [.P d]], [] => some ⟨[H.all [a, b, c, d]], .c (.s (.bool (J.cr a b c d))), []⟩
  | _, _ => none
structure CrQ (A : Alg) (H : SH) (J : SJ) (a b c d : Pt) : Prop where
  o1 : H.all [a, b, c] = true
  o2 : H.all [a, b, d] = true
  o3 : H.all [c, d, a] = true
  o4 : H.all [c, d, b] = true
  v : A.ite (A.ite (A.ite (A.ite (J.on a b c) true (J.on a b d)) true (J.on c d a)) true (J.on c d b)) true (A.ite (A.cmp .lss (A.bin .mul .i64 (H.turn a b c) (H.turn a b d)) 0) (A.cmp .lss (A.bin .mul .i64 (H.turn c d a) (H.turn c d b)) 0) false) = J.cr a b c d
theorem crq_f {a b c d : Pt} (A : Alg) (hA : A = stdA) (H : SH) (hH : H = stdH) (J : SJ) (hJ : J = stdJ) (h : H.all [a, b, c, d] = true) : CrQ A H J a b c d := by
  subst hA hH hJ
  obtain ⟨ha, hb, hc, hd⟩ := all4 h
  refine ⟨all3 ha hb hc, all3 ha hb hd, all3 hc hd ha, all3 hc hd hb, ?_⟩
  rw [crossing_A a b c d h]
  show (if (if (if (if onP a b c = true then true else onP a b d) = true then true else onP c d a) = true then true else onP c d b) = true then true else crossing a b c d) = (anyP a b c d || crossing a b c d)
  unfold anyP
  cases onP a b c <;> cases onP a b d <;> cases onP c d a <;> cases onP c d b <;> cases crossing a b c d <;> rfl
def tL3 (A : Alg) (H : SH) (J : SJ) : List (Nat × Sem') := (39, heapSem [.v, .v, .v] A (gOnQ H J)) :: (44, heapSem [.v, .v, .v] A (gTurnI H)) :: ([])
theorem tL3OK : COK Tryz.prog (look (tL3 stdA stdH stdJ)) := COK_cons ok_qon (COK_cons ok_qtrn (COK_nil))
theorem ok_qcr : CallOK Tryz.prog 43 (heapSem [.v, .v, .v, .v] stdA (gCr stdH stdJ)) := by
  refine callOK_heap (un := ⟨false, some [4,5,6,7,8]⟩) tok tL3OK mixed (fn := Tryz.f43) (by kernel_rfl) (by kernel_rfl) (by kernel_rfl) (by decide +kernel) ?_
  intro w Wr args bs r hg ho hWr A L k hA hL hk
  obtain ⟨H, hH⟩ : ∃ H, H = stdH := ⟨_, rfl⟩
  obtain ⟨J, hJ⟩ : ∃ J, J = stdJ := ⟨_, rfl⟩
  (try rw [← hH])
  (try rw [← hJ])
  (try rw [← hA])
  unfold gCr at hg
  split at hg
  rotate_left
  · cases hg
  simp only [Option.some.injEq] at hg
  subst hg
  rename_i a b c d
  have h0 := (ho_cons ho).1
  clear ho
  rw [← hH] at h0
  have cf := crq_f A hA H hH J hJ h0
  cbv
  repeat' first | (with_reducible intro hb; cbv) | with_reducible refine And.intro ?_ ?_
  all_goals first | exact cf.o1 | exact imp_t hA cf.o1 | exact imp_t hA cf.o2 | exact imp_t hA cf.o3 | exact imp_t hA cf.o4 | skip
  refine hk _ _ (Good.pure rfl fun ρ => ?_)
  have e := cf.v
  subst hA hH hJ
  exact retB e
def refA (b1 b2 b3 b4 : Bool) (a b c d : Pt) : Int × Pt × Pt × Pt :=
  let s0 : Int × Pt × Pt × Pt := (0, a, b, d)
  let s1 := match b1 with | true => (s0.1 + 1, a, b, d) | false => s0
  let s2 := match b2 with | true => (s1.1 + 1, b, a, d) | false => s1
  let s3 := match b3 with | true => (s2.1 + 1, a, b, c) | false => s2
  match b4 with | true => (s3.1 + 1, b, a, c) | false => s3
theorem refA_eq (a b c d : Pt) : refS a b c d = refA (stdA.eqP a c) (stdA.eqP b c) (stdA.eqP a d) (stdA.eqP b d) a b c d := by
  unfold refS refA
  rw [eqP_dec, eqP_dec, eqP_dec, eqP_dec]
  by_cases h1 : a = c <;> by_cases h2 : b = c <;> by_cases h3 : a = d <;> by_cases h4 : b = d <;> simp only [h1, h2, h3, h4, if_true, if_false, decide_true, decide_false]
  all_goals simp_all
def refN (b1 b2 b3 b4 : Bool) : Int := (match b1 with | true => 1 | false => 0) + (match b2 with | true => 1 | false => 0) + (match b3 with | true => 1 | false => 0) + (match b4 with | true => 1 | false => 0)
theorem refN_eq (b1 b2 b3 b4 : Bool) (a b c d : Pt) : (refA b1 b2 b3 b4 a b c d).1 = refN b1 b2 b3 b4 := by
  cases b1 <;> cases b2 <;> cases b3 <;> cases b4 <;> rfl
def q0C (A : Alg) (H : SH) (a b c d : Pt) : Bool := A.ite (A.ite (A.ite (A.not (H.all [a])) true (A.not (H.all [b]))) true (A.not (H.all [c]))) true (A.not (H.all [d]))
def q97 (A : Alg) (H : SH) (a b c d : Pt) : Bool := A.ite (A.ite (A.ite (A.eqP a b) true (A.eqP c d)) true (A.cmp .neq (H.turn a b c) 0)) true (A.cmp .neq (H.turn a b d) 0)
structure QL (A : Alg) (F : SF) (H : SH) (J : SJ) (a b c d : Pt) (n : Int) (s : Int × Pt × Pt × Pt) : Prop where
  z : n = 0 → 2 = J.meet a b c d
  y : n ≠ 0 → q97 A H a b c d = true → 1 = J.meet a b c d
  o : n = 1 → q97 A H a b c d = false → A.cmp .lss (F.sign (H.dot s.2.1 s.2.2.1 s.2.2.2)) 0 = true → 1 = J.meet a b c d
  t : n = 1 → q97 A H a b c d = false → A.cmp .lss (F.sign (H.dot s.2.1 s.2.2.1 s.2.2.2)) 0 = false → 2 = J.meet a b c d
  w : n ≠ 0 → n ≠ 1 → q97 A H a b c d = false → 2 = J.meet a b c d
structure QmF (A : Alg) (F : SF) (H : SH) (J : SJ) (a b c d : Pt) : Prop where
  no : q0C A H a b c d = true → 0 = J.meet a b c d ∧ false = H.all [a, b, c, d]
  ok : q0C A H a b c d = false → true = H.all [a, b, c, d]
  z : q0C A H a b c d = false → A.not (J.cr a b c d) = true → 0 = J.meet a b c d
  v : ∀ b1 b2 b3 b4, q0C A H a b c d = false → A.not (J.cr a b c d) = false → A.eqP a c = b1 → A.eqP b c = b2 → A.eqP a d = b3 → A.eqP b d = b4 → QL A F H J a b c d (refN b1 b2 b3 b4) (refA b1 b2 b3 b4 a b c d)
theorem sgnQ_lt {q : Rat} : decide (sgnQ q 0 < 0) = decide (q < 0) := by
  rw [decide_eq_decide]
  rcases sgnQ_cases q 0 with ⟨h, e, _⟩ | ⟨h, e, _⟩ | ⟨h, e, _⟩ <;> rw [e]
  · exact ⟨fun _ => h, fun _ => by decide⟩
  · exact ⟨fun h' => absurd h' (by decide), fun h' => by exfalso; grind⟩
  · exact ⟨fun h' => absurd h' (by decide), fun h' => by exfalso; grind⟩
theorem refS_mem (a b c d : Pt) : ((refS a b c d).2.1 = a ∨ (refS a b c d).2.1 = b) ∧ ((refS a b c d).2.2.1 = a ∨ (refS a b c d).2.2.1 = b) ∧ ((refS a b c d).2.2.2 = c ∨ (refS a b c d).2.2.2 = d) := by
  rw [refA_eq]
  generalize stdA.eqP a c = b1
  generalize stdA.eqP b c = b2
  generalize stdA.eqP a d = b3
  generalize stdA.eqP b d = b4
  cases b1 <;> cases b2 <;> cases b3 <;> cases b4 <;> simp [refA]
theorem qm_f (a b c d : Pt) (A : Alg) (hA : A = stdA) (F : SF) (hF : F = stdF) (H : SH) (hH : H = stdH) (J : SJ) (hJ : J = stdJ) : QmF A F H J a b c d := by
  subst hA hF hH hJ
  have hc : q0C stdA stdH a b c d = !allP [a, b, c, d] := by
    show (if (if (if (!(ptOK a && true)) = true then true else !(ptOK b && true)) = true then true else !(ptOK c && true)) = true then true else !(ptOK d && true)) = !(ptOK a && (ptOK b && (ptOK c && (ptOK d && true))))
    cases ptOK a <;> cases ptOK b <;> cases ptOK c <;> cases ptOK d <;> rfl
  have em : ∀ c', allP [a, b, c, d] = c' → stdJ.meet a b c d = if c' then meetP a b c d else 0 := fun c' h => by
    show (if allP [a, b, c, d] = true then _ else _) = _
    rw [h]
  have hcr : stdA.not (stdJ.cr a b c d) = !(anyP a b c d || crossing a b c d) := rfl
  have rm : allP [a, b, c, d] = true → stdJ.meet a b c d = refM a b c d := fun h => by
    obtain ⟨ha, hb, hc, hd⟩ := all4 h
    rw [em _ h, ref_meet (isPt_of ha) (isPt_of hb) (isPt_of hc) (isPt_of hd)]; rfl
  refine ⟨fun h => ?_, fun h => ?_, fun h h1 => ?_, fun b1 b2 b3 b4 h h1 e1 e2 e3 e4 => ?_⟩
  · rw [hc, Bool.not_eq_true'] at h
    exact ⟨(em _ h).symm, h.symm⟩
  · rw [hc, Bool.not_eq_false'] at h
    exact h.symm
  · rw [hc, Bool.not_eq_false'] at h
    rw [hcr] at h1
    rw [rm h]
    unfold refM
    rw [if_pos h1]
  · rw [hc, Bool.not_eq_false'] at h
    rw [hcr] at h1
    obtain ⟨ha, hb, hc', hd⟩ := all4 h
    have hr := refA_eq a b c d
    rw [e1, e2, e3, e4] at hr
    rw [← refN_eq b1 b2 b3 b4 a b c d, ← hr]
    have e := rm h
    unfold refM at e
    rw [h1] at e
    simp only [Bool.false_eq_true, if_false] at e
    have q : q97 stdA stdH a b c d = decide (a = b ∨ c = d ∨ crossQ a b c ≠ 0 ∨ crossQ a b d ≠ 0) := by
      unfold q97
      rw [turn_ok (all3 ha hb hc'), turn_ok (all3 ha hb hd), eqP_dec, eqP_dec]
      have t : ∀ x : Rat, stdA.cmp .neq (sgnQ x 0) 0 = decide (x ≠ 0) := fun x => by
        show (sgnQ x 0 != 0) = _
        by_cases hx : x = 0
        · rw [hx, sgnQ_zero.2 rfl]; simp
        · rw [decide_eq_true hx, bne_iff_ne]; exact fun h => hx (sgnQ_zero.1 h)
      rw [t, t]
      show (if (if (if decide (a = b) = true then true else decide (c = d)) = true then true else decide (crossQ a b c ≠ 0)) = true then true else decide (crossQ a b d ≠ 0)) = _
      by_cases g1 : a = b <;> by_cases g2 : c = d <;> by_cases g3 : crossQ a b c = 0 <;> by_cases g4 : crossQ a b d = 0 <;> simp [g1, g2, g3, g4]
    obtain ⟨m1, m2, m3⟩ := refS_mem a b c d
    have hall : allP [(refS a b c d).2.1, (refS a b c d).2.2.1, (refS a b c d).2.2.2] = true := by
      refine all3 ?_ ?_ ?_
      · rcases m1 with m | m <;> rw [m] <;> assumption
      · rcases m2 with m | m <;> rw [m] <;> assumption
      · rcases m3 with m | m <;> rw [m] <;> assumption
    have hs : stdA.cmp .lss (stdF.sign (stdH.dot (refS a b c d).2.1 (refS a b c d).2.2.1 (refS a b c d).2.2.2)) 0 = decide (dotQ (refS a b c d).2.1 (refS a b c d).2.2.1 (refS a b c d).2.2.2 < 0) := by
      rw [sign_dot, if_pos hall]
      exact sgnQ_lt
    refine ⟨fun z => ?_, fun z y => ?_, fun z y o => ?_, fun z y o => ?_, fun z w y => ?_⟩
    · rw [e, if_pos z]
    · rw [q, decide_eq_true_eq] at y
      rw [e, if_neg z, if_pos y]
    · rw [q, decide_eq_false_iff_not] at y
      rw [hs, decide_eq_true_eq] at o
      rw [e, if_neg (by omega), if_neg y, if_pos ⟨z, o⟩]
    · rw [q, decide_eq_false_iff_not] at y
      rw [hs, decide_eq_false_iff_not] at o
      rw [e, if_neg (by omega), if_neg y, if_neg fun h => o h.2]
    · rw [q, decide_eq_false_iff_not] at y
      rw [e, if_neg z, if_neg y, if_neg fun h => w h.1]
def tL4 (A : Alg) (F : SF) (H : SH) (J : SJ) : List (Nat × Sem') := (35, heapSem [.v] A (gIsP H)) :: (43, heapSem [.v, .v, .v, .v] A (gCr H J)) :: (44, heapSem [.v, .v, .v] A (gTurnI H)) :: (45, heapSem [.v, .v, .v] A (gDotR H)) :: (46, heapSem [.v] A (gSignR F)) :: ([])
theorem tL4OK : COK Tryz.prog (look (tL4 stdA stdF stdH stdJ)) := COK_cons ok_qis (COK_cons ok_qcr (COK_cons ok_qtrn (COK_cons ok_qdot (COK_cons ok_rsign (COK_nil)))))
theorem ok_qMeet : CallOK Tryz.prog 13 (heapSem [.v, .v, .v, .v] stdA (gMeet stdH stdJ)) := by
  refine callOK_heap (un := ⟨true, some [4,5,6,7,8,9,10,11,12,13,14,15,16,17,18,19,20,38,44,49,58,63,68,75,97,111]⟩) tok tL4OK mixed (fn := Tryz.f13) (by kernel_rfl) (by kernel_rfl) (by kernel_rfl) (by decide +kernel) ?_
  intro w Wr args bs r hg ho hWr A L k hA hL hk
  obtain ⟨F, hF⟩ : ∃ F, F = stdF := ⟨_, rfl⟩
  obtain ⟨H, hH⟩ : ∃ H, H = stdH := ⟨_, rfl⟩
  obtain ⟨J, hJ⟩ : ∃ J, J = stdJ := ⟨_, rfl⟩
  (try rw [← hF])
  (try rw [← hH])
  (try rw [← hJ])
  (try rw [← hA])
  unfold gMeet at hg
  split at hg
  rotate_left
  · cases hg
  simp only [Option.some.injEq] at hg
  subst hg
  rename_i a b c d
  have qm := qm_f a b c d A hA F hF H hH J hJ
  cbv
  repeat' first | (with_reducible intro hb; cbv) | with_reducible refine And.intro ?_ ?_
  · have e := qm.no hb
    refine hk _ _ (Good.pure rfl fun ρ => ?_)
    subst hH hJ
    exact tupLtt e.1 e.2
  · exact (qm.ok (by assumption)).symm
  · rename_i h0
    have e := qm.z h0 hb
    have e2 := qm.ok h0
    refine hk _ _ (Good.pure rfl fun ρ => ?_)
    subst hH hJ
    exact tupLtt e e2
  all_goals
    have ql := qm.v _ _ _ _ (by assumption) (by assumption) (by assumption) (by assumption) (by assumption) (by assumption)
    have ok := qm.ok (by assumption)
    refine hk _ _ (Good.pure rfl fun ρ => ?_)
    clear qm hk hL ho hWr
    (try subst hH)
    (try subst hJ)
    refine tupLtt ?_ ok
    first | exact ql.z rfl | exact ql.y (by decide) (by assumption) | exact ql.o rfl (by assumption) (by assumption) | exact ql.t rfl (by assumption) (by assumption) | exact ql.w (by decide) (by decide) (by assumption)
def gSwap : List CV → List Blk → Option LR
  | [.g [.P p]], [] => some ⟨[], .c (.g [.P ⟨p.Y, p.X⟩]), []⟩
  | _, _ => none
theorem ok_qswap : CallOK Tryz.prog 54 (heapSem [.v] stdA (gSwap)) := by
  refine callOK_heap (un := ⟨false, some [1,2]⟩) tok noCOK mixed (fn := Tryz.f54) (by kernel_rfl) (by kernel_rfl) (by kernel_rfl) (by decide +kernel) ?_
  intro w Wr args bs r hg ho hWr A L k hA hL hk
  (try rw [← hA])
  unfold gSwap at hg
  split at hg
  rotate_left
  · cases hg
  simp only [Option.some.injEq] at hg
  subst hg
  cbv
  refine hk _ _ (Good.pure rfl fun ρ => ?_)
  exact retP rfl
structure QyF (A : Alg) (F : SF) (H : SH) (J : SJ) (a b : Pt) (x : Rt) : Prop where
  no : A.ite (A.ite (A.not (H.all [a])) true (A.not (H.all [b]))) true (A.not (F.safe x 60)) = true → zeroR = J.yat a b x ∧ false = J.yok a b x
  n2 : A.ite (A.ite (A.not (H.all [a])) true (A.not (H.all [b]))) true (A.not (F.safe x 60)) = false → A.ite (A.eqR a.X b.X) true (A.cmp .lss (A.bin .mul .i64 (F.cmp a.X x) (F.cmp x b.X)) 0) = true → zeroR = J.yat a b x ∧ false = J.yok a b x
  v : A.ite (A.ite (A.not (H.all [a])) true (A.not (H.all [b]))) true (A.not (F.safe x 60)) = false → A.ite (A.eqR a.X b.X) true (A.cmp .lss (A.bin .mul .i64 (F.cmp a.X x) (F.cmp x b.X)) 0) = false → F.add a.Y (F.div (F.mul (F.sub x a.X) (F.sub b.Y a.Y)) (F.sub b.X a.X)) = J.yat a b x ∧ true = J.yok a b x
theorem qy_f (a b : Pt) (x : Rt) (A : Alg) (hA : A = stdA) (F : SF) (hF : F = stdF) (H : SH) (hH : H = stdH) (J : SJ) (hJ : J = stdJ) : QyF A F H J a b x := by
  subst hA hF hH hJ
  have hc : stdA.ite (stdA.ite (stdA.not (stdH.all [a])) true (stdA.not (stdH.all [b]))) true (stdA.not (stdF.safe x 60)) = !yrawP a b x := by
    show (if (if (!(ptOK a && true)) = true then true else !(ptOK b && true)) = true then true else !safeR x 60) = !((ptOK a && (ptOK b && true)) && safeR x 60)
    cases ptOK a <;> cases ptOK b <;> cases safeR x 60 <;> rfl
  have hy : yrawP a b x = true → IsPt a ∧ IsPt b ∧ SafeR x 60 := fun h => by
    unfold yrawP at h
    rw [Bool.and_eq_true] at h
    obtain ⟨ha, hb⟩ := allP_two h.1
    exact ⟨ha, hb, safeR_of h.2 (by decide)⟩
  have hc2 : yrawP a b x = true → stdA.ite (stdA.eqR a.X b.X) true (stdA.cmp .lss (stdA.bin .mul .i64 (stdF.cmp a.X x) (stdF.cmp x b.X)) 0) = !alOKP a.X b.X x := fun h => by
    obtain ⟨ha, hb, hx⟩ := hy h
    obtain ⟨_, b1⟩ := (Cal.of ha.x).cmp (Cal.of hx) (by decide)
    obtain ⟨_, b2⟩ := (Cal.of hx).cmp (Cal.of hb.x) (by decide)
    rw [b1, b2]
    unfold alOKP
    show (if decide (a.X = b.X) = true then true else decide (stdBin .mul .i64 (sgnQ (rval a.X) (rval x)) (sgnQ (rval x) (rval b.X)) < 0)) = _
    rw [sgnQ_mul]
    have e1 : decide (a.X = b.X) = !decide (rval a.X ≠ rval b.X) := by
      by_cases h : a.X = b.X
      · rw [h]; simp
      · rw [decide_eq_false h, decide_eq_true (show rval a.X ≠ rval b.X from fun h' => h ((rval_ne ha.x.is hb.x.is).1 h'))]; rfl
    have e2 : decide (sgnQ (rval a.X) (rval x) * sgnQ (rval x) (rval b.X) < 0) = !decide (0 ≤ sgnQ (rval a.X) (rval x) * sgnQ (rval x) (rval b.X)) := by
      by_cases h : 0 ≤ sgnQ (rval a.X) (rval x) * sgnQ (rval x) (rval b.X)
      · rw [decide_eq_true h, decide_eq_false (by omega)]; rfl
      · rw [decide_eq_false h, decide_eq_true (by omega)]; rfl
    rw [e1, e2]
    cases decide (rval a.X ≠ rval b.X) <;> cases decide (0 ≤ sgnQ (rval a.X) (rval x) * sgnQ (rval x) (rval b.X)) <;> rfl
  have ey : ∀ c, yrawP a b x = c → (stdJ.yat a b x = if c then algP a.X a.Y b.X b.Y x else zeroR) ∧ (stdJ.yok a b x = (c && alOKP a.X b.X x)) := fun c h => by
    refine ⟨?_, ?_⟩
    · show (if yrawP a b x = true then _ else _) = _
      rw [h]
    · show (yrawP a b x && _) = _
      rw [h]
  have ea : ∀ c, alOKP a.X b.X x = c → algP a.X a.Y b.X b.Y x = if c then ofQ (algQ (px a) (py a) (px b) (py b) (rval x)) else zeroR := fun c h => by
    show (if alOKP a.X b.X x = true then _ else _) = _
    rw [h]; rfl
  refine ⟨fun h => ?_, fun h h2 => ?_, fun h h2 => ?_⟩
  · rw [hc, Bool.not_eq_true'] at h
    obtain ⟨e1, e2⟩ := ey _ h
    exact ⟨e1.symm, e2.symm⟩
  · rw [hc, Bool.not_eq_false'] at h
    rw [hc2 h, Bool.not_eq_true'] at h2
    obtain ⟨e1, e2⟩ := ey _ h
    rw [e1, e2, if_pos rfl, ea _ h2, h2]
    exact ⟨rfl, rfl⟩
  · rw [hc, Bool.not_eq_false'] at h
    rw [hc2 h, Bool.not_eq_false'] at h2
    obtain ⟨e1, e2⟩ := ey _ h
    obtain ⟨ha, hb, hx⟩ := hy h
    rw [e1, e2, if_pos rfl, ea _ h2, h2]
    refine ⟨?_, rfl⟩
    have s1 := (Cal.of hx).sub (Cal.of ha.x) (by decide)
    have s2 := (Cal.of hb.y).sub (Cal.of ha.y) (by decide)
    have s3 := (Cal.of hb.x).sub (Cal.of ha.x) (by decide)
    have hk : rval b.X - rval a.X ≠ 0 := by
      unfold alOKP at h2
      rw [Bool.and_eq_true, decide_eq_true_eq] at h2
      intro e
      exact h2.1 (by grind)
    have m := s1.2.mul s2.2 (by decide)
    have d := m.2.div (s3.2.mono (by decide)) (by decide) hk
    have ad := ((Cal.of ha.y).mono (by decide)).add d.2 (by decide)
    exact ad.2.eq
def tL5 (A : Alg) (F : SF) (H : SH) : List (Nat × Sem') := (35, heapSem [.v] A (gIsP H)) :: (49, heapSem [.v, .v] A (gSafeR F)) :: (20, heapSem [.v, .v] A (gCmpF F)) :: (52, heapSem [.v, .v] A (gLessR F)) :: (51, heapSem [.v, .v] A (gTimesR F)) :: (53, heapSem [.v, .v] A (gPlusR F)) :: (50, heapSem [.v, .v] A (gDivF F)) :: ([])
theorem tL5OK : COK Tryz.prog (look (tL5 stdA stdF stdH)) := COK_cons ok_qis (COK_cons ok_rsafe (COK_cons ok_rcmpR (COK_cons ok_qless (COK_cons ok_qtimes (COK_cons ok_qplus (COK_cons ok_rdiv (COK_nil)))))))
theorem ok_qyat : CallOK Tryz.prog 15 (heapSem [.v, .v, .v] stdA (gYAt stdJ)) := by
  refine callOK_heap (un := ⟨false, some [3,4,5,6,7,8,9,10,11,12,13,26,52]⟩) tok tL5OK mixed (fn := Tryz.f15) (by kernel_rfl) (by kernel_rfl) (by kernel_rfl) (by decide +kernel) ?_
  intro w Wr args bs r hg ho hWr A L k hA hL hk
  obtain ⟨F, hF⟩ : ∃ F, F = stdF := ⟨_, rfl⟩
  obtain ⟨H, hH⟩ : ∃ H, H = stdH := ⟨_, rfl⟩
  obtain ⟨J, hJ⟩ : ∃ J, J = stdJ := ⟨_, rfl⟩
  (try rw [← hF])
  (try rw [← hH])
  (try rw [← hJ])
  (try rw [← hA])
  unfold gYAt at hg
  split at hg
  rotate_left
  · cases hg
  simp only [Option.some.injEq] at hg
  subst hg
  rename_i a b x
  have qy := qy_f a b x A hA F hF H hH J hJ
  cbv
  repeat' first | (with_reducible intro hb; cbv) | with_reducible refine And.intro ?_ ?_
  · have e := qy.no hb
    refine hk _ _ (Good.pure rfl fun ρ => ?_)
    subst hJ
    exact tupRt e.1 e.2
  · rename_i h0
    have e := qy.n2 h0 hb
    refine hk _ _ (Good.pure rfl fun ρ => ?_)
    subst hJ
    exact tupRt e.1 e.2
  · rename_i h0
    have e := qy.v h0 hb
    refine hk _ _ (Good.pure rfl fun ρ => ?_)
    subst hJ hF
    exact tupRt e.1 e.2
def tL6 (A : Alg) (J : SJ) : List (Nat × Sem') := (15, heapSem [.v, .v, .v] A (gYAt J)) :: (54, heapSem [.v] A (gSwap)) :: ([])
theorem tL6OK : COK Tryz.prog (look (tL6 stdA stdJ)) := COK_cons ok_qyat (COK_cons ok_qswap (COK_nil))
theorem ok_qxat : CallOK Tryz.prog 17 (heapSem [.v, .v, .v] stdA (gXAt stdJ)) := by
  refine callOK_heap (un := ⟨false, some [3,4,5,6,7]⟩) tok tL6OK mixed (fn := Tryz.f17) (by kernel_rfl) (by kernel_rfl) (by kernel_rfl) (by decide +kernel) ?_
  intro w Wr args bs r hg ho hWr A L k hA hL hk
  obtain ⟨J, hJ⟩ : ∃ J, J = stdJ := ⟨_, rfl⟩
  (try rw [← hJ])
  (try rw [← hA])
  unfold gXAt at hg
  split at hg
  rotate_left
  · cases hg
  simp only [Option.some.injEq] at hg
  subst hg
  rename_i a b x
  cbv
  repeat' first | (with_reducible intro hb; cbv) | with_reducible refine And.intro ?_ ?_
  refine hk _ _ (Good.pure rfl fun ρ => ?_)
  subst hJ
  exact tupR rfl rfl
end Go.Eng

