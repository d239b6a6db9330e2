
import Derived.Test.YtjjmpghdjoohfaaCRA
import Derived.Test.YtjjmpghdjoohfaaSpecFA
set_option linter.all false
set_option exponentiation.threshold 3000
namespace Go.Eng
open Go.Proofs
set_option maxRecDepth 100000
set_option linter.all false
set_option exponentiation.threshold 3000
set_option maxHeartbeats 2000000
def gAtP (A : Alg) (H : SH) : List CV → List Blk → Option LR
  | [.s (.int .i64 x), .s (.int .i64 y)], [] => some ⟨[A.cmp .leq (-9223372036854775808) x, A.cmp .lss x 9223372036854775808, A.cmp .leq (-9223372036854775808) y, A.cmp .lss y 9223372036854775808], .c (.g [.P (H.at_ x y)]), []⟩
  | _, _ => none
def gAllP (A : Alg) (H : SH) : List CV → List Blk → Option LR
  | [.s (.hs 0)], [.vec false .pt l] => some ⟨[A.cmp .lss (A.len l) 1000000], .c (.s (.bool (H.all l))), []⟩
  | _, _ => none
def ApI (l : List Pt) (k : Int) : Prop := 0 ≤ k ∧ k ≤ l.length ∧ allP l = allP (l.drop k.toNat)
structure ApStep (A : Alg) (F : SF) (H : SH) (l : List Pt) (k : Int) (w : Pt) : Prop where
  o1 : A.cmp .leq 0 k = true
  no : A.ite (A.not (F.safe w.X 60)) true (A.not (F.safe w.Y 60)) = true → false = H.all l
  nx : A.ite (A.not (F.safe w.X 60)) true (A.not (F.safe w.Y 60)) = false → ApI l (k + 1)
  ad : A.bin .add .i64 k 1 = k + 1
  ms : ((l.length : Int) - (k + 1)).toNat < ((l.length : Int) - k).toNat
theorem ap_step {l : List Pt} (hn : l.length < 1000000) {k : Int} (hI : ApI l k) (A : Alg) (hA : A = stdA) (F : SF) (hF : F = stdF) (H : SH) (hH : H = stdH) (hb : A.cmp .lss k (A.len l) = true) (w : Pt) (hw : w = A.get l k ⟨⟨⟨false, A.zD⟩, ⟨false, A.zD⟩⟩, ⟨⟨false, A.zD⟩, ⟨false, A.zD⟩⟩⟩) : ApStep A F H l k w := by
  subst hA hF hH
  have hb : k < (l.length : Int) := of_decide_eq_true hb
  obtain ⟨k0, k1, h⟩ := hI
  have hlt : k.toNat < l.length := by omega
  have er : w = l[k.toNat] := by
    rw [hw]
    show (l[k.toNat]?).getD _ = _
    rw [List.getElem?_eq_getElem hlt]; rfl
  have hd : l.drop k.toNat = w :: l.drop (k + 1).toNat := by
    rw [show (k + 1).toNat = k.toNat + 1 by omega, List.drop_eq_getElem_cons hlt, er]
  have hal : allP l = (ptOK w && allP (l.drop (k + 1).toNat)) := by
    rw [h, hd]; rfl
  have hc : stdA.ite (stdA.not (stdF.safe w.X 60)) true (stdA.not (stdF.safe w.Y 60)) = !ptOK w := by
    show (if (!safeR w.X 60) = true then true else !safeR w.Y 60) = !(safeR w.X 60 && safeR w.Y 60)
    cases safeR w.X 60 <;> cases safeR w.Y 60 <;> rfl
  exact {
    o1 := leq_of _ rfl _ _ k0
    no := fun h' => by
      rw [hc, Bool.not_eq_true'] at h'
      show false = allP l
      rw [hal, h']; rfl
    nx := fun h' => by
      rw [hc, Bool.not_eq_false'] at h'
      refine ⟨by omega, by omega, ?_⟩
      rw [hal, h']; rfl
    ad := by show stdBin .add .i64 k 1 = k + 1; simp only [stdBin, IntKind.wrap_i64]; omega
    ms := by omega }
theorem ap_end {l : List Pt} {k : Int} (hI : ApI l k) (A : Alg) (hA : A = stdA) (H : SH) (hH : H = stdH) (hb : A.cmp .lss k (A.len l) = false) : true = H.all l := by
  subst hA hH
  have hb : ¬ k < (l.length : Int) := of_decide_eq_false hb
  obtain ⟨k0, k1, h⟩ := hI
  rw [List.drop_eq_nil_of_le (by omega)] at h
  exact h.symm
theorem ok_pall : CallOK Try.prog 74 (heapSem [.s .pt] stdA (gAllP stdA stdH)) := by
  refine callOK_heap (un := ⟨false, some [0,2,4,5,6,7,8,20]⟩) tok tF16OK mixed (fn := Try.f74) (by kernel_rfl) (by kernel_rfl) (by kernel_rfl) (by decide +kernel) ?_
  intro w Wr args bs r hg ho hWr A L k hA hL hk
  obtain ⟨F, hF⟩ : ∃ F, F = stdF := ⟨_, rfl⟩
  obtain ⟨H, hH⟩ : ∃ H, H = stdH := ⟨_, rfl⟩
  obtain ⟨M, hM⟩ : ∃ M, M = stdM := ⟨_, rfl⟩
  obtain ⟨S, hS⟩ : ∃ S, S = stdW := ⟨_, rfl⟩
  obtain ⟨V, hV⟩ : ∃ V, V = stdV := ⟨_, rfl⟩
  obtain ⟨X, hX⟩ : ∃ X, X = stdX := ⟨_, rfl⟩
  (try rw [← hF])
  (try rw [← hH])
  (try rw [← hM])
  (try rw [← hS])
  (try rw [← hV])
  (try rw [← hX])
  (try rw [← hA])
  unfold gAllP at hg
  split at hg
  rotate_left
  · cases hg
  simp only [Option.some.injEq] at hg
  subst hg
  rename_i l
  have hlen := (ho_cons ho).1
  simp only [stdA, stdCmp, decide_eq_true_eq] at hlen
  have hlen : l.length < 1000000 := by omega
  clear ho
  have i0 : ApI l 0 := ⟨Int.le_refl 0, Int.natCast_nonneg _, rfl⟩
  cbv
  refine hL _ _ _ (loop_rule (un := ⟨false, some [0, 2, 4, 5, 6, 7, 8, 20]⟩) tok tF16OK mixed (fun k : Int => ⟨[(7, ⟨[], .c (.s (.int .i64 k))⟩), (6, ⟨[], .c (.s (.int .i64 (stdA.len l)))⟩), (5, ⟨[], .c (.s (.hs 0))⟩)], [(0, .vec false .pt l)], 1⟩)
    (fun k => ApI l k) (fun k => ((l.length : Int) - k).toNat) 0 i0 ?_ (fun _ i hi => by have := hWr i hi; simp at this; show i < 1; omega) ?_)
  · exact ⟨⟨⟨rfl, rfl, fun _ => rfl⟩, ⟨rfl, rfl, leI (by subst hA; rfl)⟩, ⟨rfl, rfl, fun _ => rfl⟩, trivial⟩, ⟨leRefl rfl, trivial⟩, rfl, rfl⟩
  clear i0
  rintro k hI A2 L2 k2 hA2 hL2 hnext hexit hret
  have st := fun hb : A2.cmp .lss k (A2.len l) = true => ap_step hlen hI A2 hA2 F hF H hH hb _ rfl
  have en := fun hb : A2.cmp .lss k (A2.len l) = false => ap_end hI A2 hA2 H hH hb
  clear hI
  rw [← hA2, ← hS, ← hV, ← hX, ← hM, ← hF]
  cbv
  repeat' first | (with_reducible intro hb; cbv) | with_reducible refine And.intro ?_ ?_
  all_goals first | exact (st hb).o1 | exact hb | skip
  · rename_i hb0
    have e := (st hb0).no hb
    apply hret
    clear hexit hnext hret st en
    cbv
    refine hk _ _ (Good.pure rfl fun ρ => ?_)
    subst hH
    exact retT e
  · rename_i hb0
    refine hnext _ (k + 1) ((st hb0).nx hb) (st hb0).ms ?_
    have ead := (st hb0).ad
    subst hA2
    exact ⟨⟨⟨rfl, rfl, leI ead⟩, ⟨rfl, rfl, fun _ => rfl⟩, ⟨rfl, rfl, fun _ => rfl⟩, trivial⟩, ⟨leRefl rfl, trivial⟩, rfl, rfl⟩
  · have e := en hb
    apply hexit
    clear hexit hnext hret st en
    cbv
    refine hk _ _ (Good.pure rfl fun ρ => ?_)
    subst hH
    exact retT e
def tG1 (A : Alg) (S : SW) (V : SV) (X : SX) (M : SM) (F : SF) (H : SH) : List (Nat × Sem') := (74, heapSem [.s .pt] A (gAllP A H)) :: ((tF16 A S V X M F))
theorem tG1OK : COK Try.prog (look (tG1 stdA stdW stdV stdX stdM stdF stdH)) := COK_cons ok_pall (tF16OK)
def gIsP (H : SH) : List CV → List Blk → Option LR
  | [.g [.P p]], [] => some ⟨[], .c (.s (.bool (H.all [p]))), []⟩
  | _, _ => none
theorem ok_pis : CallOK Try.prog 44 (heapSem [.v] stdA (gIsP stdH)) := by
  refine callOK_heap (un := ⟨false, some [1,2]⟩) tok tG1OK mixed (fn := Try.f44) (by kernel_rfl) (by kernel_rfl) (by kernel_rfl) (by decide +kernel) ?_
  intro w Wr args bs r hg ho hWr A L k hA hL hk
  obtain ⟨F, hF⟩ : ∃ F, F = stdF := ⟨_, rfl⟩
  obtain ⟨H, hH⟩ : ∃ H, H = stdH := ⟨_, rfl⟩
  obtain ⟨M, hM⟩ : ∃ M, M = stdM := ⟨_, rfl⟩
  obtain ⟨S, hS⟩ : ∃ S, S = stdW := ⟨_, rfl⟩
  obtain ⟨V, hV⟩ : ∃ V, V = stdV := ⟨_, rfl⟩
  obtain ⟨X, hX⟩ : ∃ X, X = stdX := ⟨_, rfl⟩
  (try rw [← hF])
  (try rw [← hH])
  (try rw [← hM])
  (try rw [← hS])
  (try rw [← hV])
  (try rw [← hX])
  (try rw [← hA])
  unfold gIsP at hg
  split at hg
  rotate_left
  · cases hg
  simp only [Option.some.injEq] at hg
  subst hg
  rename_i p
  have al : A.cmp .lss (A.len [p]) 1000000 = true := lss_of A hA _ _ (by subst hA; show (1 : Int) < 1000000; omega)
  cbv
  repeat' first | (with_reducible intro hb; cbv) | with_reducible refine And.intro ?_ ?_
  · exact al
  refine hk _ _ (Good.pure rfl fun ρ => ?_)
  subst hH
  exact retB rfl
def gToldP (A : Alg) : List CV → List Blk → Option LW
  | [.s (.hp 0 0), .g [.R r], .s (.bool o)], [.fix true [.s (.tt false)]] => some ⟨[], .c (.g [.R r]), [], [.fix true [.s (.bool (A.not o))]]⟩
  | [.s (.hp 0 0), .g [.R r], .s (.bool o)], [.fix true [.s (.bool b)]] => some ⟨[], .c (.g [.R r]), [], [.fix true [.s (.bool (A.ite b true (A.not o)))]]⟩
  | _, _ => none
theorem ok_ptold : CallOK Try.prog 101 (heapSemW [.pw, .v, .v] stdA (gToldP stdA)) := by
  refine callOK_heapW (un := ⟨false, some [0,2,4,6]⟩) tok tG1OK mixed (fn := Try.f101) (by kernel_rfl) (by kernel_rfl) (by kernel_rfl) (by decide +kernel) ?_
  intro w Wr args bs r hg ho hWr A L k hA hL hk
  obtain ⟨F, hF⟩ : ∃ F, F = stdF := ⟨_, rfl⟩
  obtain ⟨H, hH⟩ : ∃ H, H = stdH := ⟨_, rfl⟩
  obtain ⟨M, hM⟩ : ∃ M, M = stdM := ⟨_, rfl⟩
  obtain ⟨S, hS⟩ : ∃ S, S = stdW := ⟨_, rfl⟩
  obtain ⟨V, hV⟩ : ∃ V, V = stdV := ⟨_, rfl⟩
  obtain ⟨X, hX⟩ : ∃ X, X = stdX := ⟨_, rfl⟩
  (try rw [← hF])
  (try rw [← hH])
  (try rw [← hM])
  (try rw [← hS])
  (try rw [← hV])
  (try rw [← hX])
  (try rw [← hA])
  unfold gToldP at hg
  split at hg
  · simp only [Option.some.injEq] at hg
    subst hg
    cbv
    subst hA
    exact hk _ _ (GoodW.one (t := 0) rfl (fun ρ => retR rfl) rfl rfl rfl (leRefl rfl))
  · simp only [Option.some.injEq] at hg
    subst hg
    cbv
    subst hA
    exact hk _ _ (GoodW.one (t := 0) rfl (fun ρ => retR rfl) rfl rfl rfl (leRefl rfl))
  · cases hg
def tG2 (A : Alg) (S : SW) (V : SV) (X : SX) (M : SM) (F : SF) (H : SH) : List (Nat × Sem') := (44, heapSem [.v] A (gIsP H)) :: (101, heapSemW [.pw, .v, .v] A (gToldP A)) :: ((tG1 A S V X M F H))
theorem tG2OK : COK Try.prog (look (tG2 stdA stdW stdV stdX stdM stdF stdH)) := COK_cons ok_pis (COK_cons ok_ptold (tG1OK))
def gSubS (A : Alg) (F : SF) : List CV → List Blk → Option LW
  | [.s (.hp 0 0), .g [.R x], .g [.R y]], [.fix true [.s (.tt false)]] => some ⟨[], .c (.g [.R (F.sub x y)]), [], [.fix true [.s (.bool (A.not (F.two x y)))]]⟩
  | [.s (.hp 0 0), .g [.R x], .g [.R y]], [.fix true [.s (.bool b)]] => some ⟨[], .c (.g [.R (F.sub x y)]), [], [.fix true [.s (.bool (A.ite b true (A.not (F.two x y))))]]⟩
  | _, _ => none
theorem ok_psub : CallOK Try.prog 77 (heapSemW [.pw, .v, .v] stdA (gSubS stdA stdF)) := by
  refine callOK_heapW (un := ⟨false, some [0,4,5,6]⟩) tok tG2OK mixed (fn := Try.f77) (by kernel_rfl) (by kernel_rfl) (by kernel_rfl) (by decide +kernel) ?_
  intro w Wr args bs r hg ho hWr A L k hA hL hk
  obtain ⟨F, hF⟩ : ∃ F, F = stdF := ⟨_, rfl⟩
  obtain ⟨H, hH⟩ : ∃ H, H = stdH := ⟨_, rfl⟩
  obtain ⟨M, hM⟩ : ∃ M, M = stdM := ⟨_, rfl⟩
  obtain ⟨S, hS⟩ : ∃ S, S = stdW := ⟨_, rfl⟩
  obtain ⟨V, hV⟩ : ∃ V, V = stdV := ⟨_, rfl⟩
  obtain ⟨X, hX⟩ : ∃ X, X = stdX := ⟨_, rfl⟩
  (try rw [← hF])
  (try rw [← hH])
  (try rw [← hM])
  (try rw [← hS])
  (try rw [← hV])
  (try rw [← hX])
  (try rw [← hA])
  unfold gSubS at hg
  split at hg
  · simp only [Option.some.injEq] at hg
    subst hg
    cbv
    subst hA hF
    exact hk _ _ (GoodW.one (t := 0) rfl (fun ρ => retR rfl) rfl rfl rfl (leRefl rfl))
  · simp only [Option.some.injEq] at hg
    subst hg
    cbv
    subst hA hF
    exact hk _ _ (GoodW.one (t := 0) rfl (fun ρ => retR rfl) rfl rfl rfl (leRefl rfl))
  · cases hg
def gMulS (A : Alg) (F : SF) : List CV → List Blk → Option LW
  | [.s (.hp 0 0), .g [.R x], .g [.R y]], [.fix true [.s (.tt false)]] => some ⟨[], .c (.g [.R (F.mul x y)]), [], [.fix true [.s (.bool (A.not (F.two x y)))]]⟩
  | [.s (.hp 0 0), .g [.R x], .g [.R y]], [.fix true [.s (.bool b)]] => some ⟨[], .c (.g [.R (F.mul x y)]), [], [.fix true [.s (.bool (A.ite b true (A.not (F.two x y))))]]⟩
  | _, _ => none
theorem ok_pmul : CallOK Try.prog 78 (heapSemW [.pw, .v, .v] stdA (gMulS stdA stdF)) := by
  refine callOK_heapW (un := ⟨false, some [0,4,5,6]⟩) tok tG2OK mixed (fn := Try.f78) (by kernel_rfl) (by kernel_rfl) (by kernel_rfl) (by decide +kernel) ?_
  intro w Wr args bs r hg ho hWr A L k hA hL hk
  obtain ⟨F, hF⟩ : ∃ F, F = stdF := ⟨_, rfl⟩
  obtain ⟨H, hH⟩ : ∃ H, H = stdH := ⟨_, rfl⟩
  obtain ⟨M, hM⟩ : ∃ M, M = stdM := ⟨_, rfl⟩
  obtain ⟨S, hS⟩ : ∃ S, S = stdW := ⟨_, rfl⟩
  obtain ⟨V, hV⟩ : ∃ V, V = stdV := ⟨_, rfl⟩
  obtain ⟨X, hX⟩ : ∃ X, X = stdX := ⟨_, rfl⟩
  (try rw [← hF])
  (try rw [← hH])
  (try rw [← hM])
  (try rw [← hS])
  (try rw [← hV])
  (try rw [← hX])
  (try rw [← hA])
  unfold gMulS at hg
  split at hg
  · simp only [Option.some.injEq] at hg
    subst hg
    cbv
    subst hA hF
    exact hk _ _ (GoodW.one (t := 0) rfl (fun ρ => retR rfl) rfl rfl rfl (leRefl rfl))
  · simp only [Option.some.injEq] at hg
    subst hg
    cbv
    subst hA hF
    exact hk _ _ (GoodW.one (t := 0) rfl (fun ρ => retR rfl) rfl rfl rfl (leRefl rfl))
  · cases hg
def tG3 (A : Alg) (S : SW) (V : SV) (X : SX) (M : SM) (F : SF) (H : SH) : List (Nat × Sem') := (77, heapSemW [.pw, .v, .v] A (gSubS A F)) :: (78, heapSemW [.pw, .v, .v] A (gMulS A F)) :: ((tG2 A S V X M F H))
theorem tG3OK : COK Try.prog (look (tG3 stdA stdW stdV stdX stdM stdF stdH)) := COK_cons ok_psub (COK_cons ok_pmul (tG2OK))
end Go.Eng
namespace Go.Eng
open Go.Proofs
set_option maxRecDepth 100000
set_option linter.all false
set_option exponentiation.threshold 3000
set_option maxHeartbeats 2000000
def gVec (A : Alg) (F : SF) : List CV → List Blk → Option LW
  | [.s (.hp 0 0), .g [.P x], .g [.P y]], [.fix true [.s (.tt false)]] => some ⟨[], .c (.g [.P ⟨F.sub y.X x.X, F.sub y.Y x.Y⟩]), [], [.fix true [.s (.bool (A.ite (A.not (F.two y.X x.X)) true (A.not (F.two y.Y x.Y))))]]⟩
  | [.s (.hp 0 0), .g [.P x], .g [.P y]], [.fix true [.s (.bool b)]] => some ⟨[], .c (.g [.P ⟨F.sub y.X x.X, F.sub y.Y x.Y⟩]), [], [.fix true [.s (.bool (A.ite (A.ite b true (A.not (F.two y.X x.X))) true (A.not (F.two y.Y x.Y))))]]⟩
  | _, _ => none
theorem ok_pvec : CallOK Try.prog 75 (heapSemW [.pw, .v, .v] stdA (gVec stdA stdF)) := by
  refine callOK_heapW (un := ⟨false, some [0,4,5,6]⟩) tok tG3OK mixed (fn := Try.f75) (by kernel_rfl) (by kernel_rfl) (by kernel_rfl) (by decide +kernel) ?_
  intro w Wr args bs r hg ho hWr A L k hA hL hk
  obtain ⟨F, hF⟩ : ∃ F, F = stdF := ⟨_, rfl⟩
  obtain ⟨H, hH⟩ : ∃ H, H = stdH := ⟨_, rfl⟩
  obtain ⟨M, hM⟩ : ∃ M, M = stdM := ⟨_, rfl⟩
  obtain ⟨S, hS⟩ : ∃ S, S = stdW := ⟨_, rfl⟩
  obtain ⟨V, hV⟩ : ∃ V, V = stdV := ⟨_, rfl⟩
  obtain ⟨X, hX⟩ : ∃ X, X = stdX := ⟨_, rfl⟩
  (try rw [← hF])
  (try rw [← hH])
  (try rw [← hM])
  (try rw [← hS])
  (try rw [← hV])
  (try rw [← hX])
  (try rw [← hA])
  unfold gVec at hg
  split at hg
  · simp only [Option.some.injEq] at hg
    subst hg
    cbv
    repeat' first | (with_reducible intro hb; cbv) | with_reducible refine And.intro ?_ ?_
    subst hA hF
    exact hk _ _ (GoodW.one (t := 0) rfl (fun ρ => retP rfl) rfl rfl rfl (leRefl rfl))
  · simp only [Option.some.injEq] at hg
    subst hg
    cbv
    repeat' first | (with_reducible intro hb; cbv) | with_reducible refine And.intro ?_ ?_
    subst hA hF
    exact hk _ _ (GoodW.one (t := 0) rfl (fun ρ => retP rfl) rfl rfl rfl (leRefl rfl))
  · cases hg
def gDotS (A : Alg) (F : SF) : List CV → List Blk → Option LW
  | [.s (.hp 0 0), .g [.P x], .g [.P y]], [.fix true [.s (.bool b)]] => some ⟨[], .c (.g [.R (F.add (F.mul x.X y.X) (F.mul x.Y y.Y))]), [], [.fix true [.s (.bool (A.ite (A.ite (A.ite b true (A.not (F.two x.X y.X))) true (A.not (F.two x.Y y.Y))) true (A.not (F.two (F.mul x.X y.X) (F.mul x.Y y.Y)))))]]⟩
  | _, _ => none
theorem ok_pdots : CallOK Try.prog 85 (heapSemW [.pw, .v, .v] stdA (gDotS stdA stdF)) := by
  refine callOK_heapW (un := ⟨false, some [0,4,5,6]⟩) tok tG3OK mixed (fn := Try.f85) (by kernel_rfl) (by kernel_rfl) (by kernel_rfl) (by decide +kernel) ?_
  intro w Wr args bs r hg ho hWr A L k hA hL hk
  obtain ⟨F, hF⟩ : ∃ F, F = stdF := ⟨_, rfl⟩
  obtain ⟨H, hH⟩ : ∃ H, H = stdH := ⟨_, rfl⟩
  obtain ⟨M, hM⟩ : ∃ M, M = stdM := ⟨_, rfl⟩
  obtain ⟨S, hS⟩ : ∃ S, S = stdW := ⟨_, rfl⟩
  obtain ⟨V, hV⟩ : ∃ V, V = stdV := ⟨_, rfl⟩
  obtain ⟨X, hX⟩ : ∃ X, X = stdX := ⟨_, rfl⟩
  (try rw [← hF])
  (try rw [← hH])
  (try rw [← hM])
  (try rw [← hS])
  (try rw [← hV])
  (try rw [← hX])
  (try rw [← hA])
  unfold gDotS at hg
  split at hg
  rotate_left
  · cases hg
  simp only [Option.some.injEq] at hg
  subst hg
  cbv
  repeat' first | (with_reducible intro hb; cbv) | with_reducible refine And.intro ?_ ?_
  subst hA hF
  exact hk _ _ (GoodW.one (t := 0) rfl (fun ρ => retR rfl) rfl rfl rfl (leRefl rfl))
def gEnds (A : Alg) (H : SH) : List CV → List Blk → Option LR
  | [.s (.hp 0 0), .g [.R r]], [.fix false [.s (.bool b)]] => some ⟨[], .t [.g [.R (H.ends b r)], .s (.bool (A.not b))], []⟩
  | _, _ => none
theorem ok_pends : CallOK Try.prog 76 (heapSem [.p, .v] stdA (gEnds stdA stdH)) := by
  refine callOK_heap (un := ⟨false, some [0,3,4,5,9]⟩) tok tG3OK mixed (fn := Try.f76) (by kernel_rfl) (by kernel_rfl) (by kernel_rfl) (by decide +kernel) ?_
  intro w Wr args bs r hg ho hWr A L k hA hL hk
  obtain ⟨F, hF⟩ : ∃ F, F = stdF := ⟨_, rfl⟩
  obtain ⟨H, hH⟩ : ∃ H, H = stdH := ⟨_, rfl⟩
  obtain ⟨M, hM⟩ : ∃ M, M = stdM := ⟨_, rfl⟩
  obtain ⟨S, hS⟩ : ∃ S, S = stdW := ⟨_, rfl⟩
  obtain ⟨V, hV⟩ : ∃ V, V = stdV := ⟨_, rfl⟩
  obtain ⟨X, hX⟩ : ∃ X, X = stdX := ⟨_, rfl⟩
  (try rw [← hF])
  (try rw [← hH])
  (try rw [← hM])
  (try rw [← hS])
  (try rw [← hV])
  (try rw [← hX])
  (try rw [← hA])
  unfold gEnds at hg
  split at hg
  rotate_left
  · cases hg
  simp only [Option.some.injEq] at hg
  subst hg
  rename_i r b
  have h1 : b = true → zeroR = H.ends b r ∧ false = A.not b := fun h => by subst hH hA h; exact ⟨rfl, rfl⟩
  have h0 : b = false → r = H.ends b r ∧ true = A.not b := fun h => by subst hH hA h; exact ⟨rfl, rfl⟩
  cbv
  repeat' first | (with_reducible intro hb; cbv) | with_reducible refine And.intro ?_ ?_
  · have e := h1 hb
    refine hk _ _ (Good.pure rfl fun ρ => ?_)
    subst hH hA
    exact tupRt e.1 e.2
  · have e := h0 hb
    refine hk _ _ (Good.pure rfl fun ρ => ?_)
    subst hH hA
    exact tupRt e.1 e.2
def tG4 (A : Alg) (S : SW) (V : SV) (X : SX) (M : SM) (F : SF) (H : SH) : List (Nat × Sem') := (75, heapSemW [.pw, .v, .v] A (gVec A F)) :: (85, heapSemW [.pw, .v, .v] A (gDotS A F)) :: (76, heapSem [.p, .v] A (gEnds A H)) :: ((tG3 A S V X M F H))
theorem tG4OK : COK Try.prog (look (tG4 stdA stdW stdV stdX stdM stdF stdH)) := COK_cons ok_pvec (COK_cons ok_pdots (COK_cons ok_pends (tG3OK)))
def gCmpP (H : SH) : List CV → List Blk → Option LR
  | [.g [.P x], .g [.P y]], [] => some ⟨[], .t [.s (.int .i64 (H.cmp x y)), .s (.bool (H.all [x, y]))], []⟩
  | _, _ => none
theorem allP_two {x y : Pt} (h : allP [x, y] = true) : IsPt x ∧ IsPt y := by
  have h : (ptOK x && (ptOK y && true)) = true := h
  simp only [Bool.and_true, Bool.and_eq_true] at h
  exact ⟨isPt_of h.1, isPt_of h.2⟩
theorem allP_three {x y z : Pt} (h : allP [x, y, z] = true) : IsPt x ∧ IsPt y ∧ IsPt z := by
  have h : (ptOK x && (ptOK y && (ptOK z && true))) = true := h
  simp only [Bool.and_true, Bool.and_eq_true] at h
  exact ⟨isPt_of h.1, isPt_of h.2.1, isPt_of h.2.2⟩
structure CpF (A : Alg) (F : SF) (H : SH) (x y : Pt) : Prop where
  al : A.cmp .lss (A.len [x, y]) 1000000 = true
  no : A.not (H.all [x, y]) = true → 0 = H.cmp x y ∧ false = H.all [x, y]
  c1 : A.not (H.all [x, y]) = false → A.ite (A.cmp .neq (F.cmp x.X y.X) 0) true (A.not (F.two x.X y.X)) = true → F.cmp x.X y.X = H.cmp x y ∧ F.two x.X y.X = H.all [x, y]
  c0 : A.not (H.all [x, y]) = false → A.ite (A.cmp .neq (F.cmp x.X y.X) 0) true (A.not (F.two x.X y.X)) = false → F.cmp x.Y y.Y = H.cmp x y ∧ F.two x.Y y.Y = H.all [x, y]
theorem cp_f (x y : Pt) (A : Alg) (hA : A = stdA) (F : SF) (hF : F = stdF) (H : SH) (hH : H = stdH) : CpF A F H x y := by
  subst hA hF hH
  have key : stdA.not (stdH.all [x, y]) = false → stdH.all [x, y] = true ∧ stdH.cmp x y = pcmp x y ∧ (stdF.two x.X y.X = true ∧ stdF.cmp x.X y.X = sgnQ (px x) (px y)) ∧ (stdF.two x.Y y.Y = true ∧ stdF.cmp x.Y y.Y = sgnQ (py x) (py y)) := fun h => by
    have h : (!allP [x, y]) = false := h
    rw [Bool.not_eq_false'] at h
    obtain ⟨hx, hy⟩ := allP_two h
    refine ⟨h, ?_, (Cal.of hx.x).cmp (Cal.of hy.x) (by decide), (Cal.of hx.y).cmp (Cal.of hy.y) (by decide)⟩
    show (if allP [x, y] = true then _ else _) = _
    rw [h]; rfl
  refine ⟨lss_of _ rfl _ _ (by show (2 : Int) < 1000000; omega), fun h => ?_, fun h h' => ?_, fun h h' => ?_⟩
  · have h : (!allP [x, y]) = true := h
    rw [Bool.not_eq_true'] at h
    refine ⟨?_, h.symm⟩
    show 0 = (if allP [x, y] = true then _ else _)
    rw [h]; rfl
  · obtain ⟨k1, k2, ⟨k3, k4⟩, k5, k6⟩ := key h
    have h' : (if (stdF.cmp x.X y.X != 0) = true then true else !(stdF.two x.X y.X)) = true := h'
    rw [k3] at h'
    rw [k4] at h' ⊢
    rw [k1, k2, k3]
    refine ⟨?_, rfl⟩
    unfold pcmp
    have : sgnQ (px x) (px y) ≠ 0 := by simpa using h'
    rw [if_pos this]
  · obtain ⟨k1, k2, ⟨k3, k4⟩, k5, k6⟩ := key h
    have h' : (if (stdF.cmp x.X y.X != 0) = true then true else !(stdF.two x.X y.X)) = false := h'
    rw [k3, k4] at h'
    rw [k1, k2, k5, k6]
    refine ⟨?_, rfl⟩
    unfold pcmp
    have : sgnQ (px x) (px y) = 0 := by simpa using h'
    rw [if_neg (by rw [this]; decide)]
theorem ok_pcmp : CallOK Try.prog 47 (heapSem [.v, .v] stdA (gCmpP stdH)) := by
  refine callOK_heap (un := ⟨false, some [2,3,4,5,6,7,12,26]⟩) tok tG4OK mixed (fn := Try.f47) (by kernel_rfl) (by kernel_rfl) (by kernel_rfl) (by decide +kernel) ?_
  intro w Wr args bs r hg ho hWr A L k hA hL hk
  obtain ⟨F, hF⟩ : ∃ F, F = stdF := ⟨_, rfl⟩
  obtain ⟨H, hH⟩ : ∃ H, H = stdH := ⟨_, rfl⟩
  obtain ⟨M, hM⟩ : ∃ M, M = stdM := ⟨_, rfl⟩
  obtain ⟨S, hS⟩ : ∃ S, S = stdW := ⟨_, rfl⟩
  obtain ⟨V, hV⟩ : ∃ V, V = stdV := ⟨_, rfl⟩
  obtain ⟨X, hX⟩ : ∃ X, X = stdX := ⟨_, rfl⟩
  (try rw [← hF])
  (try rw [← hH])
  (try rw [← hM])
  (try rw [← hS])
  (try rw [← hV])
  (try rw [← hX])
  (try rw [← hA])
  unfold gCmpP at hg
  split at hg
  rotate_left
  · cases hg
  simp only [Option.some.injEq] at hg
  subst hg
  rename_i x y
  have cp := cp_f x y A hA F hF H hH
  cbv
  repeat' first | (with_reducible intro hb; cbv) | with_reducible refine And.intro ?_ ?_
  · exact cp.al
  · have e := cp.no hb
    refine hk _ _ (Good.pure rfl fun ρ => ?_)
    subst hH
    exact tupLbt e.1 e.2
  · rename_i h1
    have e := cp.c1 h1 hb
    refine hk _ _ (Good.pure rfl fun ρ => ?_)
    subst hH hF
    exact tupIb e.1 e.2
  · rename_i h1
    have e := cp.c0 h1 hb
    refine hk _ _ (Good.pure rfl fun ρ => ?_)
    subst hH hF
    exact tupIb e.1 e.2
def gCross (H : SH) : List CV → List Blk → Option LR
  | [.g [.P x], .g [.P y], .g [.P z]], [] => some ⟨[], .t [.g [.R (H.cross x y z)], .s (.bool (H.all [x, y, z]))], []⟩
  | _, _ => none
def gDotP (H : SH) : List CV → List Blk → Option LR
  | [.g [.P x], .g [.P y], .g [.P z]], [] => some ⟨[], .t [.g [.R (H.dot x y z)], .s (.bool (H.all [x, y, z]))], []⟩
  | _, _ => none
def vecBad (A : Alg) (F : SF) (x y z : Pt) : Bool := A.ite (A.ite (A.ite (A.not (F.two y.X x.X)) true (A.not (F.two y.Y x.Y))) true (A.not (F.two z.X x.X))) true (A.not (F.two z.Y x.Y))
def crossBad (A : Alg) (F : SF) (x y z : Pt) : Bool := A.ite (A.ite (A.ite (vecBad A F x y z) true (A.not (F.two (F.sub y.X x.X) (F.sub z.Y x.Y)))) true (A.not (F.two (F.sub y.Y x.Y) (F.sub z.X x.X)))) true (A.not (F.two (F.mul (F.sub y.X x.X) (F.sub z.Y x.Y)) (F.mul (F.sub y.Y x.Y) (F.sub z.X x.X))))
def dotBad (A : Alg) (F : SF) (x y z : Pt) : Bool := A.ite (A.ite (A.ite (vecBad A F x y z) true (A.not (F.two (F.sub y.X x.X) (F.sub z.X x.X)))) true (A.not (F.two (F.sub y.Y x.Y) (F.sub z.Y x.Y)))) true (A.not (F.two (F.mul (F.sub y.X x.X) (F.sub z.X x.X)) (F.mul (F.sub y.Y x.Y) (F.sub z.Y x.Y))))
structure CrF (A : Alg) (F : SF) (H : SH) (x y z : Pt) : Prop where
  al : A.cmp .lss (A.len [x, y, z]) 1000000 = true
  no : A.not (H.all [x, y, z]) = true → zeroR = H.cross x y z ∧ zeroR = H.dot x y z ∧ false = H.all [x, y, z]
  cr : A.not (H.all [x, y, z]) = false → H.ends (crossBad A F x y z) (F.sub (F.mul (F.sub y.X x.X) (F.sub z.Y x.Y)) (F.mul (F.sub y.Y x.Y) (F.sub z.X x.X))) = H.cross x y z ∧ A.not (crossBad A F x y z) = H.all [x, y, z]
  dt : A.not (H.all [x, y, z]) = false → H.ends (dotBad A F x y z) (F.add (F.mul (F.sub y.X x.X) (F.sub z.X x.X)) (F.mul (F.sub y.Y x.Y) (F.sub z.Y x.Y))) = H.dot x y z ∧ A.not (dotBad A F x y z) = H.all [x, y, z]
theorem cr_f (x y z : Pt) (A : Alg) (hA : A = stdA) (F : SF) (hF : F = stdF) (H : SH) (hH : H = stdH) : CrF A F H x y z := by
  subst hA hF hH
  have key : stdA.not (stdH.all [x, y, z]) = false → (stdH.all [x, y, z] = true) ∧ IsPt x ∧ IsPt y ∧ IsPt z := fun h => by
    have h : (!allP [x, y, z]) = false := h
    rw [Bool.not_eq_false'] at h
    exact ⟨h, allP_three h⟩
  refine ⟨lss_of _ rfl _ _ (by show (3 : Int) < 1000000; omega), fun h => ?_, fun h => ?_, fun h => ?_⟩
  · have h : (!allP [x, y, z]) = true := h
    rw [Bool.not_eq_true'] at h
    refine ⟨?_, ?_, h.symm⟩
    · show zeroR = (if allP [x, y, z] = true then _ else _)
      rw [h]; rfl
    · show zeroR = (if allP [x, y, z] = true then _ else _)
      rw [h]; rfl
  · obtain ⟨ha, hx, hy, hz⟩ := key h
    obtain ⟨a1, a2⟩ := (Cal.of hy.x).sub (Cal.of hx.x) (by decide)
    obtain ⟨b1, b2⟩ := (Cal.of hy.y).sub (Cal.of hx.y) (by decide)
    obtain ⟨c1, c2⟩ := (Cal.of hz.x).sub (Cal.of hx.x) (by decide)
    obtain ⟨d1, d2⟩ := (Cal.of hz.y).sub (Cal.of hx.y) (by decide)
    obtain ⟨e1, e2⟩ := a2.mul d2 (by decide)
    obtain ⟨f1, f2⟩ := b2.mul c2 (by decide)
    obtain ⟨g1, g2⟩ := e2.sub f2 (by decide)
    have hbad : crossBad stdA stdF x y z = false := by
      unfold crossBad vecBad
      rw [a1, b1, c1, d1, e1, f1, g1]; rfl
    rw [hbad, ha]
    refine ⟨?_, rfl⟩
    show stdF.sub _ _ = (if allP [x, y, z] = true then ofQ (crossQ x y z) else zeroR)
    rw [show allP [x, y, z] = true from ha, if_pos rfl, g2.eq]
    rfl
  · obtain ⟨ha, hx, hy, hz⟩ := key h
    obtain ⟨a1, a2⟩ := (Cal.of hy.x).sub (Cal.of hx.x) (by decide)
    obtain ⟨b1, b2⟩ := (Cal.of hy.y).sub (Cal.of hx.y) (by decide)
    obtain ⟨c1, c2⟩ := (Cal.of hz.x).sub (Cal.of hx.x) (by decide)
    obtain ⟨d1, d2⟩ := (Cal.of hz.y).sub (Cal.of hx.y) (by decide)
    obtain ⟨e1, e2⟩ := a2.mul c2 (by decide)
    obtain ⟨f1, f2⟩ := b2.mul d2 (by decide)
    obtain ⟨g1, g2⟩ := e2.add f2 (by decide)
    have hbad : dotBad stdA stdF x y z = false := by
      unfold dotBad vecBad
      rw [a1, b1, c1, d1, e1, f1, g1]; rfl
    rw [hbad, ha]
    refine ⟨?_, rfl⟩
    show stdF.add _ _ = (if allP [x, y, z] = true then ofQ (dotQ x y z) else zeroR)
    rw [show allP [x, y, z] = true from ha, if_pos rfl, g2.eq]
    rfl
theorem ok_pcross : CallOK Try.prog 49 (heapSem [.v, .v, .v] stdA (gCross stdH)) := by
  refine callOK_heap (un := ⟨false, some [3,4,5,6,7,8,9,10,16]⟩) tok tG4OK mixed (fn := Try.f49) (by kernel_rfl) (by kernel_rfl) (by kernel_rfl) (by decide +kernel) ?_
  intro w Wr args bs r hg ho hWr A L k hA hL hk
  obtain ⟨F, hF⟩ : ∃ F, F = stdF := ⟨_, rfl⟩
  obtain ⟨H, hH⟩ : ∃ H, H = stdH := ⟨_, rfl⟩
  obtain ⟨M, hM⟩ : ∃ M, M = stdM := ⟨_, rfl⟩
  obtain ⟨S, hS⟩ : ∃ S, S = stdW := ⟨_, rfl⟩
  obtain ⟨V, hV⟩ : ∃ V, V = stdV := ⟨_, rfl⟩
  obtain ⟨X, hX⟩ : ∃ X, X = stdX := ⟨_, rfl⟩
  (try rw [← hF])
  (try rw [← hH])
  (try rw [← hM])
  (try rw [← hS])
  (try rw [← hV])
  (try rw [← hX])
  (try rw [← hA])
  unfold gCross at hg
  split at hg
  rotate_left
  · cases hg
  simp only [Option.some.injEq] at hg
  subst hg
  rename_i x y z
  have cr := cr_f x y z A hA F hF H hH
  cbv
  repeat' first | (with_reducible intro hb; cbv) | with_reducible refine And.intro ?_ ?_
  · exact cr.al
  · have e := cr.no hb
    refine hk _ _ (Good.pure rfl fun ρ => ?_)
    subst hH
    exact tupRt e.1 e.2.2
  · have e := cr.cr hb
    refine hk _ _ (Good.pure rfl fun ρ => ?_)
    subst hH hF hA
    exact tupR e.1 e.2
theorem ok_pdot : CallOK Try.prog 55 (heapSem [.v, .v, .v] stdA (gDotP stdH)) := by
  refine callOK_heap (un := ⟨false, some [3,4,5,6,7,8,14]⟩) tok tG4OK mixed (fn := Try.f55) (by kernel_rfl) (by kernel_rfl) (by kernel_rfl) (by decide +kernel) ?_
  intro w Wr args bs r hg ho hWr A L k hA hL hk
  obtain ⟨F, hF⟩ : ∃ F, F = stdF := ⟨_, rfl⟩
  obtain ⟨H, hH⟩ : ∃ H, H = stdH := ⟨_, rfl⟩
  obtain ⟨M, hM⟩ : ∃ M, M = stdM := ⟨_, rfl⟩
  obtain ⟨S, hS⟩ : ∃ S, S = stdW := ⟨_, rfl⟩
  obtain ⟨V, hV⟩ : ∃ V, V = stdV := ⟨_, rfl⟩
  obtain ⟨X, hX⟩ : ∃ X, X = stdX := ⟨_, rfl⟩
  (try rw [← hF])
  (try rw [← hH])
  (try rw [← hM])
  (try rw [← hS])
  (try rw [← hV])
  (try rw [← hX])
  (try rw [← hA])
  unfold gDotP at hg
  split at hg
  rotate_left
  · cases hg
  simp only [Option.some.injEq] at hg
  subst hg
  rename_i x y z
  have cr := cr_f x y z A hA F hF H hH
  cbv
  repeat' first | (with_reducible intro hb; cbv) | with_reducible refine And.intro ?_ ?_
  · exact cr.al
  · have e := cr.no hb
    refine hk _ _ (Good.pure rfl fun ρ => ?_)
    subst hH
    exact tupRt e.2.1 e.2.2
  · have e := cr.dt hb
    refine hk _ _ (Good.pure rfl fun ρ => ?_)
    subst hH hF hA
    exact tupR e.1 e.2
def tG5 (A : Alg) (S : SW) (V : SV) (X : SX) (M : SM) (F : SF) (H : SH) : List (Nat × Sem') := (47, heapSem [.v, .v] A (gCmpP H)) :: (49, heapSem [.v, .v, .v] A (gCross H)) :: (55, heapSem [.v, .v, .v] A (gDotP H)) :: ((tG4 A S V X M F H))
theorem tG5OK : COK Try.prog (look (tG5 stdA stdW stdV stdX stdM stdF stdH)) := COK_cons ok_pcmp (COK_cons ok_pcross (COK_cons ok_pdot (tG4OK)))
def gTurn (H : SH) : List CV → List Blk → Option LR
  | [.g [.P x], .g [.P y], .g [.P z]], [] => some ⟨[], .t [.s (.int .i64 (H.turn x y z)), .s (.bool (H.all [x, y, z]))], []⟩
  | _, _ => none
structure TuF (A : Alg) (F : SF) (H : SH) (x y z : Pt) : Prop where
  no : A.not (H.all [x, y, z]) = true → 0 = H.turn x y z ∧ false = H.all [x, y, z]
  yes : A.not (H.all [x, y, z]) = false → F.sign (H.cross x y z) = H.turn x y z ∧ true = H.all [x, y, z]
theorem smQ_cross {x y z : Pt} (h : allP [x, y, z] = true) : SmQ 485 (crossQ x y z) ∧ SmQ 485 (dotQ x y z) := by
  obtain ⟨hx, hy, hz⟩ := allP_three h
  obtain ⟨a1, a2⟩ := (Cal.of hy.x).sub (Cal.of hx.x) (by decide)
  obtain ⟨b1, b2⟩ := (Cal.of hy.y).sub (Cal.of hx.y) (by decide)
  obtain ⟨c1, c2⟩ := (Cal.of hz.x).sub (Cal.of hx.x) (by decide)
  obtain ⟨d1, d2⟩ := (Cal.of hz.y).sub (Cal.of hx.y) (by decide)
  exact ⟨((a2.mul d2 (by decide)).2.sub (b2.mul c2 (by decide)).2 (by decide)).2.sm, ((a2.mul c2 (by decide)).2.add (b2.mul d2 (by decide)).2 (by decide)).2.sm⟩
theorem tu_f (x y z : Pt) (A : Alg) (hA : A = stdA) (F : SF) (hF : F = stdF) (H : SH) (hH : H = stdH) : TuF A F H x y z := by
  subst hA hF hH
  refine ⟨fun h => ?_, fun h => ?_⟩
  · have h : (!allP [x, y, z]) = true := h
    rw [Bool.not_eq_true'] at h
    refine ⟨?_, h.symm⟩
    show 0 = (if allP [x, y, z] = true then _ else _)
    rw [h]; rfl
  · have h : (!allP [x, y, z]) = false := h
    rw [Bool.not_eq_false'] at h
    refine ⟨?_, h.symm⟩
    show stdF.sign (if allP [x, y, z] = true then ofQ (crossQ x y z) else zeroR) = (if allP [x, y, z] = true then sgnQ (crossQ x y z) 0 else 0)
    rw [h]
    exact (Cal.q (smQ_cross h).1 (by decide)).sign
theorem ok_pturn : CallOK Try.prog 46 (heapSem [.v, .v, .v] stdA (gTurn stdH)) := by
  refine callOK_heap (un := ⟨false, some [3,4,5,6,7,8,9,18]⟩) tok tG5OK mixed (fn := Try.f46) (by kernel_rfl) (by kernel_rfl) (by kernel_rfl) (by decide +kernel) ?_
  intro w Wr args bs r hg ho hWr A L k hA hL hk
  obtain ⟨F, hF⟩ : ∃ F, F = stdF := ⟨_, rfl⟩
  obtain ⟨H, hH⟩ : ∃ H, H = stdH := ⟨_, rfl⟩
  obtain ⟨M, hM⟩ : ∃ M, M = stdM := ⟨_, rfl⟩
  obtain ⟨S, hS⟩ : ∃ S, S = stdW := ⟨_, rfl⟩
  obtain ⟨V, hV⟩ : ∃ V, V = stdV := ⟨_, rfl⟩
  obtain ⟨X, hX⟩ : ∃ X, X = stdX := ⟨_, rfl⟩
  (try rw [← hF])
  (try rw [← hH])
  (try rw [← hM])
  (try rw [← hS])
  (try rw [← hV])
  (try rw [← hX])
  (try rw [← hA])
  unfold gTurn at hg
  split at hg
  rotate_left
  · cases hg
  simp only [Option.some.injEq] at hg
  subst hg
  rename_i x y z
  have tu := tu_f x y z A hA F hF H hH
  cbv
  repeat' first | (with_reducible intro hb; cbv) | with_reducible refine And.intro ?_ ?_
  · have e := tu.no hb
    refine hk _ _ (Good.pure rfl fun ρ => ?_)
    subst hH
    exact tupLbt e.1 e.2
  · have e := tu.yes hb
    refine hk _ _ (Good.pure rfl fun ρ => ?_)
    subst hH hF
    exact tupIbt e.1 e.2
def gFar (H : SH) : List CV → List Blk → Option LR
  | [.g [.P x], .g [.P y]], [] => some ⟨[], .t [.g [.R (H.dot x y y)], .s (.bool (H.all [x, y, y]))], []⟩
  | _, _ => none
theorem ok_pfar : CallOK Try.prog 48 (heapSem [.v, .v] stdA (gFar stdH)) := by
  refine callOK_heap (un := ⟨false, some [2,3,4,5]⟩) tok tG5OK mixed (fn := Try.f48) (by kernel_rfl) (by kernel_rfl) (by kernel_rfl) (by decide +kernel) ?_
  intro w Wr args bs r hg ho hWr A L k hA hL hk
  obtain ⟨F, hF⟩ : ∃ F, F = stdF := ⟨_, rfl⟩
  obtain ⟨H, hH⟩ : ∃ H, H = stdH := ⟨_, rfl⟩
  obtain ⟨M, hM⟩ : ∃ M, M = stdM := ⟨_, rfl⟩
  obtain ⟨S, hS⟩ : ∃ S, S = stdW := ⟨_, rfl⟩
  obtain ⟨V, hV⟩ : ∃ V, V = stdV := ⟨_, rfl⟩
  obtain ⟨X, hX⟩ : ∃ X, X = stdX := ⟨_, rfl⟩
  (try rw [← hF])
  (try rw [← hH])
  (try rw [← hM])
  (try rw [← hS])
  (try rw [← hV])
  (try rw [← hX])
  (try rw [← hA])
  unfold gFar at hg
  split at hg
  rotate_left
  · cases hg
  simp only [Option.some.injEq] at hg
  subst hg
  rename_i x y
  cbv
  repeat' first | (with_reducible intro hb; cbv) | with_reducible refine And.intro ?_ ?_
  refine hk _ _ (Good.pure rfl fun ρ => ?_)
  subst hH
  exact tupR rfl rfl
def tG6 (A : Alg) (S : SW) (V : SV) (X : SX) (M : SM) (F : SF) (H : SH) : List (Nat × Sem') := (46, heapSem [.v, .v, .v] A (gTurn H)) :: (48, heapSem [.v, .v] A (gFar H)) :: ((tG5 A S V X M F H))
theorem tG6OK : COK Try.prog (look (tG6 stdA stdW stdV stdX stdM stdF stdH)) := COK_cons ok_pturn (COK_cons ok_pfar (tG5OK))
end Go.Eng
namespace Go.Eng
open Go.Proofs
set_option maxRecDepth 100000
set_option linter.all false
set_option exponentiation.threshold 3000
set_option maxHeartbeats 2000000
def tG7 (A : Alg) (S : SW) (V : SV) (X : SX) (M : SM) (F : SF) (H : SH) : List (Nat × Sem') := ((tG6 A S V X M F H))
theorem tG7OK : COK Try.prog (look (tG7 stdA stdW stdV stdX stdM stdF stdH)) := tG6OK
end Go.Eng

