/- Contracts: whole numbers, the long division. -/
import Derived.Test.YtmajpppjakdodaaCN7
namespace Go.Eng
open Go.Proofs
set_option maxRecDepth 100000
set_option linter.all false
set_option exponentiation.threshold 3000
set_option maxHeartbeats 4000000

def gDivide (V : SV) : List CV → List Blk → Option LR
  | [.s (.hp 0 0), .s (.hp 1 0)], [.fix false [.D d], .fix false [.D e]] => some ⟨[V.two e, V.leD e d], .t [.s (.hp 2 0), .s (.hp 3 0)], [.fix true [.D (V.divQ d e)], .fix true [.D (V.divR d e)]]⟩
  | _, _ => none

theorem ok_divide : CallOK Try.prog 62 (heapSem [.pd, .pd] stdA (gDivide stdV)) := by
  refine callOK_heap (un := ⟨false, none⟩) tok tN11OK mixed (fn := Try.f62) (by kernel_rfl) (by kernel_rfl) (by kernel_rfl) (by decide +kernel) ?_
  intro w Wr args bs r hg ho hWr A L k hA hL hk
  obtain ⟨S, hS⟩ : ∃ S, S = stdW := ⟨_, rfl⟩
  obtain ⟨V, hV⟩ : ∃ V, V = stdV := ⟨_, rfl⟩
  (try rw [← hS])
  (try rw [← hV])
  (try rw [← hA])
  unfold gDivide at hg
  split at hg
  rotate_left
  · cases hg
  simp only [Option.some.injEq] at hg
  subst hg
  rename_i d e
  have h2 : 2 ^ 32 ≤ e.n := of_decide_eq_true (ho_cons ho).1
  have hle : e.n ≤ d.n := of_decide_eq_true (ho_cons (ho_cons ho).2).1
  clear ho
  have init := div_init d e h2 hle A hA V hV (S.size d) (S.size e) _ (by subst hS; rfl) (by subst hS; rfl) rfl
  have initS := div_init d e h2 hle stdA rfl stdV rfl (stdW.size d) (stdW.size e) _ rfl rfl rfl
  obtain ⟨Vl, hVl⟩ : ∃ l, l = stdV.shl (stdA.digs e 0 (stdW.size e)) (stdV.lz (stdA.dig e (stdA.bin .sub .i64 (stdW.size e) 1))) := ⟨_, rfl⟩
  obtain ⟨s, hs⟩ : ∃ s, s = stdV.lz (stdA.dig e (stdA.bin .sub .i64 (stdW.size e) 1)) := ⟨_, rfl⟩
  have hok := initS.ok
  have hin := initS.inv
  have s0 := initS.s0
  have s1 := initS.s1
  clear initS
  rw [← hVl, ← hs] at hok hin
  rw [← hs] at s0 s1
  cbv
  repeat' first | (with_reducible intro hb; cbv) | with_reducible refine And.intro ?_ ?_
  all_goals first | exact init.o1 | exact init.o2 | exact init.o3 | exact init.o4 | exact init.o5 | exact init.o6 | exact init.o7 | exact init.o8 | exact init.o9 | exact init.o10 | exact init.o11 | exact init.o12 | exact init.o13 | exact init.o14 | exact init.o15 | exact init.o16 | skip
  clear init
  refine hL _ _ _ (loop_rule (un := ⟨false, some [13, 9, 10, 7, 8, 11, 12, 14, 45, 69]⟩) tok tN11OK mixed (fun p : Int × List Int × Dg => ⟨[(13, ⟨[], .c (.s (.int .i64 p.1))⟩), (9, ⟨[], .c (.s (.hs 2))⟩), (10, ⟨[], .c (.s (.hw 3 1 0 (stdW.size e)))⟩), (7, ⟨[], .c (.s (.int .i64 (stdW.size e)))⟩), (8, ⟨[], .c (.s (.int .i64 s))⟩), (11, ⟨[], .c (.s (.hp 4 0))⟩), (12, ⟨[], .c (.s (.hp 5 0))⟩)], [(2, .vec true (.int .u32) p.2.1), (3, .vec true (.int .u32) Vl), (4, .fix true [.D p.2.2]), (5, .fix true [.D Dg.zero])], 6⟩)
    (fun p => DvI Vl (dSize d) (dSize e) (2 ^ s.toNat * e.n) (2 ^ s.toNat * d.n) p.1 p.2.1 p.2.2) (fun p => (p.1 + 1).toNat) (_, _, _) hin ?_ (fun _ i hi => by have := hWr i hi; simp at this ⊢; omega) ?_)
  · subst hA hV hS hs
    exact ⟨⟨⟨rfl, rfl, fun _ => rfl⟩, ⟨rfl, rfl, fun _ => rfl⟩, ⟨rfl, rfl, fun _ => rfl⟩, ⟨rfl, rfl, fun _ => rfl⟩, ⟨rfl, rfl, fun _ => rfl⟩, ⟨rfl, rfl, fun _ => rfl⟩, ⟨rfl, rfl, fun _ => rfl⟩, trivial⟩, ⟨leRefl rfl, leV hVl.symm, leRefl rfl, leRefl rfl, trivial⟩, rfl, rfl⟩
  clear hin hVl
  rintro ⟨i, M, q⟩ hI A2 L2 k2 hA2 hL2 hnext hexit hret
  have st := fun hb : A2.cmp .geq i 0 = true => div_step hok hI A2 hA2 V hV (S.size e) (by subst hS; rfl) hb _ _ _ _ _ rfl rfl rfl rfl rfl
  have fi := fun hb : ¬ 0 ≤ i => div_fin hok hI hb
  have hmn := hok.mn
  have hn32 := hok.n32
  have hlM := hI.lm
  have hWM := hI.wm
  clear hok hI
  rw [← hA2, ← hS, ← hV]
  cbv
  repeat' first | (with_reducible intro hb; cbv) | with_reducible refine And.intro ?_ ?_
  all_goals first | replace st := st hb | (rename_i hb0; replace st := st hb0) | skip
  all_goals first | exact st.a1 | exact st.a2 | exact st.a3 | exact st.a4 | exact st.a5 | exact st.a6 | exact st.a7 | exact st.a8 | exact st.a9 | exact st.a10 | exact st.a11 | exact st.a12 | exact st.a13 | exact st.b1 | exact st.b2 | exact st.b3 | exact st.b4 | exact st.b5 | exact st.b6 | exact st.b7 | exact st.b8 | exact st.b9 | exact st.b10 | exact st.c3 | exact st.c6 | exact st.c8 | exact st.d1 | exact st.e1 | exact st.e2 | exact st.e3 | exact st.e4 | skip
  · refine hnext _ (i - 1, _, _) (st.n2 hb) st.ms ?_
    replace st := st.ad
    subst hS
    exact ⟨⟨⟨rfl, rfl, leI st⟩, ⟨rfl, rfl, fun _ => rfl⟩, ⟨rfl, rfl, fun _ => rfl⟩, ⟨rfl, rfl, fun _ => rfl⟩, ⟨rfl, rfl, fun _ => rfl⟩, ⟨rfl, rfl, fun _ => rfl⟩, ⟨rfl, rfl, fun _ => rfl⟩, trivial⟩, ⟨leV rfl, leRefl rfl, leD rfl, leRefl rfl, trivial⟩, rfl, rfl⟩
  · refine hnext _ (i - 1, _, _) (st.n1 hb) st.ms ?_
    replace st := st.ad
    subst hS
    exact ⟨⟨⟨rfl, rfl, leI st⟩, ⟨rfl, rfl, fun _ => rfl⟩, ⟨rfl, rfl, fun _ => rfl⟩, ⟨rfl, rfl, fun _ => rfl⟩, ⟨rfl, rfl, fun _ => rfl⟩, ⟨rfl, rfl, fun _ => rfl⟩, ⟨rfl, rfl, fun _ => rfl⟩, trivial⟩, ⟨leV rfl, leRefl rfl, leD rfl, leRefl rfl, trivial⟩, rfl, rfl⟩
  · apply hexit
    have hi : ¬ 0 ≤ i := by subst hA2; exact of_decide_eq_false hb
    obtain ⟨f1, f2, f3⟩ := fi hi
    clear hexit hnext hret st fi hb
    have r0 : RmI M (dSize e) s 0 Dg.zero := ⟨Int.le_refl 0, Int.natCast_nonneg _, by simp [Dg.zero, Nat.mod_one]⟩
    cbv
    repeat' first | (with_reducible intro hb; cbv) | with_reducible refine And.intro ?_ ?_
    refine hL _ _ _ (loop_rule (un := ⟨false, some [86, 85, 9, 8, 11, 12, 15, 87]⟩) tok tN11OK mixed (fun p : Int × Dg => ⟨[(86, ⟨[], .c (.s (.int .i64 p.1))⟩), (85, ⟨[], .c (.s (.int .i64 (stdW.size e)))⟩), (9, ⟨[], .c (.s (.hs 2))⟩), (8, ⟨[], .c (.s (.int .i64 s))⟩), (11, ⟨[], .c (.s (.hp 4 0))⟩), (12, ⟨[], .c (.s (.hp 5 0))⟩)], [(2, .vec true (.int .u32) M), (4, .fix true [.D q]), (5, .fix true [.D p.2])], 6⟩)
      (fun p => RmI M (dSize e) s p.1 p.2) (fun p => ((dSize e : Int) - p.1).toNat) (0, Dg.zero) r0 ?_ (fun _ i hi => by have := hWr i hi; simp at this ⊢; omega) ?_)
    · subst hS
      exact ⟨⟨⟨rfl, rfl, fun _ => rfl⟩, ⟨rfl, rfl, fun _ => rfl⟩, ⟨rfl, rfl, fun _ => rfl⟩, ⟨rfl, rfl, fun _ => rfl⟩, ⟨rfl, rfl, fun _ => rfl⟩, ⟨rfl, rfl, fun _ => rfl⟩, trivial⟩, ⟨leRefl rfl, leRefl rfl, leRefl rfl, trivial⟩, rfl, rfl⟩
    clear r0
    rintro ⟨j, r⟩ hI A3 L3 k3 hA3 hL3 hnext hexit hret
    have st := fun hb : A3.cmp .lss j (S.size e) = true => rm_step hlM hmn hn32 hWM s0 s1 hI A3 hA3 (S.size e) (by subst hS; rfl) hb
    have en := fun hb : A3.cmp .lss j (S.size e) = false => rm_end hI A3 hA3 (S.size e) (by subst hS; rfl) hb f2 f3
    rw [← hA3, ← hS, ← hV]
    cbv
    repeat' first | (with_reducible intro hb; cbv) | with_reducible refine And.intro ?_ ?_
    all_goals first | replace st := st hb | skip
    all_goals first | exact st.o1 | exact st.o2 | exact st.o3 | exact st.o4 | exact st.o5 | exact st.o6 | exact st.o7 | exact st.o8 | skip
    · refine hnext _ (j + 1, _) st.nx st.ms ?_
      replace st := st.ad
      subst hS
      exact ⟨⟨⟨rfl, rfl, leI st⟩, ⟨rfl, rfl, fun _ => rfl⟩, ⟨rfl, rfl, fun _ => rfl⟩, ⟨rfl, rfl, fun _ => rfl⟩, ⟨rfl, rfl, fun _ => rfl⟩, ⟨rfl, rfl, fun _ => rfl⟩, trivial⟩, ⟨leRefl rfl, leRefl rfl, leD rfl, trivial⟩, rfl, rfl⟩
    · apply hexit
      have hr := en hb
      clear hexit hnext hret st en
      cbv
      repeat' first | (with_reducible intro hb; cbv) | with_reducible refine And.intro ?_ ?_
      refine hk _ _ (Good.two (t := 4) (u := 5) rfl (by simp) (by simp) (by simp) (fun ρ => ?_) rfl (leD ?_) rfl (leD ?_))
      · exact tupPP rfl rfl
      · subst hV; exact Dg.ext' f1
      · subst hV; exact Dg.ext' hr

def tN12 (A : Alg) (S : SW) (V : SV) : List (Nat × Sem') := (62, heapSem [.pd, .pd] A (gDivide V)) :: ((tN11 A S V))
theorem tN12OK : COK Try.prog (look (tN12 stdA stdW stdV)) := COK_cons ok_divide (tN11OK)
end Go.Eng
