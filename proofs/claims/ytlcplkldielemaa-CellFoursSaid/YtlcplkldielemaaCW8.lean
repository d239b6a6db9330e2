/- Contracts: the reference's points. -/
import Derived.Test.YtlcplkldielemaaCW7
namespace Go.Eng
open Go.Proofs
set_option maxRecDepth 100000
set_option linter.all false
set_option exponentiation.threshold 3000

def tC10 (A : Alg) (S : SW) (R : SR) (X : SX) : List (Nat × Sem') := (38, heapSem [.v, .s (.int .u32)] A (gWide A X)) :: ((tC9 A S R X))
theorem tC10OK : COK Try.prog (look (tC10 stdA stdW stdR stdX)) := COK_cons ok_wide (tC9OK)

theorem two_ok (t : Int) (h0 : 0 ≤ t) (h1 : t < 18446744073709551616) : rng [IntKind.u32.wrap t, IntKind.u32.wrap (stdBin .shr .u64 t 32)] = true ∧
    ∀ b, stdX.wV b [IntKind.u32.wrap t, IntKind.u32.wrap (stdBin .shr .u64 t 32)] = tld b (mk1024 t.toNat) := by
  rw [u64_high t h0, IntKind.wrap_u32, IntKind.wrap_u32]
  refine ⟨?_, fun b => ?_⟩
  · simp only [rng, List.all_cons, List.all_nil, Bool.and_true, Bool.and_eq_true, decide_eq_true_eq]; omega
  · show (if tlen _ ≤ 32 then tld b (mk1024 (magN _)) else _) = _
    rw [if_pos (Nat.le_trans (tlen_le _) (by simp))]
    congr 2
    simp only [magN]; omega

theorem ok_rfrom : CallOK Try.prog 30 (heapSem [.v] stdA (gFrom stdA stdW)) := by
  refine callOK_heap (un := ⟨false, none⟩) tok tC10OK mixed (fn := Try.f30) (by kernel_rfl) (by kernel_rfl) (by kernel_rfl) (by decide +kernel) ?_
  intro w Wr args bs r hg ho hWr A L k hA hL hk
  obtain ⟨R, hR⟩ : ∃ R, R = stdR := ⟨_, rfl⟩
  obtain ⟨S, hS⟩ : ∃ S, S = stdW := ⟨_, rfl⟩
  obtain ⟨X, hX⟩ : ∃ X, X = stdX := ⟨_, rfl⟩
  (try rw [← hR])
  (try rw [← hS])
  (try rw [← hX])
  (try rw [← hA])
  unfold gFrom at hg
  split at hg
  rotate_left
  · cases hg
  simp only [Option.some.injEq] at hg
  subst hg
  rename_i x
  have o1 := ho _ (List.mem_cons_self ..)
  have o2 := ho _ (List.mem_cons_of_mem _ (List.mem_cons_self ..))
  simp only [stdA, stdCmp, decide_eq_true_eq] at o1 o2
  cbv
  repeat' first | (with_reducible intro hb; cbv) | with_reducible refine And.intro ?_ ?_
  all_goals subst hS hX hA
  all_goals have hb : decide (x < 0) = _ := hb
  all_goals simp only [decide_eq_true_eq, decide_eq_false_iff_not] at hb
  all_goals have hn : x < 0 → stdBin .sub .u64 0 (IntKind.u64.wrap x) = -x := fun h => by simp only [stdBin, w_u64]; omega
  all_goals have hp : 0 ≤ x → IntKind.u64.wrap x = x := fun h => by rw [w_u64]; omega
  · simp [stdA, stdCmp]
  · show rng [IntKind.u32.wrap (stdBin .sub .u64 0 (IntKind.u64.wrap x)), IntKind.u32.wrap (stdBin .shr .u64 (stdBin .sub .u64 0 (IntKind.u64.wrap x)) 32)] = true
    rw [hn hb]; exact (two_ok (-x) (by omega) (by omega)).1
  · refine hk _ _ (Good.pure rfl fun ρ => ?_)
    show Value.agg (flats ρ [.W (stdX.wV (decide (x < 0)) [IntKind.u32.wrap (stdBin .sub .u64 0 (IntKind.u64.wrap x)), IntKind.u32.wrap (stdBin .shr .u64 (stdBin .sub .u64 0 (IntKind.u64.wrap x)) 32)])]).toArray = .agg (flats ρ [.W (tld (decide (x < 0)) (mk1024 x.natAbs))]).toArray
    have e := (two_ok (-x) (by omega) (by omega)).2 (decide (x < 0))
    rw [show (-x).toNat = x.natAbs from by omega] at e
    rw [hn hb, e]
  · simp [stdA, stdCmp]
  · show rng [IntKind.u32.wrap (IntKind.u64.wrap x), IntKind.u32.wrap (stdBin .shr .u64 (IntKind.u64.wrap x) 32)] = true
    rw [hp (by omega)]; exact (two_ok x (by omega) (by omega)).1
  · refine hk _ _ (Good.pure rfl fun ρ => ?_)
    show Value.agg (flats ρ [.W (stdX.wV (decide (x < 0)) [IntKind.u32.wrap (IntKind.u64.wrap x), IntKind.u32.wrap (stdBin .shr .u64 (IntKind.u64.wrap x) 32)])]).toArray = .agg (flats ρ [.W (tld (decide (x < 0)) (mk1024 x.natAbs))]).toArray
    have e := (two_ok x (by omega) (by omega)).2 (decide (x < 0))
    rw [show x.toNat = x.natAbs from by omega] at e
    rw [hp (by omega), e]

def tC11 (A : Alg) (S : SW) (R : SR) (X : SX) : List (Nat × Sem') := (30, heapSem [.v] A (gFrom A S)) :: ((tC10 A S R X))
theorem tC11OK : COK Try.prog (look (tC11 stdA stdW stdR stdX)) := COK_cons ok_rfrom (tC10OK)

def gWhole (A : Alg) (S : SW) : List CV → List Blk → Option LR
  | [.s (.int .i64 n)], [] => some ⟨[A.cmp .leq (-9223372036854775808) n, A.cmp .lss n 9223372036854775808], .c (.g [.R ⟨S.from64 n, S.from64 1⟩]), []⟩
  | _, _ => none

theorem ok_whole : CallOK Try.prog 27 (heapSem [.v] stdA (gWhole stdA stdW)) := by
  refine callOK_heap (un := ⟨false, none⟩) tok tC11OK mixed (fn := Try.f27) (by kernel_rfl) (by kernel_rfl) (by kernel_rfl) (by decide +kernel) ?_
  intro w Wr args bs r hg ho hWr A L k hA hL hk
  obtain ⟨R, hR⟩ : ∃ R, R = stdR := ⟨_, rfl⟩
  obtain ⟨S, hS⟩ : ∃ S, S = stdW := ⟨_, rfl⟩
  obtain ⟨X, hX⟩ : ∃ X, X = stdX := ⟨_, rfl⟩
  (try rw [← hR])
  (try rw [← hS])
  (try rw [← hX])
  (try rw [← hA])
  unfold gWhole at hg
  split at hg
  rotate_left
  · cases hg
  simp only [Option.some.injEq] at hg
  subst hg
  have o1 := ho _ (List.mem_cons_self ..)
  have o2 := ho _ (List.mem_cons_of_mem _ (List.mem_cons_self ..))
  cbv
  repeat' first | (with_reducible intro hb; cbv) | with_reducible refine And.intro ?_ ?_
  · subst hA; exact o1
  · subst hA; exact o2
  · subst hA; rfl
  · subst hA; rfl
  exact hk _ _ (Good.pure rfl fun ρ => by subst hS; rfl)

def tC12 (A : Alg) (S : SW) (R : SR) (X : SX) : List (Nat × Sem') := (27, heapSem [.v] A (gWhole A S)) :: ((tC11 A S R X))
theorem tC12OK : COK Try.prog (look (tC12 stdA stdW stdR stdX)) := COK_cons ok_whole (tC11OK)

theorem ok_rat : CallOK Try.prog 24 (heapSem [.v, .v] stdA (gAt stdA stdR)) := by
  refine callOK_heap (un := ⟨false, none⟩) tok tC12OK mixed (fn := Try.f24) (by kernel_rfl) (by kernel_rfl) (by kernel_rfl) (by decide +kernel) ?_
  intro w Wr args bs r hg ho hWr A L k hA hL hk
  obtain ⟨R, hR⟩ : ∃ R, R = stdR := ⟨_, rfl⟩
  obtain ⟨S, hS⟩ : ∃ S, S = stdW := ⟨_, rfl⟩
  obtain ⟨X, hX⟩ : ∃ X, X = stdX := ⟨_, rfl⟩
  (try rw [← hR])
  (try rw [← hS])
  (try rw [← hX])
  (try rw [← hA])
  unfold gAt at hg
  split at hg
  rotate_left
  · cases hg
  simp only [Option.some.injEq] at hg
  subst hg
  have o1 := ho _ (List.mem_cons_self ..)
  have o2 := ho _ (List.mem_cons_of_mem _ (List.mem_cons_self ..))
  have o3 := ho _ (List.mem_cons_of_mem _ (List.mem_cons_of_mem _ (List.mem_cons_self ..)))
  have o4 := ho _ (List.mem_cons_of_mem _ (List.mem_cons_of_mem _ (List.mem_cons_of_mem _ (List.mem_cons_self ..))))
  cbv
  repeat' first | (with_reducible intro hb; cbv) | with_reducible refine And.intro ?_ ?_
  · subst hA; exact o1
  · subst hA; exact o2
  · subst hA; exact o3
  · subst hA; exact o4
  exact hk _ _ (Good.pure rfl fun ρ => by subst hS hR; rfl)

def tC13 (A : Alg) (S : SW) (R : SR) (X : SX) : List (Nat × Sem') := (24, heapSem [.v, .v] A (gAt A R)) :: ((tC12 A S R X))
theorem tC13OK : COK Try.prog (look (tC13 stdA stdW stdR stdX)) := COK_cons ok_rat (tC12OK)

def gCorners (A : Alg) (R : SR) : List CV → List Blk → Option LR
  | [.g [.s (.int .i64 x), .s (.int .i64 y), .s (.int .i64 s)]], [] => some ⟨[A.cmp .leq 0 x, A.cmp .leq x 64, A.cmp .leq 0 y, A.cmp .leq y 64, A.cmp .leq 0 s, A.cmp .leq s 64],
      .c (.g [.P (R.at64 x y), .P (R.at64 (A.bin .add .i64 x s) y), .P (R.at64 (A.bin .add .i64 x s) (A.bin .add .i64 y s)), .P (R.at64 x (A.bin .add .i64 y s))]), []⟩
  | _, _ => none

theorem ok_rcorners : CallOK Try.prog 17 (heapSem [.v] stdA (gCorners stdA stdR)) := by
  refine callOK_heap (un := ⟨false, none⟩) tok tC13OK mixed (fn := Try.f17) (by kernel_rfl) (by kernel_rfl) (by kernel_rfl) (by decide +kernel) ?_
  intro w Wr args bs r hg ho hWr A L k hA hL hk
  obtain ⟨R, hR⟩ : ∃ R, R = stdR := ⟨_, rfl⟩
  obtain ⟨S, hS⟩ : ∃ S, S = stdW := ⟨_, rfl⟩
  obtain ⟨X, hX⟩ : ∃ X, X = stdX := ⟨_, rfl⟩
  (try rw [← hR])
  (try rw [← hS])
  (try rw [← hX])
  (try rw [← hA])
  unfold gCorners at hg
  split at hg
  rotate_left
  · cases hg
  simp only [Option.some.injEq] at hg
  subst hg
  rename_i x y s
  have o1 := ho _ (List.mem_cons_self ..)
  have o2 := ho _ (List.mem_cons_of_mem _ (List.mem_cons_self ..))
  have o3 := ho _ (List.mem_cons_of_mem _ (List.mem_cons_of_mem _ (List.mem_cons_self ..)))
  have o4 := ho _ (List.mem_cons_of_mem _ (List.mem_cons_of_mem _ (List.mem_cons_of_mem _ (List.mem_cons_self ..))))
  have o5 := ho _ (List.mem_cons_of_mem _ (List.mem_cons_of_mem _ (List.mem_cons_of_mem _ (List.mem_cons_of_mem _ (List.mem_cons_self ..)))))
  have o6 := ho _ (List.mem_cons_of_mem _ (List.mem_cons_of_mem _ (List.mem_cons_of_mem _ (List.mem_cons_of_mem _ (List.mem_cons_of_mem _ (List.mem_cons_self ..))))))
  clear ho
  cbv
  repeat' first | (with_reducible intro hb; cbv) | with_reducible refine And.intro ?_ ?_
  all_goals try ((try clear hk); (try clear hL); (try clear hexit hnext hret); (try clear hexit2 hnext2 hret2); (try clear hL2); (try clear hL3); (try clear hexit3 hnext3 hret3); (try subst hA3); (try subst hA2); (try subst hA); (try simp only [toZn] at *); (try simp only [zn] at *); (try simp only [stdA, stdCmp, stdBin, Bool.if_false_right, Bool.if_true_left, Bool.decide_eq_true, Bool.and_eq_false_iff, Bool.or_eq_false_iff, IntKind.wrap_i64, IntKind.wrap_u32, IntKind.wrap_u8, w_u64, Int.zero_add, Int.sub_zero, ofNat_cast, beq_true, Bool.or_eq_true, Bool.and_eq_true, Bool.not_eq_true', decide_eq_true_eq, decide_eq_false_iff_not, beq_iff_eq, bne_iff_ne, beq_eq_false_iff_ne, ne_eq, if_true, if_false] at *); omega)
  exact hk _ _ (Good.pure rfl fun ρ => by subst hR hA; rfl)

end Go.Eng
