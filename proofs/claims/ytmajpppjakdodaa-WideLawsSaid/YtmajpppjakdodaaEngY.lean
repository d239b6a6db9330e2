/- The engine, part Y: results told; small tools of walks. -/
import Derived.Test.YtmajpppjakdodaaEngV
set_option linter.all false
set_option exponentiation.threshold 3000
namespace Go.Eng

section
variable {ρ : Rho} {f : Nat → Nat}

theorem ret1 {k : IntKind} {a c : Int} (h : a = c) : (XV.c (.s (.int k a))).den ρ = ((XV.c (.s (.int k c))).ren f).den ρ := by subst h; rfl
theorem retL {k : IntKind} {a c : Int} (h : a = c) : (XV.c (.s (.lit k a))).den ρ = ((XV.c (.s (.int k c))).ren f).den ρ := by subst h; rfl
theorem retB {a c : Bool} (h : a = c) : (XV.c (.s (.bool a))).den ρ = ((XV.c (.s (.bool c))).ren f).den ρ := by subst h; rfl
theorem retT {a c : Bool} (h : a = c) : (XV.c (.s (.tt a))).den ρ = ((XV.c (.s (.bool c))).ren f).den ρ := by subst h; rfl
theorem retS {a c : ByteArray} (h : a = c) : (XV.c (.s (.str a))).den ρ = ((XV.c (.s (.str c))).ren f).den ρ := by subst h; rfl
theorem retW {a c : Wd} (h : a = c) : (XV.c (.g [.W a])).den ρ = ((XV.c (.g [.W c])).ren f).den ρ := by subst h; rfl
theorem retR {a c : Rt} (h : a = c) : (XV.c (.g [.R a])).den ρ = ((XV.c (.g [.R c])).ren f).den ρ := by subst h; rfl
theorem retP {a c : Pt} (h : a = c) : (XV.c (.g [.P a])).den ρ = ((XV.c (.g [.P c])).ren f).den ρ := by subst h; rfl
theorem tupI2 {k l : IntKind} {a b c d : Int} (h1 : a = c) (h2 : b = d) : (XV.t [.s (.int k a), .s (.int l b)]).den ρ = ((XV.t [.s (.int k c), .s (.int l d)]).ren f).den ρ := by subst h1 h2; rfl
theorem tupW {a c : Wd} {b d : Bool} (h1 : a = c) (h2 : b = d) : (XV.t [.g [.W a], .s (.bool b)]).den ρ = ((XV.t [.g [.W c], .s (.bool d)]).ren f).den ρ := by subst h1 h2; rfl
theorem tupWt {a c : Wd} {b d : Bool} (h1 : a = c) (h2 : b = d) : (XV.t [.g [.W a], .s (.tt b)]).den ρ = ((XV.t [.g [.W c], .s (.bool d)]).ren f).den ρ := by subst h1 h2; rfl
theorem tupWWt {a b c d : Wd} {x y : Bool} (h1 : a = c) (h2 : b = d) (h3 : x = y) : (XV.t [.g [.W a], .g [.W b], .s (.tt x)]).den ρ = ((XV.t [.g [.W c], .g [.W d], .s (.bool y)]).ren f).den ρ := by subst h1 h2 h3; rfl
theorem tupPB {a c k : Nat} {x y : Bool} (h : x = y) (hf : f c = a) : (XV.t [.s (.hp a k), .s (.bool x)]).den ρ = ((XV.t [.s (.hp c k), .s (.bool y)]).ren f).den ρ := by subst h hf; rfl
theorem retP' {a c k : Nat} (hf : f c = a) : (XV.c (.s (.hp a k))).den ρ = ((XV.c (.s (.hp c k))).ren f).den ρ := by subst hf; rfl
theorem tupPI {a c k : Nat} {kk : IntKind} {x y : Int} (h : x = y) (hf : f c = a) : (XV.t [.s (.hp a k), .s (.int kk x)]).den ρ = ((XV.t [.s (.hp c k), .s (.int kk y)]).ren f).den ρ := by subst h hf; rfl
theorem tupPP {a b c d k l : Nat} (hf : f c = a) (hg : f d = b) : (XV.t [.s (.hp a k), .s (.hp b l)]).den ρ = ((XV.t [.s (.hp c k), .s (.hp d l)]).ren f).den ρ := by subst hf hg; rfl
theorem tupR {a c : Rt} {b d : Bool} (h1 : a = c) (h2 : b = d) : (XV.t [.g [.R a], .s (.bool b)]).den ρ = ((XV.t [.g [.R c], .s (.bool d)]).ren f).den ρ := by subst h1 h2; rfl
theorem tupRt {a c : Rt} {b d : Bool} (h1 : a = c) (h2 : b = d) : (XV.t [.g [.R a], .s (.tt b)]).den ρ = ((XV.t [.g [.R c], .s (.bool d)]).ren f).den ρ := by subst h1 h2; rfl
theorem tupIb {k : IntKind} {a c : Int} {b d : Bool} (h1 : a = c) (h2 : b = d) : (XV.t [.s (.int k a), .s (.bool b)]).den ρ = ((XV.t [.s (.int k c), .s (.bool d)]).ren f).den ρ := by subst h1 h2; rfl
theorem tupIbt {k : IntKind} {a c : Int} {b d : Bool} (h1 : a = c) (h2 : b = d) : (XV.t [.s (.int k a), .s (.tt b)]).den ρ = ((XV.t [.s (.int k c), .s (.bool d)]).ren f).den ρ := by subst h1 h2; rfl
theorem tupLbt {k : IntKind} {a c : Int} {b d : Bool} (h1 : a = c) (h2 : b = d) : (XV.t [.s (.lit k a), .s (.tt b)]).den ρ = ((XV.t [.s (.int k c), .s (.bool d)]).ren f).den ρ := by subst h1 h2; rfl
end

/-! one slot, one block of a head -/
theorem leD {o : Bool} {a b : Dg} (h : a = b) : BlkLe (.fix o [.D a]) (.fix o [.D b]) := ⟨rfl, rfl, fun _ => by rw [h]⟩
theorem leW {o : Bool} {a b : Wd} (h : a = b) : BlkLe (.fix o [.W a]) (.fix o [.W b]) := ⟨rfl, rfl, fun _ => by rw [h]⟩
theorem leE {o : Bool} {a b c d : Dg} (h : a = c) (h' : b = d) : BlkLe (.fix o [.D a, .D b]) (.fix o [.D c, .D d]) := ⟨rfl, rfl, fun _ => by rw [h, h']⟩
theorem leV {o : Bool} {k : RK} {a b : List k.ty} (h : a = b) : BlkLe (.vec o k a) (.vec o k b) := by subst h; exact ⟨rfl, rfl, rfl, rfl, fun h => h⟩
theorem leRefl {b : Blk} (h : b.live = true) : BlkLe b b := by
  cases b with
  | fix o l => exact ⟨rfl, rfl, fun _ => rfl⟩
  | vec o k l => exact ⟨rfl, rfl, rfl, rfl, fun h => h⟩
  | gone => cases h
theorem leI {k : IntKind} {a b : Int} (h : a = b) : ∀ ρ, (XV.c (.s (.int k a))).den ρ = (XV.c (.s (.int k b))).den ρ := fun _ => by rw [h]
theorem leLI {k : IntKind} {a b : Int} (h : a = b) : ∀ ρ, (XV.c (.s (.lit k a))).den ρ = (XV.c (.s (.int k b))).den ρ := fun _ => by rw [h]; rfl


theorem Good.one {q t : Nat} {b b' : Blk} {r : LR} {v : XV} {h : Heap} (hn : r.new = [b]) (ht : q ≤ t) (hv : ∀ ρ, v.den ρ = (r.val.ren (lf q [t])).den ρ) (hl : look h t = some b') (hb : BlkLe b' b) : Good q r v h :=
  ⟨[t], by simp [hn], by simp, by simpa using ht, hv, fun i u c hu hc => by
    cases i with
    | zero => rw [hn] at hc; simp at hu hc; subst hu hc; exact ⟨b', hl, hb⟩
    | succ i => simp at hu⟩

theorem leHP {f : List (Nat × Sc)} {i j : Nat} (h : look f i = some (.hp j 0)) : ∀ ρ, (XV.c (.s (.hp j 0))).den ρ = (XV.c (.s (.hp i 0))).den (mapH f ρ) := fun ρ => by
  show addOff (ρ j) 0 = addOff (mapH f ρ i) 0
  unfold mapH
  rw [h]
  show addOff (ρ j) 0 = addOff (addOff (ρ j) 0) 0
  rw [addOff_zero, addOff_zero]

theorem GoodW.one {bs : List Blk} {t : Nat} {b b' : Blk} {r : LW} {v : XV} {h : Heap} (hn : r.new = []) (hv : ∀ ρ, v.den ρ = (r.val.ren (lf bs.length [])).den ρ) (ho : ownIdx bs 0 = [t]) (hr : r.wr = [b]) (hl : look h t = some b') (hb : BlkLe b' b) : GoodW bs r v h :=
  GoodW.pure hn hv fun i u c hu hc => by
    cases i with
    | zero => rw [ho] at hu; rw [hr] at hc; simp at hu hc; subst hu hc; exact ⟨b', hl, hb⟩
    | succ i => rw [ho] at hu; simp at hu

theorem Good.two {q t u : Nat} {b b' c c' : Blk} {r : LR} {v : XV} {h : Heap} (hn : r.new = [b, c]) (ht : q ≤ t) (hu : q ≤ u) (htu : t ≠ u) (hv : ∀ ρ, v.den ρ = (r.val.ren (lf q [t, u])).den ρ) (hl : look h t = some b') (hb : BlkLe b' b) (hl2 : look h u = some c') (hc : BlkLe c' c) : Good q r v h :=
  ⟨[t, u], by simp [hn], by simpa using htu, by simp; exact ⟨ht, hu⟩, hv, fun i x y hx hy => by
    cases i with
    | zero => rw [hn] at hy; simp at hx hy; subst hx hy; exact ⟨b', hl, hb⟩
    | succ i =>
      cases i with
      | zero => rw [hn] at hy; simp at hx hy; subst hx hy; exact ⟨c', hl2, hc⟩
      | succ i => simp at hx⟩

end Go.Eng
