/- The engine, part U: a law's row out of its contract. -/
import Derived.Test.YtmajpppjakdodaaEngT
import Derived.ProofKit
import Derived.ChangeSame
import Derived.Below
set_option linter.all false
set_option exponentiation.threshold 3000
namespace Go.Eng

/-- a law that is told true by its contract returns true; what was there is as it was -/
theorem law_calls {P : Program} {f : Nat} {ds : List PD} {g : List CV → List Blk → Option LR} (h : CallOK P f (heapSem ds stdA g)) {args : List CV} {ob : List Bool}
    (hf : ∀ v, v ∈ args → ∀ ρ, v.den ρ = v.den rho0) (he : heapSem ds stdA g 0 args [] = some ⟨ob, .c (.s (.bool true)), [], []⟩) (ho : ∀ b, b ∈ ob → b = true) (w : World) :
    Calls P f (args.map (CV.den rho0)).toArray w fun e w' => e = .returned (.bool true) ∧ RowKit.Below w.heap.size w w' :=
  (h.calls noIds 0 args [] _ (fun _ hi => hi.elim) he ho w base0 rho0 w (HS.init w) (fun v hv ρ' _ => by rw [hf v hv ρ', hf v hv rho0])).mono fun e w' ⟨v, h1, ρ', _, hv, _, _, hb, _⟩ =>
    ⟨by rw [h1, hv]; rfl, hb.below wblk_nil⟩

open Go.RowKit Go.WideShapes Go.ChangeShapes in
/-- the row's last step where of the world behind the call 'Below' alone is known -/
theorem post_low {H : Type} {enc : TypeId × Value → H} {P : Program} {f : Func} {s : ChangeSpec} {apart fresh handsOn again : Bool} {W W' : World} {args : Array Value} {v : Value} {ds gs : List (DataW H)}
    {before pa pv : List MemPlace} (hW : DataW.Whole enc P f.params.toList s.vars apart W args.toList ds gs before)
    (hres : ∀ (b : Nat) (sp : Nat → Bool) (hd : Bool), DataW.TrodAll enc P W' b sp hd f.resultTypes.toList (v.resultList f.resultTypes.size) (s.fn H (ds ++ gs)).results [])
    (hargs : ∀ sp : Nat → Bool, (∀ p ∈ before, sp p.block = true) → DataW.TrodAll enc P W' 0 sp true f.params.toList args.toList (s.fn H (ds ++ gs)).args pa)
    (hvars : ∀ sp : Nat → Bool, (∀ p ∈ before, sp p.block = true) → DataW.TrodVars enc P W' sp s.vars (s.fn H (ds ++ gs)).vars pv)
    (hps : before = pa ++ pv) (hb : Below W.heap.size W W')
    (hok : ∀ (j : Nat) (t : TypeId) (r : Value), f.resultTypes[j]? = some t → (v.resultList f.resultTypes.size)[j]? = some r → Value.okWide P W' .any 0 t r) :
    s.post enc P f apart fresh handsOn again W args v W' := by
  have hin : ∀ p, p ∈ before → p.block < W.heap.size := fun p hp => hW.lt p hp
  have hsp : ∀ p, p ∈ before → (fun b => decide (b < W.heap.size)) p.block = true := fun p hp => decide_eq_true (hin p hp)
  refine ⟨ds, gs, before, [], pa, pv, hW, hres _ _ _, hargs _ hsp, hvars _ hsp, World.keptBut_mono (fun p hp => ⟨hp, ?_⟩) (hb.frame (· ∈ before)), fun _ => ?_⟩
  · rw [hps, List.mem_append] at hp
    exact .inr hp
  · obtain ⟨_, _, _, _, _, hz, hn⟩ := hW
    refine ⟨hok, _, _, ([] ++ pa) ++ pv, ⟨[] ++ pa, pv, trodAll_append (hargs _ (fun _ _ => rfl)) (hres _ _ _), hvars _ (fun _ _ => rfl), rfl, fun b off hp => ?_, fun ha => ?_⟩, fun p hp _ => ?_⟩
    · have hm : MemPlace.cell b off ∈ before := by rw [hps]; simpa using hp
      rw [hb.frozen (hin _ hm)]
      exact hz b off hm
    · have := hn ha
      rw [hps] at this
      simpa using this
    · rw [hps]; simpa using hp

end Go.Eng
