/- CacheRuns answers true, whatever lies in memory: the row, and its card. Condition: the listed variables read as the program's text lays them (the card ties that to the text). -/
import Derived.Test.YtnieambhpmnliaaDoorRow
import Derived.Test.YtnieambhpmnliaaDoorRuns
import Derived.Test.YtnieambhpmnliaaDoorCards
import Derived.Test.YtnieambhpmnliaaDoorTie
import Derived.SevenTiedAt
namespace Go.Proofs.YtnieambhpmnliaaDoor
set_option linter.all false
set_option linter.unusedVariables false
set_option linter.unusedSimpArgs false
open Go Go.ChangeShapes Go.WideShapes Go.RowKit

set_option maxRecDepth 100000 in
theorem cacheRuns_lifted (os : Os) (started : os.Started) (H : Type) (enc : TypeId × Value → H) :
    ReturnsInHanded {} Tryd.checked os 3 .any (fun w args => (Rows.cacheRunsSpec.pre enc Tryd.prog Tryd.f3 [] false w args ∧ laidMetH Tryd.prog laidL w) ∧ sizedMet enc Tryd.prog Tryd.f3 (OpenSpec.ofChange Rows.cacheRunsSpec) false w args)
      (Rows.cacheRunsSpec.post enc Tryd.prog Tryd.f3 false true false false) := by
  refine returnsInHanded_of_change_and (C := Tryd.checked) (X := fun w _ => laidMetH Tryd.prog laidL w) (fun _ _ _ hh h => h.of_heap hh) rowOwn started (by kernel_rfl) Tryd.func3
    (ChangeSpec.witness_at (enc := enc) (C := Tryd.checked) (os := os) (X := fun w _ => laidMetH Tryd.prog laidL w) false (laidWorld os) #[] 8 rfl (by kernel_rfl) (by kernel_rfl) (by kernel_rfl) (by kernel_rfl) (by kernel_rfl) (laidWorld_met os _)) ?_
  intro W base args ds gs before hval0 hW _ _ hL _
  have hW' := hW
  obtain ⟨p, q, hA0, hV0, rfl, hfz, hnd⟩ := hW
  have hA : DataW.TrodAll enc Tryd.prog W 0 (fun _ => true) true Tryd.f3.params.toList args.toList ds p := hA0
  have hV : DataW.TrodVars enc Tryd.prog W (fun _ => true) [] gs q := hV0
  rw [Tryd.params3] at hA
  obtain ⟨ha, rfl, rfl⟩ := trodAll_nil hA
  obtain ⟨l⟩ := args
  simp only at ha
  subst ha
  obtain ⟨rfl, rfl⟩ : gs = [] ∧ q = [] := by
    cases gs with
    | nil => exact ⟨rfl, hV⟩
    | cons g r => exact absurd hV (by intro h; cases h)
  obtain ⟨pp, hg⟩ := sent_of_laid hL
  refine (runs_calls pp W hg).mono fun e W' ⟨he, hb⟩ => ?_
  exact ⟨_, he, post_true rfl (by kernel_rfl) rfl hW' (fun sp => by rw [Tryd.params3]; exact trodAll_mk0) hb⟩

theorem cacheRuns_holds : Rows.CacheRunsSaid :=
  OpenClaim.holds_of_wide 3 Tryd.f3 rfl rfl rfl rfl rfl rfl rfl ⟨rfl, rfl, rfl, rfl, rfl⟩ rfl rfl rfl rfl rfl (by kernel_rfl) Tryd.func3 (by kernel_rfl)
    (of_decide_eq_true (by kernel_rfl)) (by unfold Func.isWrapper; rw [if_neg (of_decide_eq_false (by kernel_rfl))]; exact ⟨rfl, rfl⟩)
    (fun os started H enc _ => cacheRuns_lifted os started H enc)
theorem cacheRuns_card : Rows.CacheRunsCardSaid :=
  Claim7.holds_tied_plain_at .later [] [.handle, .sentinel, .sentinel, .sentinel, .sentinel, .sentinel, .sentinel, .sentinel, .sentinel, .sentinel, .sentinel] true Rows.cacheRunsCard.stood.harness true
    cacheRuns_holds (fun _ h => by cases h) (by kernel_rfl) (fun _ h => by cases h) cacheRuns_row_tie rfl ⟨rfl, rfl⟩ (by kernel_rfl) rfl
    (fun f fn hf hfn => by
      obtain rfl : f = 3 := Option.some.inj ((show Tryd.prog.funcNamed "assent/assentlaw14.CacheRuns" = some 3 by kernel_rfl).symm.trans hf) |>.symm
      obtain rfl : fn = Tryd.f3 := (Option.some.inj (Tryd.func3.symm.trans hfn)).symm
      exact ⟨by kernel_rfl, fun j t ht => noStandIn (by kernel_rfl) j t ht⟩)
    (by kernel_rfl)
#print axioms cacheRuns_card

end Go.Proofs.YtnieambhpmnliaaDoor
