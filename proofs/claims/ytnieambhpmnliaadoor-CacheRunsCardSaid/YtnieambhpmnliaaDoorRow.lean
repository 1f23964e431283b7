/- What the rows' proofs share. -/
import Derived.Test.YtnieambhpmnliaaDoorLaid
import Derived.ChangeSame
import Derived.ChangeVars
import Derived.JoinedOf
import Derived.RowKit
import Derived.RowKitTokens
import Derived.Below
import Derived.Test.YtnieambhpmnliaaDoorCards
import Derived.Test.YtnieambhpmnliaaDoorTie
import Derived.SevenTiedAt
namespace Go.Proofs.YtnieambhpmnliaaDoor
set_option linter.all false
set_option linter.unusedVariables false
set_option linter.unusedSimpArgs false
open Go Go.ChangeShapes Go.WideShapes Go.RowKit

theorem rowOwn : ownKnob Tryd.prog.godebug = none := by kernel_rfl

/-- A call that answers true, makes memory alone, and whose arguments lead to no memory. -/
theorem post_true {H : Type} {enc : TypeId × Value → H} {f : Func} {s : ChangeSpec} {handsOn : Bool} {W W' : World} {args : Array Value} {ds : List (DataW H)}
    (hvars : s.vars = []) (hres : f.resultTypes = #[4]) (hfn : s.fn H (ds ++ []) = { results := [.lit (.bool true)], args := ds })
    (hW : DataW.Whole enc Tryd.prog f.params.toList s.vars false W args.toList ds [] [])
    (hargs : ∀ sp, DataW.TrodAll enc Tryd.prog W' 0 sp true f.params.toList args.toList ds [])
    (hb : Below W.heap.size W W') : s.post enc Tryd.prog f false true handsOn false W args (.bool true) W' := by
  refine ⟨_, _, _, [], [], [], hW, ?_, ?_, ?_, ?_, fun h => by cases h⟩
  · rw [hfn, hres]; exact trodAll_mk1 (shut_bool Tryd.underlying4 true)
  · rw [hfn]; exact hargs _
  · rw [hfn, hvars]; rfl
  · exact World.keptBut_mono (fun p hp => by cases hp) (hb.frame fun _ => False)

theorem noStandIn {ps : Array TypeId} (h : (ps.toList.all fun t => !Tryd.prog.wantsStandIn t) = true) (j : Nat) (t : TypeId) (ht : ps[j]? = some t) : Tryd.prog.wantsStandIn t = false := by
  have hm : t ∈ ps.toList := List.mem_of_getElem? (i := j) (by simpa using ht)
  simpa using List.all_eq_true.1 h t hm

end Go.Proofs.YtnieambhpmnliaaDoor
