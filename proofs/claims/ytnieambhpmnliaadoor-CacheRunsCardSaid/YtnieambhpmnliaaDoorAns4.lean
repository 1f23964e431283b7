/- A cache: Answer as one. -/
import Derived.Test.YtnieambhpmnliaaDoorAns2
import Derived.Test.YtnieambhpmnliaaDoorAns3
namespace Go.Proofs.YtnieambhpmnliaaDoor
set_option linter.all false
set_option linter.unusedVariables false
set_option linter.unusedSimpArgs false
open Go Go.RowKit

theorem answer_calls (B : Nat) (c : Ca) (m : Msg) (p : Nat → Addr) (cb : Nat) (F : List Nat) (w : World) (h : CAt B w cb c F) (hg : Sent B w p) :
    Calls Tryd.prog 12 #[.pointer (some ⟨cb, 0, none⟩), m.val] w
      fun e w' => e = .returned (.tuple #[(answerC c m).1.val, .bool (answerC c m).2.1]) ∧ CStep B w cb F w' (answerC c m).2.2 := by
  cases hmi : mineC c m 3
  case false => unfold answerC; rw [hmi]; exact ans_mine B c m p cb F w h hg hmi
  obtain ⟨hri, hpo, hco⟩ := mine_right hmi
  obtain ⟨hl, hwd, hst, hmd, hep⟩ := right_facts hri
  have hk := pool_three hpo
  unfold answerC
  rw [hmi]
  simp only [Bool.not_true, Bool.false_eq_true, if_false]
  by_cases h15 : m.kind = 15
  · rw [if_pos h15]; exact ans_gone B c m p cb F w h hg hmi h15
  rw [if_neg h15]
  cases hx : getA c.A m.line with
  | none =>
    have hs : (getA c.A m.line).isSome = false := by rw [hx]; rfl
    cases hh : m.has
    · simp only [Option.isSome_none, Bool.not_false, Bool.and_self, if_true]
      exact ans_none B c m p cb F w h hg hmi h15 hs hh
    · simp only [Option.isSome_none, Bool.not_false, Bool.not_true, Bool.and_false, Bool.false_eq_true, if_false]
      have h13 : m.kind = 13 := by
        rcases hk with hk | hk | hk
        · exact hk
        · exfalso
          simp [right, msgEq, bare, hk, hh, fstate] at hri
          have := congrArg Msg.has hri.1.1.2
          rw [hh] at this; simp at this
        · exact absurd hk h15
      have he : ansEnt (entC c m.line) m = ⟨m.line, m.state, m.mode, m.epoch, m.d0, m.d1, m.d2, m.d3, false, true⟩ := by
        unfold ansEnt; rw [if_neg (by omega), if_pos hh]
      rw [he]
      cases hp : putA c.A ⟨m.line, m.state, m.mode, m.epoch, m.d0, m.d1, m.d2, m.d3, false, true⟩ with
      | none => exact ans_13_d B c m p cb F w h hg hmi hs h13 hh hp
      | some A' => exact ans_13_c B c m p cb F w h hg hmi hs h13 hh A' hp
  | some x =>
    have he : entC c m.line = x := by unfold entC; rw [hx]; rfl
    obtain ⟨_, hxl, hx0, hxo, hput⟩ := getA_some h.ok.a hx
    simp only [Option.isSome_some, Bool.not_true, Bool.false_and, Bool.false_eq_true, if_false, he]
    have hsome : ∀ y : Ent, y.line = m.line → ∃ A', putA c.A y = some A' := fun y hy => Option.isSome_iff_exists.1 (hput y hy)
    rcases hk with hk | hk | hk
    · cases hh : m.has
      · have e1 : ansEnt x m = ⟨m.line, m.state, m.mode, m.epoch, x.d0, x.d1, x.d2, x.d3, false, true⟩ := by unfold ansEnt; rw [if_neg (by omega), hh]; rfl
        obtain ⟨A', hA⟩ := hsome ⟨m.line, m.state, m.mode, m.epoch, x.d0, x.d1, x.d2, x.d3, false, true⟩ rfl
        rw [e1, hA]
        exact ans_13_b B c m p cb F w h hg hmi x hx hk hh A' hA
      · have e1 : ansEnt x m = ⟨m.line, m.state, m.mode, m.epoch, m.d0, m.d1, m.d2, m.d3, false, true⟩ := by unfold ansEnt; rw [if_neg (by omega), if_pos hh]
        obtain ⟨A', hA⟩ := hsome ⟨m.line, m.state, m.mode, m.epoch, m.d0, m.d1, m.d2, m.d3, false, true⟩ rfl
        rw [e1, hA]
        exact ans_13_a B c m p cb F w h hg hmi x hx hk hh A' hA
    · have hw : m.word = 0 ∨ m.word = 1 ∨ m.word = 2 ∨ m.word = 3 := by omega
      rcases hw with hw | hw | hw | hw
      · obtain ⟨A', hA⟩ := hsome { x with held := false, d0 := m.value } hxl
        rw [show ansEnt x m = { x with held := false, d0 := m.value } by unfold ansEnt; rw [if_pos hk, hw]; rfl, hA]
        exact ans_14_0 B c m p cb F w h hg hmi x hx hk hw A' hA
      · obtain ⟨A', hA⟩ := hsome { x with held := false, d1 := m.value } hxl
        rw [show ansEnt x m = { x with held := false, d1 := m.value } by unfold ansEnt; rw [if_pos hk, hw]; rfl, hA]
        exact ans_14_1 B c m p cb F w h hg hmi x hx hk hw A' hA
      · obtain ⟨A', hA⟩ := hsome { x with held := false, d2 := m.value } hxl
        rw [show ansEnt x m = { x with held := false, d2 := m.value } by unfold ansEnt; rw [if_pos hk, hw]; rfl, hA]
        exact ans_14_2 B c m p cb F w h hg hmi x hx hk hw A' hA
      · obtain ⟨A', hA⟩ := hsome { x with held := false, d3 := m.value } hxl
        rw [show ansEnt x m = { x with held := false, d3 := m.value } by unfold ansEnt; rw [if_pos hk, hw]; rfl, hA]
        exact ans_14_3 B c m p cb F w h hg hmi x hx hk hw A' hA
    · exact absurd hk h15

end Go.Proofs.YtnieambhpmnliaaDoor
