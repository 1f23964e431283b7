/- From the condition on the listed variables to the walk's 'the sentinels stand'; a world that meets the condition. -/
import Derived.Test.YtnieambhpmnliaaDoorRows
import Derived.Test.YtnieambhpmnliaaDoorMiss6
import Derived.LaidLaws
import Derived.LaidHandle
import Derived.Stop.LaidErr
import Derived.Stop.Joined
namespace Go.Proofs.YtnieambhpmnliaaDoor
set_option linter.all false
set_option linter.unusedVariables false
set_option linter.unusedSimpArgs false
open Go Go.ChangeShapes Go.WideShapes Go.RowKit

/-- The list of the rows' cell 'laid'. -/
def laidS : List (String × List UInt8) := [("assent/api.ErrArg", [97, 110, 32, 97, 114, 103, 117, 109, 101, 110, 116, 32, 116, 104, 97, 116, 32, 99, 97, 110, 39, 116, 32, 98, 101]),
  ("assent/api.ErrLong", [116, 111, 111, 32, 108, 111, 110, 103]),
  ("assent/api.ErrShort", [116, 111, 111, 32, 115, 104, 111, 114, 116]),
  ("assent/api.ErrForm", [110, 111, 116, 32, 105, 110, 32, 102, 111, 114, 109]),
  ("assent/api.ErrTail", [115, 111, 109, 101, 116, 104, 105, 110, 103, 32, 108, 101, 102, 116, 32, 111, 118, 101, 114]),
  ("assent/api.ErrFull", [110, 111, 32, 114, 111, 111, 109]),
  ("assent/api.ErrBusy", [117, 110, 100, 101, 114, 32, 119, 97, 121]),
  ("assent/api.ErrNone", [116, 104, 101, 114, 101, 32, 105, 115, 32, 110, 111, 110, 101]),
  ("assent/api.ErrOrder", [110, 111, 116, 32, 105, 110, 32, 111, 114, 100, 101, 114]),
  ("assent/api.ErrValue", [97, 110, 111, 116, 104, 101, 114, 32, 118, 97, 108, 117, 101])]
def sentD (t : List UInt8) : DataW Unit := .iface "*errors.errorString" (.ptr (.agg [.lit (.string t)]))
def laidL : List (String × DataW Unit) := ("errors.errorType", Rows.laid_errors_errorType) :: laidS.map fun x => (x.1, sentD x.2)

theorem lstar : "*" ++ "errors.errorString" = "*errors.errorString" := by decide
theorem lrow (u : TypeId) (h : Tryd.prog.typeName? 3 u = some "*errors.errorString") : u = 156 :=
  typeName_ptr_named (nm := "errors.errorString") (by rw [lstar]; kernel_rfl) (by kernel_rfl) (by decide) u (by rw [lstar]; exact h)
theorem lcells : Tryd.prog.cellsOf 176 = 1 := by kernel_rfl
theorem lcellsS : Tryd.prog.cellsOf 9 = 1 := by kernel_rfl
theorem lstruct : ∃ f : Field, Tryd.prog.underlying 176 = some (.struct #[f]) ∧ f.type = 9 ∧ f.offset = 0 := ⟨_, Tryd.underlying176, rfl, rfl⟩

set_option maxRecDepth 100000 in
/-- Sentinels one behind another: different places. -/
theorem sents_all {W : World} : ∀ (l : List (String × List UInt8)) (ps : List MemPlace), (∀ x ∈ l, ∃ g, Tryd.prog.globalNamed x.1 = some g ∧ (Tryd.prog.globals[g]?).map (·.type) = some 24) →
    DataW.LaidVars Tryd.prog W (l.map fun x => (x.1, sentD x.2)) ps → ps.Nodup → (∀ b off, MemPlace.cell b off ∈ ps → (∃ c t, W.heap[b]? = some (.cells c t (0, 0))) ∧ ∀ u v, W.cell? ⟨b, off, none⟩ = some (.iface u v) → Value.okWide Tryd.prog W .any 0 u v) →
    ∃ qs : List Addr, qs.length = l.length ∧ qs.Nodup ∧ (∀ a ∈ qs, MemPlace.cell a.block a.off ∈ ps) ∧ ∀ i (h : i < l.length) (h' : i < qs.length), W.var? Tryd.prog l[i].1 = some #[sentv qs[i]] := by
  intro l
  induction l with
  | nil => intro ps _ _ _ _; exact ⟨[], rfl, List.nodup_nil, fun a ha => by simp at ha, fun i h => by simp at h⟩
  | cons x r ih =>
    intro ps hg h hnd hrows
    obtain ⟨g, t, cs, fuel, p, q, hg1, ht1, hv, hd, hr, e⟩ := h
    obtain ⟨g', hg2, ht2⟩ := hg x (by simp)
    obtain rfl := Option.some.inj (hg1.symm.trans hg2)
    obtain rfl := Option.some.inj (ht1.symm.trans ht2)
    subst e
    obtain ⟨l0⟩ := cs
    have ok0 : ∀ u v, l0 = [.iface u v] → Value.okWide Tryd.prog W .any 0 u v := fun u v e => by
      subst e
      exact (hrows g 0 (by simp [MemPlace.row])).2 u v (by simpa using World.var?_cell hg1 hv 0)
    obtain ⟨f, hs1, hs2, hs3⟩ := lstruct
    obtain ⟨a, s, rfl, _, _, _, rfl⟩ := errorString_of_trod Tryd.underlying24 lrow Tryd.underlying156 hs1 hs2 hs3 Tryd.underlying9 lcells lcellsS hd ok0
    obtain ⟨qs, h1, h2, h3, h4⟩ := ih q (fun y hy => hg y (List.mem_cons_of_mem _ hy)) hr (List.nodup_append.1 hnd).2.1 (fun b off hm => hrows b off (List.mem_append_right _ hm))
    have ha : MemPlace.cell a.block a.off ∈ MemPlace.row ⟨g, 0, none⟩ 1 ++ MemPlace.row a 1 := by simp [MemPlace.row]
    refine ⟨a :: qs, by simp [h1], List.nodup_cons.2 ⟨fun hm => (List.nodup_append.1 hnd).2.2 _ ha _ (h3 a hm) rfl, h2⟩, fun b hb => ?_, fun i h h' => ?_⟩
    · rcases List.mem_cons.1 hb with rfl | hb
      · exact List.mem_append_left _ (by simpa using ha)
      · exact List.mem_append_right _ (h3 b hb)
    · cases i with
      | zero => exact hv
      | succ i => exact h4 i (by simpa using h) (by simpa using h')

theorem lglob : ∀ x ∈ laidS, ∃ g, Tryd.prog.globalNamed x.1 = some g ∧ (Tryd.prog.globals[g]?).map (·.type) = some 24 := by
  intro x hx
  simp only [laidS, List.mem_cons, List.not_mem_nil, or_false] at hx
  rcases hx with rfl | rfl | rfl | rfl | rfl | rfl | rfl | rfl | rfl | rfl
  · exact ⟨0, by kernel_rfl, by kernel_rfl⟩
  · exact ⟨3, by kernel_rfl, by kernel_rfl⟩
  · exact ⟨4, by kernel_rfl, by kernel_rfl⟩
  · exact ⟨5, by kernel_rfl, by kernel_rfl⟩
  · exact ⟨6, by kernel_rfl, by kernel_rfl⟩
  · exact ⟨2, by kernel_rfl, by kernel_rfl⟩
  · exact ⟨1, by kernel_rfl, by kernel_rfl⟩
  · exact ⟨7, by kernel_rfl, by kernel_rfl⟩
  · exact ⟨8, by kernel_rfl, by kernel_rfl⟩
  · exact ⟨9, by kernel_rfl, by kernel_rfl⟩
theorem letG : Tryd.prog.globalNamed "errors.errorType" = some 10 := by kernel_rfl
theorem lrt : (Tryd.prog.cutTypes.find? (·.1 == "internal/reflectlite.rtype")).map (·.2) = some 139 := by kernel_rfl
theorem loneRow : ((List.range Tryd.prog.types.size).filter fun t => Tryd.prog.rowNamed t [101, 114, 114, 111, 114]) = [24] := by kernel_rfl

theorem sent_of_laid {W : World} (h : laidMetH Tryd.prog laidL W) : ∃ p, Sent W.heap.size W p := by
  have h' : laidMet Tryd.prog (laidS.map fun x => (x.1, sentD x.2)) W ∧ handlesMet Tryd.prog [("errors.errorType", Rows.laid_errors_errorType)] W := h
  obtain ⟨⟨ps, hl, hnd, hrows⟩, hh⟩ := h'
  obtain ⟨qs, h1, h2, h3, h4⟩ := sents_all laidS ps lglob hl hnd hrows
  obtain ⟨name, u, ty, e1, e2, e3, e4, e5⟩ := hh _ (List.mem_singleton.2 rfl)
  have en : name = [101, 114, 114, 111, 114] := (Option.some.inj e1).symm
  subst en
  obtain rfl := Option.some.inj (lrt.symm.trans e2)
  have hm : ty ∈ (List.range Tryd.prog.types.size).filter fun t => Tryd.prog.rowNamed t [101, 114, 114, 111, 114] := List.mem_filter.2 ⟨List.mem_range.2 e3, e4⟩
  rw [loneRow] at hm
  obtain rfl := List.mem_singleton.1 hm
  have hty : typeHandle Tryd.prog 24 = .pointer (some ⟨Tryd.prog.globals.size, 24, none⟩) := by kernel_rfl
  rw [hty] at e5
  have hl10 : qs.length = 10 := h1
  have hc : ∀ i (h : i < laidS.length) (h' : i < qs.length) g, Tryd.prog.globalNamed laidS[i].1 = some g → W.cell? ⟨g, 0, none⟩ = some (sentv qs[i]) := fun i h h' g hg => by
    simpa using World.var?_cell hg (h4 i h h') 0
  have hget : ∀ i (h : i < qs.length), qs.getD i ⟨0, 0, none⟩ = qs[i] := fun i h => by simp [h]
  have het : W.cell? ⟨10, 0, none⟩ = some (.iface 139 (.agg #[.pointer (some ⟨Tryd.prog.globals.size, 24, none⟩)])) := by simpa using World.var?_cell letG e5 0
  have hlt : 11 ≤ W.heap.size := by
    have := World.block_lt_of_cell? W _ het
    simp only at this
    omega
  refine ⟨fun i => qs.getD (i - 1) ⟨0, 0, none⟩, ⟨?_, ?_, ?_, ?_, ?_, ?_, ?_, ?_, ?_, ?_, het, ?_, ?_, hlt, Nat.le_refl _⟩⟩
  · rw [hget 0 (by omega)]; exact hc 0 (by decide) (by omega) _ (by kernel_rfl)
  · rw [hget 1 (by omega)]; exact hc 1 (by decide) (by omega) _ (by kernel_rfl)
  · rw [hget 2 (by omega)]; exact hc 2 (by decide) (by omega) _ (by kernel_rfl)
  · rw [hget 3 (by omega)]; exact hc 3 (by decide) (by omega) _ (by kernel_rfl)
  · rw [hget 4 (by omega)]; exact hc 4 (by decide) (by omega) _ (by kernel_rfl)
  · rw [hget 5 (by omega)]; exact hc 5 (by decide) (by omega) _ (by kernel_rfl)
  · rw [hget 6 (by omega)]; exact hc 6 (by decide) (by omega) _ (by kernel_rfl)
  · rw [hget 7 (by omega)]; exact hc 7 (by decide) (by omega) _ (by kernel_rfl)
  · rw [hget 8 (by omega)]; exact hc 8 (by decide) (by omega) _ (by kernel_rfl)
  · rw [hget 9 (by omega)]; exact hc 9 (by decide) (by omega) _ (by kernel_rfl)
  · intro i j hi hi' hj hj' e
    have e : qs.getD (i - 1) ⟨0, 0, none⟩ = qs.getD (j - 1) ⟨0, 0, none⟩ := e
    rw [hget _ (by omega), hget _ (by omega)] at e
    have := (List.getElem_inj h2).1 e
    omega
  · intro i hi hi'
    show (qs.getD (i - 1) ⟨0, 0, none⟩).block < _ ∧ ∃ c T, W.heap[(qs.getD (i - 1) ⟨0, 0, none⟩).block]? = _
    rw [hget _ (by omega)]
    obtain ⟨c, t, hb⟩ := (hrows _ _ (h3 qs[i - 1] (List.getElem_mem _))).1
    exact ⟨lt_of_heap hb, c, t, hb⟩

/-! ### a world that meets the condition -/
def setG (h : Array Obj) (g : Nat) (v : Value) : Array Obj := h.modify g fun
  | .cells _ t frozen => .cells #[v] t frozen
  | o => o
noncomputable def lowN : Nat := (World.holding Tryd.prog default ⟨#[], #[], []⟩).heap.size
noncomputable def laidWorld (os : Os) : World :=
  let w0 := World.holding Tryd.prog os ⟨#[.cells #[.string ⟨#[97, 110, 32, 97, 114, 103, 117, 109, 101, 110, 116, 32, 116, 104, 97, 116, 32, 99, 97, 110, 39, 116, 32, 98, 101]⟩] 176, .cells #[.string ⟨#[117, 110, 100, 101, 114, 32, 119, 97, 121]⟩] 176, .cells #[.string ⟨#[110, 111, 32, 114, 111, 111, 109]⟩] 176, .cells #[.string ⟨#[116, 111, 111, 32, 108, 111, 110, 103]⟩] 176, .cells #[.string ⟨#[116, 111, 111, 32, 115, 104, 111, 114, 116]⟩] 176, .cells #[.string ⟨#[110, 111, 116, 32, 105, 110, 32, 102, 111, 114, 109]⟩] 176, .cells #[.string ⟨#[115, 111, 109, 101, 116, 104, 105, 110, 103, 32, 108, 101, 102, 116, 32, 111, 118, 101, 114]⟩] 176, .cells #[.string ⟨#[116, 104, 101, 114, 101, 32, 105, 115, 32, 110, 111, 110, 101]⟩] 176, .cells #[.string ⟨#[110, 111, 116, 32, 105, 110, 32, 111, 114, 100, 101, 114]⟩] 176, .cells #[.string ⟨#[97, 110, 111, 116, 104, 101, 114, 32, 118, 97, 108, 117, 101]⟩] 176], #[], []⟩
  { w0 with heap := setG (setG (setG (setG (setG (setG (setG (setG (setG (setG (setG (w0.heap) 0 (.iface 156 (.pointer (some ⟨lowN + 0, 0, none⟩)))) 1 (.iface 156 (.pointer (some ⟨lowN + 1, 0, none⟩)))) 2 (.iface 156 (.pointer (some ⟨lowN + 2, 0, none⟩)))) 3 (.iface 156 (.pointer (some ⟨lowN + 3, 0, none⟩)))) 4 (.iface 156 (.pointer (some ⟨lowN + 4, 0, none⟩)))) 5 (.iface 156 (.pointer (some ⟨lowN + 5, 0, none⟩)))) 6 (.iface 156 (.pointer (some ⟨lowN + 6, 0, none⟩)))) 7 (.iface 156 (.pointer (some ⟨lowN + 7, 0, none⟩)))) 8 (.iface 156 (.pointer (some ⟨lowN + 8, 0, none⟩)))) 9 (.iface 156 (.pointer (some ⟨lowN + 9, 0, none⟩)))) 10 (.iface 139 (.agg #[.pointer (some ⟨11, 24, none⟩)])) }
theorem laidWorld_met (os : Os) (args : Array Value) : laidMetH Tryd.prog laidL ((laidWorld os).forCall (fun _ _ => 0) ⟨#[], args, []⟩).memory :=
  laidMetH_of_parts (laidMet_of_run (ps := [.cell 0 0, .cell (lowN + 0) 0, .cell 3 0, .cell (lowN + 3) 0, .cell 4 0, .cell (lowN + 4) 0, .cell 5 0, .cell (lowN + 5) 0, .cell 6 0, .cell (lowN + 6) 0, .cell 2 0, .cell (lowN + 2) 0, .cell 1 0, .cell (lowN + 1) 0, .cell 7 0, .cell (lowN + 7) 0, .cell 8 0, .cell (lowN + 8) 0, .cell 9 0, .cell (lowN + 9) 0]) 8 (by kernel_rfl) (by kernel_rfl) (by kernel_rfl)) (by kernel_rfl)

end Go.Proofs.YtnieambhpmnliaaDoor
