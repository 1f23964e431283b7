/- Messages in memory; what Want may answer; steps of a cache from steps of its parts. -/
import Derived.Test.YtnieambhpmnliaaDoorCache2
import Derived.Test.YtnieambhpmnliaaDoorRight
namespace Go.Proofs.YtnieambhpmnliaaDoor
set_option linter.all false
set_option linter.unusedVariables false
set_option linter.unusedSimpArgs false
open Go Go.RowKit

theorem msgSize : (Tryd.prog.info? 33).map (·.size) = some 13 := by kernel_rfl
theorem msgOne (m : Msg) : ∀ u ∈ m.cells, u.oneCell' = true := by
  intro u hu
  simp only [Msg.cells, List.mem_cons, List.not_mem_nil, or_false] at hu
  rcases hu with rfl | rfl | rfl | rfl | rfl | rfl | rfl | rfl | rfl | rfl | rfl | rfl | rfl <;> rfl
theorem msgLen (m : Msg) : m.cells.length = 13 := rfl
/-- A message's cells, one by one. -/
structure MsgAt (w : World) (b : Nat) (m : Msg) : Prop where
  c0 : w.cell? ⟨b, 0, none⟩ = some (.int .i64 m.kind)
  c1 : w.cell? ⟨b, 1, none⟩ = some (.int .i64 m.core)
  c2 : w.cell? ⟨b, 2, none⟩ = some (.int .i64 m.line)
  c3 : w.cell? ⟨b, 3, none⟩ = some (.int .i64 m.state)
  c4 : w.cell? ⟨b, 4, none⟩ = some (.int .i64 m.mode)
  c5 : w.cell? ⟨b, 5, none⟩ = some (.int .i64 m.epoch)
  c6 : w.cell? ⟨b, 6, none⟩ = some (.int .i64 m.word)
  c7 : w.cell? ⟨b, 7, none⟩ = some (.int .u32 m.value)
  c8 : w.cell? ⟨b, 8, none⟩ = some (.int .u32 m.d0)
  c9 : w.cell? ⟨b, 9, none⟩ = some (.int .u32 m.d1)
  c10 : w.cell? ⟨b, 10, none⟩ = some (.int .u32 m.d2)
  c11 : w.cell? ⟨b, 11, none⟩ = some (.int .u32 m.d3)
  c12 : w.cell? ⟨b, 12, none⟩ = some (.bool m.has)
theorem msgAt {w : World} {b : Nat} {m : Msg} (h : Blk w b 33 m.cells) : MsgAt w b m :=
  ⟨h.cell 0, h.cell 1, h.cell 2, h.cell 3, h.cell 4, h.cell 5, h.cell 6, h.cell 7, h.cell 8, h.cell 9, h.cell 10, h.cell 11, h.cell 12⟩
theorem loadMsg {w : World} {b : Nat} {m : Msg} (h : Blk w b 33 m.cells) : (loadVar 33 ⟨b, 0, none⟩).run Tryd.prog w = .ok m.val w := by
  obtain ⟨i, hi, hi1⟩ := Option.map_eq_some_iff.1 msgSize
  obtain ⟨c0, c1, c2, c3, c4, c5, c6, c7, c8, c9, c10, c11, c12⟩ := msgAt h
  simp [loadVar, isAgg, underlying, Tryd.underlying33, Result.andThen, sizeOf, typeInfo, hi, hi1, loadCells, loadCellsFrom, Addr.add, Msg.val, c0, c1, c2, c3, c4, c5, c6, c7, c8, c9, c10, c11, c12]
/-- What a function hands back whose first result is a message in memory, whose second one lies in a slot. -/
theorem results_msg2 {fn : Func} {a s : Tmp} (hfn : fn.results = #[.cell a 33, .tmp s]) {tmps : Array Value} {w : World} {b : Nat} (m : Msg) (v : Value) (ha : tmps.getD a undef = .pointer (some ⟨b, 0, none⟩)) (hs : tmps.getD s undef = v)
    (h : Blk w b 33 m.cells) : (results fn tmps).run Tryd.prog w = .ok (.tuple #[m.val, v]) w := by
  have hl := loadMsg h
  subst hs
  have ha' : tmps[a]?.getD undef = .pointer (some ⟨b, 0, none⟩) := by simpa using ha
  simp [results, hfn, ha', asAddr, hl]
theorem results_msg1 {fn : Func} {a : Tmp} (hfn : fn.results = #[.cell a 33]) {tmps : Array Value} {w : World} {b : Nat} (m : Msg) (ha : tmps.getD a undef = .pointer (some ⟨b, 0, none⟩))
    (h : Blk w b 33 m.cells) : (results fn tmps).run Tryd.prog w = .ok m.val w := by
  have hl := loadMsg h
  have ha' : tmps[a]?.getD undef = .pointer (some ⟨b, 0, none⟩) := by simpa using ha
  simp [results, hfn, ha', asAddr, hl]
/-- A message over another one. -/
theorem msgOver {w : World} {b : Nat} {m m' : Msg} (h : Blk w b 33 (m.cells.take 0 ++ m'.cells ++ m.cells.drop (0 + m'.cells.length))) : Blk w b 33 m'.cells := by
  have e : m.cells.take 0 ++ m'.cells ++ m.cells.drop (0 + m'.cells.length) = m'.cells := by simp [msgLen]
  rw [e] at h; exact h

/-- What an answer says of its error. -/
inductive Er where
  | ok
  | one (code : Nat)
  | two (at_ : Int)
  deriving DecidableEq
def wantOp : List UInt8 := [99, 97, 99, 104, 101, 46, 87, 97, 110, 116]
def addOp : List UInt8 := [109, 115, 104, 114, 46, 65, 100, 100]
def erv (p : Nat → Addr) (line : Int) : Er → Value
  | .ok => .nilIface
  | .one code => faultv wantOp line (sentv (p code))
  | .two at_ => faultv wantOp line (faultv addOp at_ (sentv (p 6)))

/-- A step of the table of misses is one of the cache. -/
theorem CR.mstep {B w w' cb ab sb tb wbs L L' c M'} (h : CR B w cb ab sb tb wbs L c) (hT : TabB B L' w' tb c.most M') (hg : Grow w L L') (hf : Fr B [97, 94] w w') (hfl : FrL L w w') (hm : MOk c.most M') :
    CStep B w cb (cb :: ab :: sb :: (wbs ++ L)) w' { c with M := M' } := by
  refine ⟨cb :: ab :: sb :: (wbs ++ L'), ⟨ab, sb, tb, wbs, L', ⟨h.hB, h.bc.fr hf (by decide), h.ar.fr hf (by decide) (by decide) (by decide), hT, ⟨h.ok.a, hm⟩⟩, rfl⟩, ⟨fun x hx => ?_, fun x hx => ?_⟩, hfl.sub (fun x hx => by simp [hx])⟩
  · simp only [List.mem_cons, List.mem_append] at hx ⊢
    rcases hx with h1 | h1 | h1 | h1 | h1
    · exact Or.inl h1
    · exact Or.inr (Or.inl h1)
    · exact Or.inr (Or.inr (Or.inl h1))
    · exact Or.inr (Or.inr (Or.inr (Or.inl h1)))
    · exact Or.inr (Or.inr (Or.inr (Or.inr (hg.1 x h1))))
  · simp only [List.mem_cons, List.mem_append] at hx ⊢
    rcases hx with h1 | h1 | h1 | h1 | h1
    · exact Or.inl (Or.inl h1)
    · exact Or.inl (Or.inr (Or.inl h1))
    · exact Or.inl (Or.inr (Or.inr (Or.inl h1)))
    · exact Or.inl (Or.inr (Or.inr (Or.inr (Or.inl h1))))
    · exact (hg.2 x h1).imp (fun h2 => Or.inr (Or.inr (Or.inr (Or.inr h2)))) id
/-- A step of the array is one of the cache. -/
theorem CR.astep {B w w' cb ab sb tb wbs L c A'} (h : CR B w cb ab sb tb wbs L c) (ha : ArrR B w' ab sb wbs A') (hk : AOk c.n c.k A') {S : List TypeId} (hf : Fr B S w w') (hS : ∀ T ∈ S, T = 69 ∨ T = 92) (hfl : FrL (sb :: wbs) w w') :
    CStep B w cb (cb :: ab :: sb :: (wbs ++ L)) w' { c with A := A' } :=
  ⟨_, ⟨ab, sb, tb, wbs, L, ⟨h.hB, h.bc.fr hf (fun hm => by rcases hS _ hm with e | e <;> exact absurd e (by decide)), ha, h.tab.fr hf (fun hm => by rcases hS _ hm with e | e <;> exact absurd e (by decide)) (fun hm => by rcases hS _ hm with e | e <;> exact absurd e (by decide)), ⟨hk, h.ok.m⟩⟩, rfl⟩, Grow.refl _ _,
    hfl.sub (fun x hx => by simp at hx ⊢; rcases hx with h1 | h1 <;> simp [h1])⟩
theorem CStep.trans {B w w1 w2 cb F c1 c2} (h : CStep B w cb F w1 c1) (k : ∀ F', CAt B w1 cb c1 F' → CStep B w1 cb F' w2 c2) : CStep B w cb F w2 c2 := by
  obtain ⟨F1, h1, h2, h3⟩ := h
  obtain ⟨F2, k1, k2, k3⟩ := k F1 h1
  exact ⟨F2, k1, h2.trans k2 h3.size, h3.trans' k3 (fun x hx => h2.2 x hx)⟩
theorem CStep.size {B w cb F w' c'} (h : CStep B w cb F w' c') : w.heap.size ≤ w'.heap.size := h.choose_spec.2.2.size
theorem CStep.frl {B w cb F w' c'} (h : CStep B w cb F w' c') : FrL F w w' := h.choose_spec.2.2

end Go.Proofs.YtnieambhpmnliaaDoor
