/- Plain words and lemmas on worlds: what a call may turn in memory, said by the kinds of blocks. No program. -/
import Derived.WalkKit
import Derived.WalkSpells
import Derived.WalkLawsBesides
import Derived.Lib.Hide
import Derived.Deep.QuietTactic
import Derived.BigQuiet
namespace Go.Proofs.YtnieambhpmnliaaDoor
set_option linter.all false
set_option linter.unusedVariables false
set_option linter.unusedSimpArgs false
open Go Go.RowKit

theorem ret_int {k : IntKind} {a b : Int} (h : a = b) : Ending.returned (.int k a) = .returned (.int k b) := by rw [h]
theorem ret_bool {a b : Bool} (h : a = b) : Ending.returned (.bool a) = .returned (.bool b) := by rw [h]
theorem ret_val {a b : Value} (h : a = b) : Ending.returned a = .returned b := by rw [h]

/-- The kind of a block of cells. -/
def okind : Obj → Option TypeId | .cells _ T _ => some T | _ => none

/-- From w to w' nothing below block B has turned, and of the blocks above it only such of the kinds S. -/
structure Fr (B : Nat) (S : List TypeId) (w w' : World) : Prop where
  os : w'.os = w.os
  tape : w'.tape = w.tape
  output : w'.output = w.output
  size : w.heap.size ≤ w'.heap.size
  low : ∀ k, k < B → w'.heap[k]? = w.heap[k]?
  keep : ∀ (k : Nat) (o : Obj), w.heap[k]? = some o → (∀ T, okind o = some T → T ∉ S) → w'.heap[k]? = some o

theorem Fr.refl (B : Nat) (S : List TypeId) (w : World) : Fr B S w w := ⟨rfl, rfl, rfl, Nat.le_refl _, fun _ _ => rfl, fun _ _ h _ => h⟩
theorem Fr.trans {B : Nat} {S : List TypeId} {a b c : World} (h : Fr B S a b) (k : Fr B S b c) : Fr B S a c :=
  ⟨k.os.trans h.os, k.tape.trans h.tape, k.output.trans h.output, Nat.le_trans h.size k.size, fun i hi => (k.low i hi).trans (h.low i hi), fun i o hi ho => k.keep i o (h.keep i o hi ho) ho⟩
theorem Fr.mono {B : Nat} {S S' : List TypeId} {a b : World} (h : Fr B S a b) (hs : ∀ T, T ∈ S → T ∈ S') : Fr B S' a b :=
  ⟨h.os, h.tape, h.output, h.size, h.low, fun i o hi ho => h.keep i o hi (fun T hT hm => ho T hT (hs T hm))⟩
theorem Fr.below {B : Nat} {S : List TypeId} {w w' : World} (h : Below w.heap.size w w') (hB : B ≤ w.heap.size) : Fr B S w w' :=
  ⟨h.os, h.tape, h.output, h.size, fun k hk => h.block k (by omega), fun k o hk _ => by
    have : k < w.heap.size := by
      rcases Nat.lt_or_ge k w.heap.size with h | h
      · exact h
      · rw [Array.getElem?_eq_none h] at hk; cases hk
    rw [h.block k this]; exact hk⟩
/-- A known block of a kind that stays. -/
theorem Fr.cells {B : Nat} {S : List TypeId} {w w' : World} (h : Fr B S w w') {k : Nat} {c : Array Value} {T : TypeId} {f : Nat × Nat} (hk : w.heap[k]? = some (.cells c T f)) (hT : T ∉ S) : w'.heap[k]? = some (.cells c T f) :=
  h.keep k _ hk (fun T' hT' => by simp only [okind, Option.some.injEq] at hT'; subst hT'; exact hT)

theorem lt_of_heap {w : World} {k : Nat} {o : Obj} (h : w.heap[k]? = some o) : k < w.heap.size := by
  rcases Nat.lt_or_ge k w.heap.size with h' | h'
  · exact h'
  · rw [Array.getElem?_eq_none h'] at h; cases h

theorem Fr.setRow {B : Nat} {S : List TypeId} {a w : World} (h : Fr B S a w) {g : Nat} {old : Array Value} {T : TypeId} {f : Nat × Nat} (hg : w.heap[g]? = some (.cells old T f)) (hT : T ∈ S) (hB : B ≤ g) (cs : Array Value) : Fr B S a (w.setRow g cs) :=
  h.trans ⟨rfl, rfl, rfl, by simp, fun k hk => by rw [setRow_other _ _ _ _ (by omega)], fun k o hk ho => by
    by_cases e : k = g
    · subst e; rw [hg] at hk; cases hk; exact absurd hT (ho T rfl)
    · rw [setRow_other _ _ _ _ e]; exact hk⟩
theorem Fr.setCell {B : Nat} {S : List TypeId} {a w : World} (h : Fr B S a w) {g i : Nat} {old : Array Value} {T : TypeId} {f : Nat × Nat} (hg : w.heap[g]? = some (.cells old T f)) (hT : T ∈ S) (hB : B ≤ g) (v : Value) : Fr B S a (w.setCell ⟨g, i, none⟩ v) := by
  rw [setCell_eq_setRow w g i old T f v hg]; exact h.setRow hg hT hB _
theorem Fr.alloc {B : Nat} {S : List TypeId} {a w : World} (h : Fr B S a w) (hB : B ≤ a.heap.size) (o : Obj) : Fr B S a (w.alloc o) :=
  h.trans (Fr.below ((Below.refl _ _).alloc (Nat.le_refl _) _) (Nat.le_trans hB h.size))
theorem Fr.drew {B : Nat} {S : List TypeId} {a w : World} (h : Fr B S a w) : Fr B S a w.drew := ⟨h.os, h.tape, h.output, h.size, h.low, h.keep⟩
theorem Fr.then {B : Nat} {S : List TypeId} {a w w' : World} (h : Fr B S a w) (hB : B ≤ a.heap.size) (hb : Below w.heap.size w w') : Fr B S a w' :=
  h.trans (Fr.below hb (Nat.le_trans hB h.size))

/-- A block of cells, whole. -/
def Blk (w : World) (b : Nat) (T : TypeId) (c : List Value) : Prop := w.heap[b]? = some (.cells c.toArray T (0, 0))
theorem Blk.cell {w : World} {b : Nat} {T : TypeId} {c : List Value} (h : Blk w b T c) (o : Nat) : w.cell? ⟨b, o, none⟩ = c[o]? := by
  simp [World.cell?, show w.heap[b]? = _ from h]
theorem Blk.free {w : World} {b : Nat} {T : TypeId} {c : List Value} (h : Blk w b T c) (o : Nat) : w.frozen? ⟨b, o, none⟩ = false := by
  simp [World.frozen?, show w.heap[b]? = _ from h]
theorem Blk.lt {w : World} {b : Nat} {T : TypeId} {c : List Value} (h : Blk w b T c) : b < w.heap.size := lt_of_heap h
theorem Blk.fr {B : Nat} {S : List TypeId} {w w' : World} {b : Nat} {T : TypeId} {c : List Value} (h : Blk w b T c) (hf : Fr B S w w') (hT : T ∉ S) : Blk w' b T c := hf.cells h hT
theorem Blk.below {w w' : World} {b n : Nat} {T : TypeId} {c : List Value} (h : Blk w b T c) (hf : Below n w w') (hn : b < n) : Blk w' b T c := by
  unfold Blk; rw [hf.block b hn]; exact h
theorem Blk.ne {w : World} {b b' : Nat} {T T' : TypeId} {c c' : List Value} (h : Blk w b T c) (h' : Blk w b' T' c') (hT : T ≠ T') : b ≠ b' := by
  rintro rfl
  have := Option.some.inj ((show w.heap[b]? = _ from h).symm.trans h')
  injection this with _ e _; exact hT e

theorem bcell {W w1 : World} {B : Nat} (hb : Below B W w1) : (∀ b o, b < B → w1.cell? ⟨b, o, none⟩ = W.cell? ⟨b, o, none⟩) ∧ (∀ b o, b < B → w1.frozen? ⟨b, o, none⟩ = W.frozen? ⟨b, o, none⟩) :=
  ⟨fun b o h => hb.cell (p := ⟨b, o, none⟩) h, fun b o h => hb.frozen (p := ⟨b, o, none⟩) h⟩

theorem Below.drewN' {B : Nat} {a w : World} (h : Below B a w) (n : Nat) : Below B a (w.drewN n) := ⟨h.os, h.tape, h.output, h.size, h.block⟩

end Go.Proofs.YtnieambhpmnliaaDoor
