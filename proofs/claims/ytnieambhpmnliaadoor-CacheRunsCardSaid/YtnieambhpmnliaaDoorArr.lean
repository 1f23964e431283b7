/- The lines of a cache (array): entries and sets in memory; home, find, free. -/
import Derived.Test.YtnieambhpmnliaaDoorMiss6
namespace Go.Proofs.YtnieambhpmnliaaDoor
set_option linter.all false
set_option linter.unusedVariables false
set_option linter.unusedSimpArgs false
open Go Go.RowKit

/-- An entry. -/
structure Ent where
  line : Int
  state : Int
  mode : Int
  epoch : Int
  d0 : Int
  d1 : Int
  d2 : Int
  d3 : Int
  held : Bool
  fresh : Bool
  deriving DecidableEq
def Ent.zero : Ent := ⟨0, 0, 0, 0, 0, 0, 0, 0, false, false⟩
def Ent.cells (e : Ent) : List Value := [.int .i64 e.line, .int .i64 e.state, .int .i64 e.mode, .int .i64 e.epoch, .int .u32 e.d0, .int .u32 e.d1, .int .u32 e.d2, .int .u32 e.d3, .bool e.held, .bool e.fresh]
def Ent.val (e : Ent) : Value := .agg #[.int .i64 e.line, .int .i64 e.state, .int .i64 e.mode, .int .i64 e.epoch, .int .u32 e.d0, .int .u32 e.d1, .int .u32 e.d2, .int .u32 e.d3, .bool e.held, .bool e.fresh]

def entCells (es : List Ent) : List Value := es.flatMap Ent.cells
theorem entCells_cons (e : Ent) (es : List Ent) : entCells (e :: es) = e.cells ++ entCells es := by simp [entCells]
theorem entCells_length (es : List Ent) : (entCells es).length = es.length * 10 := by
  induction es with
  | nil => rfl
  | cons a l ih => rw [entCells_cons, List.length_append, ih]; simp [Ent.cells]; omega
theorem entCells_get (es : List Ent) (k j : Nat) (h : k < es.length) (hj : j < 10) : (entCells es)[k * 10 + j]? = es[k].cells[j]? := by
  induction es generalizing k with
  | nil => simp at h
  | cons a l ih =>
    rw [entCells_cons]
    cases k with
    | zero => rw [List.getElem?_append_left (by simp [Ent.cells]; omega)]; simp
    | succ k =>
      rw [List.getElem?_append_right (by simp [Ent.cells]; omega)]
      have : (k + 1) * 10 + j - a.cells.length = k * 10 + j := by simp [Ent.cells]; omega
      rw [this, ih k (by simpa using h)]; simp

/-- The ten cells of an entry in memory. -/
structure EntAt (w : World) (b o : Nat) (e : Ent) : Prop where
  c0 : w.cell? ⟨b, o, none⟩ = some (.int .i64 e.line)
  c1 : w.cell? ⟨b, o + 1, none⟩ = some (.int .i64 e.state)
  c2 : w.cell? ⟨b, o + 2, none⟩ = some (.int .i64 e.mode)
  c3 : w.cell? ⟨b, o + 3, none⟩ = some (.int .i64 e.epoch)
  c4 : w.cell? ⟨b, o + 4, none⟩ = some (.int .u32 e.d0)
  c5 : w.cell? ⟨b, o + 5, none⟩ = some (.int .u32 e.d1)
  c6 : w.cell? ⟨b, o + 6, none⟩ = some (.int .u32 e.d2)
  c7 : w.cell? ⟨b, o + 7, none⟩ = some (.int .u32 e.d3)
  c8 : w.cell? ⟨b, o + 8, none⟩ = some (.bool e.held)
  c9 : w.cell? ⟨b, o + 9, none⟩ = some (.bool e.fresh)
theorem entAt {w : World} {b : Nat} {es : List Ent} (h : Blk w b 69 (entCells es)) (k : Nat) (hk : k < es.length) : EntAt w b (k * 10) es[k] := by
  have g : ∀ j, j < 10 → w.cell? ⟨b, k * 10 + j, none⟩ = es[k].cells[j]? := fun j hj => (h.cell _).trans (entCells_get es k j hk hj)
  exact ⟨g 0 (by omega), g 1 (by omega), g 2 (by omega), g 3 (by omega), g 4 (by omega), g 5 (by omega), g 6 (by omega), g 7 (by omega), g 8 (by omega), g 9 (by omega)⟩

def isLine (line : Int) (e : Ent) : Bool := e.state != 0 && e.line == line
def isFree (e : Ent) : Bool := e.state == 0

set_option maxHeartbeats 400000 in
theorem find1_calls (x : Ent) (line : Int) (bc : Nat) (w : World) (hb : w.cell? ⟨bc, 0, none⟩ = some (.int .i64 line)) :
    Calls Tryd.prog 74 #[x.val, .pointer (some ⟨bc, 0, none⟩)] w fun e w' => e = .returned (.bool (isLine line x)) ∧ Below w.heap.size w w' := by
  obtain ⟨x0, x1, x2, x3, x4, x5, x6, x7, x8, x9⟩ := x
  have hlt := World.block_lt_of_cell? w _ hb
  have hne : bc ≠ w.heap.size := Nat.ne_of_lt hlt
  have hb' := (World.cell?_alloc_lt w (.cells (Ent.cells ⟨x0, x1, x2, x3, x4, x5, x6, x7, x8, x9⟩).toArray 69) ⟨bc, 0, none⟩ hlt).trans hb
  simp only [Ent.cells, Ent.val] at hb' ⊢
  go_enter Tryd.func74, Tryd.ntmps74
  go_wp2
  all_goals (go_ret; refine ⟨ret_bool ?_, (Below.refl _ _).alloc (Nat.le_refl _) _⟩; simp_all [isLine])

set_option maxHeartbeats 400000 in
theorem free1_calls (x : Ent) (w : World) :
    Calls Tryd.prog 75 #[x.val] w fun e w' => e = .returned (.bool (isFree x)) ∧ Below w.heap.size w w' := by
  obtain ⟨x0, x1, x2, x3, x4, x5, x6, x7, x8, x9⟩ := x
  simp only [Ent.val]
  go_enter Tryd.func75, Tryd.ntmps75
  go_wp2
  go_ret
  exact ⟨rfl, (Below.refl _ _).alloc (Nat.le_refl _) _⟩

set_option maxHeartbeats 1000000 in
theorem index_line (es : List Ent) (line : Int) (wb cap bc : Nat) (w : World) (hlen : es.length ≤ 1000) (h : Blk w wb 69 (entCells es))
    (hb : w.cell? ⟨bc, 0, none⟩ = some (.int .i64 line)) :
    Calls Tryd.prog 73 #[.slice (some ⟨wb, 0, none⟩) es.length cap, .func (.func 74) #[] #[.pointer (some ⟨bc, 0, none⟩)]] w
      fun e w' => e = .returned (.int .i64 (idxP (isLine line) es)) ∧ Below w.heap.size w w' := by
  have hbl := World.block_lt_of_cell? w _ hb
  have HB := Lib.hid h
  clear h
  go_enter Tryd.func73, Tryd.ntmps73
  go_wp2
  go_loopw [8] (fun i wr => ∃ k : Nat, k ≤ es.length ∧ i = .int .i64 k ∧ Below w.heap.size w wr ∧ Hid (∀ j (hj : j < k) (hl : j < es.length), isLine line es[j] = false)) (fun i _ => es.length - (intOf i).toNat)
  case atStart => exact ⟨0, Nat.zero_le _, rfl, Below.refl _ _, fun j hj => by omega⟩
  case round =>
    obtain ⟨k, hk, rfl, hbel, hno⟩ := hrel
    by_cases hlt : k < es.length
    · have hl := HB.out.lt
      obtain ⟨c0, c1, c2, c3, c4, c5, c6, c7, c8, c9⟩ := entAt (HB.out.below hbel hl) k hlt
      have gb := (hbel.cell (p := ⟨bc, 0, none⟩) hbl).trans hb
      have HC := fun w1 (hh : w1.cell? ⟨bc, 0, none⟩ = some (.int .i64 line)) => find1_calls es[k] line bc w1 hh
      simp only [Ent.val] at HC
      cases hq : isLine line es[k]
      · go_wp2_with (go_at_call 74; refine (HC _ gb).mono ?_; rintro e w1 ⟨rfl, hb1⟩; rw [hq])
        go_roundw
        case rel =>
          refine ⟨k + 1, by omega, by go_num, hbel.trans (hb1.mono hbel.size), fun j hj hl => ?_⟩
          by_cases e : j = k
          · subst e; exact hq
          · exact hno j (by omega) hl
        case measure => simp [intOf]; omega
      · go_wp2_with (go_at_call 74; refine (HC _ gb).mono ?_; rintro e w1 ⟨rfl, hb1⟩; rw [hq])
        go_ret
        exact ⟨ret_int (idxP_at hlt hq (fun j hj => hno j hj (by omega))).symm, hbel.trans (hb1.mono hbel.size)⟩
    · have : k = es.length := by omega
      subst this
      go_wp2
      go_ret
      exact ⟨ret_int (idxP_none (fun j hj => hno j hj hj)).symm, hbel⟩

set_option maxHeartbeats 1000000 in
theorem index_free (es : List Ent) (wb cap : Nat) (w : World) (hlen : es.length ≤ 1000) (h : Blk w wb 69 (entCells es)) :
    Calls Tryd.prog 73 #[.slice (some ⟨wb, 0, none⟩) es.length cap, .func (.func 75) #[] #[]] w
      fun e w' => e = .returned (.int .i64 (idxP isFree es)) ∧ Below w.heap.size w w' := by
  have HB := Lib.hid h
  clear h
  go_enter Tryd.func73, Tryd.ntmps73
  go_wp2
  go_loopw [8] (fun i wr => ∃ k : Nat, k ≤ es.length ∧ i = .int .i64 k ∧ Below w.heap.size w wr ∧ Hid (∀ j (hj : j < k) (hl : j < es.length), isFree es[j] = false)) (fun i _ => es.length - (intOf i).toNat)
  case atStart => exact ⟨0, Nat.zero_le _, rfl, Below.refl _ _, fun j hj => by omega⟩
  case round =>
    obtain ⟨k, hk, rfl, hbel, hno⟩ := hrel
    by_cases hlt : k < es.length
    · have hl := HB.out.lt
      obtain ⟨c0, c1, c2, c3, c4, c5, c6, c7, c8, c9⟩ := entAt (HB.out.below hbel hl) k hlt
      have HC := fun w1 => free1_calls es[k] w1
      simp only [Ent.val] at HC
      cases hq : isFree es[k]
      · go_wp2_with (go_at_call 75; refine (HC _).mono ?_; rintro e w1 ⟨rfl, hb1⟩; rw [hq])
        go_roundw
        case rel =>
          refine ⟨k + 1, by omega, by go_num, hbel.trans (hb1.mono hbel.size), fun j hj hl => ?_⟩
          by_cases e : j = k
          · subst e; exact hq
          · exact hno j (by omega) hl
        case measure => simp [intOf]; omega
      · go_wp2_with (go_at_call 75; refine (HC _).mono ?_; rintro e w1 ⟨rfl, hb1⟩; rw [hq])
        go_ret
        exact ⟨ret_int (idxP_at hlt hq (fun j hj => hno j hj (by omega))).symm, hbel.trans (hb1.mono hbel.size)⟩
    · have : k = es.length := by omega
      subst this
      go_wp2
      go_ret
      exact ⟨ret_int (idxP_none (fun j hj => hno j hj hj)).symm, hbel⟩

end Go.Proofs.YtnieambhpmnliaaDoor
