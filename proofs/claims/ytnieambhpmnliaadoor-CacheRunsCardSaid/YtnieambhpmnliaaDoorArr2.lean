/- The lines of a cache (array): the sets in memory; home, find, Get. -/
import Derived.Test.YtnieambhpmnliaaDoorArr
namespace Go.Proofs.YtnieambhpmnliaaDoor
set_option linter.all false
set_option linter.unusedVariables false
set_option linter.unusedSimpArgs false
open Go Go.RowKit

section
variable {P : Program} {ops : Array Oper} {rest : List Oper} {o : Oper} {a : Act} {w : World} {Q : Exit → Act → World → Prop}
theorem run_store_agg (ty : TypeId) (g off : Nat) (e : TypeId) (cells : List Value) (hs : (P.info? ty).map (·.size) = some cells.length)
    (cur : List Value) (hb : Blk w g e cur) (h1 : ∀ u ∈ cells, u.oneCell' = true) (hfit : off + cells.length ≤ cur.length) :
    (storeVar ty ⟨g, off, none⟩ (.agg cells.toArray)).run P w = .ok () (w.setRow g (cur.take off ++ cells ++ cur.drop (off + cells.length)).toArray) := by
  obtain ⟨i, hi, hi1⟩ := Option.map_eq_some_iff.1 hs
  have hst := run_storeCells_at P g off e cells 0 cur.toArray w hb (by simpa using hfit) h1
  simp only [Nat.add_zero] at hst
  simp [storeVar, sizeOf, typeInfo, hi, hi1, Value.cells, hst]
/-- A struct into a block. -/
theorem wl_store (hg : o.guard = none) (x y : Operand) (ty : TypeId) (ho : o.op = .store ty x y) (g off : Nat) (e : TypeId) (cells : List Value)
    (hx : a.eval x = .pointer (some ⟨g, off, none⟩)) (hy : a.eval y = .agg cells.toArray) (hs : (P.info? ty).map (·.size) = some cells.length)
    (cur : List Value) (hb : Blk w g e cur) (h1 : ∀ u ∈ cells, u.oneCell' = true) (hfit : off + cells.length ≤ cur.length)
    (hk : ∀ w1, Only g w w1 → Blk w1 g e (cur.take off ++ cells ++ cur.drop (off + cells.length)) → wpList P ops Q rest (a.put o.dst undef) w1) :
    wpList P ops Q (o :: rest) a w :=
  wpList_plain hg fun K hK => by
    unfold Oper.wp execOp
    simp only [ho, hx, hy, Instr.storeAt, Instr.sureAddr, Sem.run_bind, Sem.run_pure, Result.andThen_ok, run_store_agg ty g off e cells hs cur hb h1 hfit]
    exact hK _ _ (hk _ (Only.setRow _ _ _) hb.setRow)
theorem step_store {K : Act → World → Prop} {E : Prop} (hg : o.guard = none) (x y : Operand) (ty : TypeId) (ho : o.op = .store ty x y) (g off : Nat) (e : TypeId) (cells : List Value)
    (hx : a.eval x = .pointer (some ⟨g, off, none⟩)) (hy : a.eval y = .agg cells.toArray) (hs : (P.info? ty).map (·.size) = some cells.length)
    (cur : List Value) (hb : Blk w g e cur) (h1 : ∀ u ∈ cells, u.oneCell' = true) (hfit : off + cells.length ≤ cur.length)
    (hK : K (a.put o.dst undef) (w.setRow g (cur.take off ++ cells ++ cur.drop (off + cells.length)).toArray)) :
    if Region.wanted o (yielded ops a.tmps) = true then Oper.wp P o a w K Q else E := by
  rw [if_pos (by simp [Region.wanted, hg])]
  unfold Oper.wp execOp
  simp only [ho, hx, hy, Instr.storeAt, Instr.sureAddr, Sem.run_bind, Sem.run_pure, Result.andThen_ok, run_store_agg ty g off e cells hs cur hb h1 hfit]
  exact hK
end
theorem entSize : (Tryd.prog.info? 69).map (·.size) = some 10 := by kernel_rfl
theorem entCells_one (e : Ent) : ∀ u ∈ e.cells, u.oneCell' = true := by
  intro u hu
  simp [Ent.cells] at hu
  rcases hu with rfl | rfl | rfl | rfl | rfl | rfl | rfl | rfl | rfl | rfl <;> rfl
theorem entAt0 {w : World} {b : Nat} {e : Ent} (h : Blk w b 69 e.cells) : EntAt w b 0 e := by
  have := entAt (es := [e]) (k := 0) (w := w) (b := b) (by rw [entCells_cons]; simpa [entCells] using h) (by simp)
  simpa using this

abbrev Sets := List (Int × List Ent)
def setCells : Sets → List Nat → List Value
  | s :: A, b :: wbs => .int .u8 s.1 :: .slice (some ⟨b, 0, none⟩) s.2.length s.2.length :: setCells A wbs
  | _, _ => []
theorem setCells_get (A : Sets) (wbs : List Nat) (i : Nat) (h : i < A.length) (h' : i < wbs.length) :
    (setCells A wbs)[i * 2]? = some (.int .u8 A[i].1) ∧ (setCells A wbs)[i * 2 + 1]? = some (.slice (some ⟨wbs[i], 0, none⟩) A[i].2.length A[i].2.length) := by
  induction A generalizing wbs i with
  | nil => simp at h
  | cons s A ih =>
    cases wbs with
    | nil => simp at h'
    | cons b wbs =>
      cases i with
      | zero => simp [setCells]
      | succ i =>
        have := ih wbs i (by simpa using h) (by simpa using h')
        have e1 : (i + 1) * 2 = i * 2 + 2 := by omega
        have e2 : (i + 1) * 2 + 1 = (i * 2 + 1) + 2 := by omega
        rw [e2, e1]
        simpa [setCells] using this
theorem setCells_length (A : Sets) (wbs : List Nat) (h : wbs.length = A.length) : (setCells A wbs).length = A.length * 2 := by
  induction A generalizing wbs with
  | nil => simp [setCells]
  | cons s A ih =>
    cases wbs with
    | nil => simp at h
    | cons b wbs => simp [setCells, ih wbs (by simpa using h)]; omega

/-- An array of sets in memory: its block, the sets' block, each set's block of entries. -/
structure ArrR (B : Nat) (w : World) (ab sb : Nat) (wbs : List Nat) (A : Sets) : Prop where
  hab : B ≤ ab
  hsb : B ≤ sb
  len : wbs.length = A.length
  ba : Blk w ab 90 [.slice (some ⟨sb, 0, none⟩) A.length A.length]
  bs : Blk w sb 92 (setCells A wbs)
  bw : ∀ i (h : i < A.length) (h' : i < wbs.length), B ≤ wbs[i] ∧ Blk w wbs[i] 69 (entCells A[i].2)
  nd : wbs.Nodup
theorem ArrR.below {B} {w w' : World} {ab sb wbs A} (h : ArrR B w ab sb wbs A) (hb : Below w.heap.size w w') : ArrR B w' ab sb wbs A :=
  ⟨h.hab, h.hsb, h.len, h.ba.below hb h.ba.lt, h.bs.below hb h.bs.lt, fun i hi hi' => ⟨(h.bw i hi hi').1, (h.bw i hi hi').2.below hb (h.bw i hi hi').2.lt⟩, h.nd⟩
theorem ArrR.fr {B B' S} {w w' : World} {ab sb wbs A} (h : ArrR B w ab sb wbs A) (hb : Fr B' S w w') (h1 : 90 ∉ S) (h2 : 92 ∉ S) (h3 : 69 ∉ S) : ArrR B w' ab sb wbs A :=
  ⟨h.hab, h.hsb, h.len, h.ba.fr hb h1, h.bs.fr hb h2, fun i hi hi' => ⟨(h.bw i hi hi').1, (h.bw i hi hi').2.fr hb h3⟩, h.nd⟩

structure EOk (e : Ent) : Prop where
  line : 0 ≤ e.line ∧ e.line ≤ 31
  state : 1 ≤ e.state ∧ e.state ≤ 4
  mode : 0 ≤ e.mode ∧ e.mode ≤ 3
  epoch : 0 ≤ e.epoch ∧ e.epoch ≤ 255
/-- What an array may be. -/
structure AOk (n k : Nat) (A : Sets) : Prop where
  len : A.length = n
  pn : power n 8 = true
  pk : power k 8 = true
  ways : ∀ s ∈ A, s.2.length = k
  bits : ∀ s ∈ A, 0 ≤ s.1 ∧ s.1 ≤ 255
  ents : ∀ s ∈ A, ∀ e ∈ s.2, e.state ≠ 0 → EOk e

def setNo (A : Sets) (line : Int) : Nat := (line % (A.length : Int)).toNat
def waysOf (A : Sets) (line : Int) : List Ent := (A.getD (setNo A line) (0, [])).2
theorem setNo_lt {n k A line} (h : AOk n k A) : setNo A line < A.length := by
  have h1 := power_lo h.pn
  have := h.len
  unfold setNo
  have h2 := Int.emod_lt_of_pos line (b := (A.length : Int)) (by omega)
  have h3 := Int.emod_nonneg line (b := (A.length : Int)) (by omega)
  omega
theorem gset_of {n k A line} (h : AOk n k A) (hl : within line 0 31 = true) : gset line (A.length : Int) = (setNo A line : Int) := by
  have h1 := power_lo h.pn
  have hl' := h.len
  have h3 := Int.emod_nonneg line (b := (A.length : Int)) (by omega)
  unfold gset setNo
  rw [hl, show power (A.length : Int) 8 = true by rw [hl']; exact h.pn]
  simp; omega
theorem waysOf_eq {A : Sets} {line : Int} (h : setNo A line < A.length) : waysOf A line = A[setNo A line].2 := by
  unfold waysOf
  rw [List.getD_eq_getElem?_getD, List.getElem?_eq_getElem h]; rfl
def bitsOf (A : Sets) (line : Int) : Int := (A.getD (setNo A line) (0, [])).1
theorem bitsOf_eq {A : Sets} {line : Int} (h : setNo A line < A.length) : bitsOf A line = A[setNo A line].1 := by
  unfold bitsOf
  rw [List.getD_eq_getElem?_getD, List.getElem?_eq_getElem h]; rfl
def wbOf (wbs : List Nat) (A : Sets) (line : Int) : Nat := wbs.getD (setNo A line) 0
/-- A line's row, in memory. -/
structure RowAt (B : Nat) (w : World) (sb wb i : Nat) (bits : Int) (es : List Ent) : Prop where
  cb : w.cell? ⟨sb, i * 2, none⟩ = some (.int .u8 bits)
  cw : w.cell? ⟨sb, i * 2 + 1, none⟩ = some (.slice (some ⟨wb, 0, none⟩) es.length es.length)
  bw : Blk w wb 69 (entCells es)
  hB : B ≤ wb
  lo : 1 ≤ es.length
  hi : es.length ≤ 8
  b0 : 0 ≤ bits
  b1 : bits ≤ 255
theorem ArrR.row {B w ab sb wbs n k A} (h : ArrR B w ab sb wbs A) (hok : AOk n k A) (line : Int) : RowAt B w sb (wbOf wbs A line) (setNo A line) (bitsOf A line) (waysOf A line) := by
  have hs := setNo_lt (line := line) hok
  have hs' : setNo A line < wbs.length := by rw [h.len]; exact hs
  have e : wbOf wbs A line = wbs[setNo A line] := by unfold wbOf; rw [List.getD_eq_getElem?_getD, List.getElem?_eq_getElem hs']; rfl
  have hw := hok.ways _ (List.getElem_mem hs)
  have h1 := power_lo hok.pk
  have h2 := power_hi hok.pk
  have hb := hok.bits _ (List.getElem_mem hs)
  rw [e, waysOf_eq hs, bitsOf_eq hs]
  have g := setCells_get A wbs _ hs hs'
  exact ⟨(h.bs.cell _).trans g.1, (h.bs.cell _).trans g.2, (h.bw _ hs hs').2, (h.bw _ hs hs').1, by omega, by omega, hb.1, hb.2⟩

set_option maxHeartbeats 400000 in
theorem home_calls (B : Nat) (n k : Nat) (A : Sets) (line : Int) (ab sb : Nat) (wbs : List Nat) (w : World) (hok : AOk n k A) (h : ArrR B w ab sb wbs A) (hl : within line 0 31 = true) :
    Calls Tryd.prog 72 #[.pointer (some ⟨ab, 0, none⟩), .int .i64 line] w fun e w' => e = .returned (.pointer (some ⟨sb, setNo A line * 2, none⟩)) ∧ w = w' := by
  have c0 := h.ba.cell 0
  simp at c0
  have hg := gset_of hok hl
  have hs := setNo_lt (line := line) hok
  clear h hok
  generalize setNo A line = i at hg hs ⊢
  generalize A.length = m at c0 hg hs ⊢
  go_enter Tryd.func72, Tryd.ntmps72
  go_wp2_with (go_at_call 50; refine (gset_calls _ _ _).mono ?_; rintro e w' ⟨rfl, rfl⟩; rw [hg])
  go_ret
  exact ⟨rfl, rfl⟩

set_option maxHeartbeats 400000 in
theorem home_none (B : Nat) (A : Sets) (line : Int) (ab sb : Nat) (wbs : List Nat) (w : World) (h : ArrR B w ab sb wbs A) (hl : within line 0 31 = false) :
    Calls Tryd.prog 72 #[.pointer (some ⟨ab, 0, none⟩), .int .i64 line] w fun e w' => e = .returned (.pointer none) ∧ w = w' := by
  have c0 := h.ba.cell 0
  simp at c0
  have hg : gset line (A.length : Int) = -1 := by unfold gset; rw [hl]; simp
  clear h
  generalize A.length = m at c0 hg ⊢
  go_enter Tryd.func72, Tryd.ntmps72
  go_wp2_with (go_at_call 50; refine (gset_calls _ _ _).mono ?_; rintro e w' ⟨rfl, rfl⟩; rw [hg])
  go_ret
  exact ⟨rfl, rfl⟩

set_option maxHeartbeats 400000 in
theorem find_calls (B : Nat) (n k : Nat) (A : Sets) (line : Int) (ab sb : Nat) (wbs : List Nat) (w : World) (hok : AOk n k A) (h : ArrR B w ab sb wbs A) (hl : within line 0 31 = true) :
    Calls Tryd.prog 49 #[.pointer (some ⟨ab, 0, none⟩), .int .i64 line] w fun e w' => e = .returned (.tuple #[.pointer (some ⟨sb, setNo A line * 2, none⟩), .int .i64 (idxP (isLine line) (waysOf A line))]) ∧ Below w.heap.size w w' := by
  have h' := h.below ((Below.refl w.heap.size w).alloc (Nat.le_refl _) (.cells #[.int .i64 line] 3))
  have hc := home_calls B n k A line ab sb wbs _ hok h' hl
  have hr := h'.row hok line
  clear h h' hok
  generalize setNo A line = i at hc hr ⊢
  generalize waysOf A line = es at hr ⊢
  generalize bitsOf A line = bits at hr
  generalize wbOf wbs A line = wb at hr
  have c1 := hr.cw
  have h8 := hr.hi
  have hix := fun (bc : Nat) (w1 : World) (hh : w1.cell? ⟨bc, 0, none⟩ = some (.int .i64 line)) (hb1 : Blk w1 wb 69 (entCells es)) =>
    index_line es line wb es.length bc w1 (by omega) hb1 hh
  have HW := Lib.hid hr.bw
  clear hr
  go_enter Tryd.func49, Tryd.ntmps49
  go_wp2_with (first | (go_at_call 72; refine hc.mono ?_; rintro e w' ⟨rfl, rfl⟩) | (go_at_call 73; refine (hix w.heap.size _ (by simp) HW.out).mono ?_; rintro e w1 ⟨rfl, hb1⟩))
  go_ret2
  exact ⟨rfl, ((Below.refl _ _).alloc (Nat.le_refl _) _).trans (hb1.mono (by simp))⟩

set_option maxHeartbeats 400000 in
theorem find_none (B : Nat) (A : Sets) (line : Int) (ab sb : Nat) (wbs : List Nat) (w : World) (h : ArrR B w ab sb wbs A) (hl : within line 0 31 = false) :
    Calls Tryd.prog 49 #[.pointer (some ⟨ab, 0, none⟩), .int .i64 line] w fun e w' => e = .returned (.tuple #[.pointer none, .int .i64 (-1)]) ∧ Below w.heap.size w w' := by
  have h' := h.below ((Below.refl w.heap.size w).alloc (Nat.le_refl _) (.cells #[.int .i64 line] 3))
  have hc := home_none B A line ab sb wbs _ h' hl
  clear h h'
  go_enter Tryd.func49, Tryd.ntmps49
  go_wp2_with (first | (go_at_call 72; refine hc.mono ?_; rintro e w' ⟨rfl, rfl⟩) | fail)
  go_ret2
  exact ⟨rfl, (Below.refl _ _).alloc (Nat.le_refl _) _⟩

/-- What stands at a line. -/
def getA (A : Sets) (line : Int) : Option Ent := if within line 0 31 then (waysOf A line).find? (isLine line) else none
def getV (A : Sets) (line : Int) : Value := .tuple #[((getA A line).getD .zero).val, .bool (getA A line).isSome]

set_option maxHeartbeats 1000000 in
theorem aget_some (B : Nat) (n k : Nat) (A : Sets) (line : Int) (ab sb : Nat) (wbs : List Nat) (w : World) (hok : AOk n k A) (h : ArrR B w ab sb wbs A) (hl : within line 0 31 = true) (j : Nat) (hj : j < (waysOf A line).length)
    (hi : idxP (isLine line) (waysOf A line) = j) :
    Calls Tryd.prog 26 #[.pointer (some ⟨ab, 0, none⟩), .int .i64 line] w fun e w' => e = .returned (.tuple #[(waysOf A line)[j].val, .bool true]) ∧ Below w.heap.size w w' := by
  have hba := (Below.refl w.heap.size w).alloc (Nat.le_refl _) (.cells Ent.zero.cells.toArray 69)
  have h' := h.below hba
  have hc := find_calls B n k A line ab sb wbs _ hok h' hl
  rw [hi] at hc
  have HR := Lib.hid (fun w1 (h1 : ArrR B w1 ab sb wbs A) => h1.row hok line)
  have H' := Lib.hid h'
  clear h h' hok hi
  generalize setNo A line = i at HR hc ⊢
  generalize waysOf A line = es at HR hj ⊢
  generalize bitsOf A line = bits at HR
  generalize wbOf wbs A line = wb at HR
  have HC := Lib.hid hc
  clear hc
  simp only [Ent.cells, Ent.zero, Ent.val] at HC H' hba ⊢
  go_enter Tryd.func26, Tryd.ntmps26
  go_wp2_with fail
  refine HC.out.mono ?_; rintro e w1 ⟨rfl, hb1⟩
  have hr := HR.out _ (H'.out.below hb1)
  have c1 := hr.cw
  have h8 := hr.hi
  obtain ⟨k0, k1, k2, k3, k4, k5, k6, k7, k8, k9⟩ := entAt hr.bw j hj
  clear hr
  have hres : Blk w1 w.heap.size 69 Ent.zero.cells := by
    have := heap_alloc_new w (.cells Ent.zero.cells.toArray 69)
    exact Blk.below (n := (w.alloc (.cells Ent.zero.cells.toArray 69)).heap.size) this hb1 (by simp)
  have HRES := Lib.hid hres
  clear hres
  go_wp2_with (refine wl_store rfl (.tmp 4) (.tmp 23) 69 rfl w.heap.size 0 69 es[j].cells rfl rfl entSize _ HRES.out (entCells_one _) ?d1 ?d2)
  case d1 => simp [Ent.cells, Ent.zero]
  case d2 =>
    intro w2 ho2 hblk
    have hb2 : Blk w2 w.heap.size 69 es[j].cells := by simpa [Ent.cells, Ent.zero] using hblk
    obtain ⟨r0, r1, r2, r3, r4, r5, r6, r7, r8, r9⟩ := entAt0 hb2
    simp only [Nat.zero_add] at r1 r2 r3 r4 r5 r6 r7 r8 r9
    clear hblk hb2 k0 k1 k2 k3 k4 k5 k6 k7 k8 k9
    go_wp2
    refine bodyPost_ret (v := .tuple #[es[j].val, .bool true]) (by simp [results, Tryd.results26, go_sem, Ent.val, r0, r1, r2, r3, r4, r5, r6, r7, r8, r9]) rfl ⟨rfl, ?_⟩
    exact hba.trans ((hb1.mono (by simp)).trans ho2.below)

set_option maxHeartbeats 1000000 in
theorem aget_none (ab : Nat) (line : Int) (p : Value) (w : World)
    (hc : ∀ w1 : World, Below w.heap.size w w1 → Calls Tryd.prog 49 #[.pointer (some ⟨ab, 0, none⟩), .int .i64 line] w1 fun e w' => e = .returned (.tuple #[p, .int .i64 (-1)]) ∧ Below w1.heap.size w1 w') :
    Calls Tryd.prog 26 #[.pointer (some ⟨ab, 0, none⟩), .int .i64 line] w fun e w' => e = .returned (.tuple #[Ent.zero.val, .bool false]) ∧ Below w.heap.size w w' := by
  have hba := (Below.refl w.heap.size w).alloc (Nat.le_refl _) (.cells Ent.zero.cells.toArray 69)
  have HC := Lib.hid (hc _ hba)
  clear hc
  simp only [Ent.cells, Ent.zero, Ent.val] at HC hba ⊢
  go_enter Tryd.func26, Tryd.ntmps26
  go_wp2_with fail
  refine HC.out.mono ?_; rintro e w1 ⟨rfl, hb1⟩
  have hres : Blk w1 w.heap.size 69 Ent.zero.cells := by
    have := heap_alloc_new w (.cells Ent.zero.cells.toArray 69)
    exact Blk.below (n := (w.alloc (.cells Ent.zero.cells.toArray 69)).heap.size) this hb1 (by simp)
  have HRES := Lib.hid hres
  clear hres
  go_wp2_with (refine wl_store rfl (.tmp 4) (.tmp 16) 69 rfl w.heap.size 0 69 Ent.zero.cells rfl rfl entSize _ HRES.out (entCells_one _) ?d1 ?d2)
  case d1 => simp [Ent.cells, Ent.zero]
  case d2 =>
    intro w2 ho2 hblk
    have hb2 : Blk w2 w.heap.size 69 Ent.zero.cells := by simpa [Ent.cells, Ent.zero] using hblk
    obtain ⟨r0, r1, r2, r3, r4, r5, r6, r7, r8, r9⟩ := entAt0 hb2
    simp only [Nat.zero_add, Ent.zero] at r0 r1 r2 r3 r4 r5 r6 r7 r8 r9
    clear hblk hb2
    go_wp2
    refine bodyPost_ret (v := .tuple #[Ent.zero.val, .bool false]) (by simp [results, Tryd.results26, go_sem, Ent.val, Ent.zero, r0, r1, r2, r3, r4, r5, r6, r7, r8, r9]) rfl ⟨rfl, ?_⟩
    exact hba.trans ((hb1.mono (by simp)).trans ho2.below)

theorem aget_calls (B : Nat) (n k : Nat) (A : Sets) (line : Int) (ab sb : Nat) (wbs : List Nat) (w : World) (hok : AOk n k A) (h : ArrR B w ab sb wbs A) :
    Calls Tryd.prog 26 #[.pointer (some ⟨ab, 0, none⟩), .int .i64 line] w fun e w' => e = .returned (getV A line) ∧ Below w.heap.size w w' := by
  unfold getV getA
  cases hl : within line 0 31
  · exact aget_none ab line (.pointer none) w (fun w1 hb => find_none B A line ab sb wbs w1 (h.below hb) hl)
  · rcases idxP_cases (isLine line) (waysOf A line) with ⟨hi, hf, _⟩ | ⟨j, hj, hi, hp, hf, _⟩
    · simp only [hf, if_true, Option.getD_none, Option.isSome_none]
      exact aget_none ab line (.pointer (some ⟨sb, setNo A line * 2, none⟩)) w (fun w1 hb => by have := find_calls B n k A line ab sb wbs w1 hok (h.below hb) hl; rwa [hi] at this)
    · simp only [hf, if_true, Option.getD_some, Option.isSome_some]
      exact aget_some B n k A line ab sb wbs w hok h hl j hj hi

end Go.Proofs.YtnieambhpmnliaaDoor
