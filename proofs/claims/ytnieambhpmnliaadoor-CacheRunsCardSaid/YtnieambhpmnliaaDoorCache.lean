/- A cache in memory; Peek, Entries, Misses, usable, used, Read, Write. -/
import Derived.Test.YtnieambhpmnliaaDoorArr7
namespace Go.Proofs.YtnieambhpmnliaaDoor
set_option linter.all false
set_option linter.unusedVariables false
set_option linter.unusedSimpArgs false
open Go Go.RowKit

/-- What a cache holds. -/
structure Ca where
  core : Int
  n : Nat
  k : Nat
  most : Int
  A : Sets
  M : List (Int × Int)
structure COk (c : Ca) : Prop where
  a : AOk c.n c.k c.A
  m : MOk c.most c.M
/-- A cache in memory. -/
structure CR (B : Nat) (w : World) (cb ab sb tb : Nat) (wbs L : List Nat) (c : Ca) : Prop where
  hB : B ≤ cb
  bc : Blk w cb 61 [.int .i64 c.core, .int .i64 c.n, .pointer (some ⟨ab, 0, none⟩), .pointer (some ⟨tb, 0, none⟩)]
  ar : ArrR B w ab sb wbs c.A
  tab : TabB B L w tb c.most c.M
  ok : COk c
/-- A cache in memory, and all blocks that it is made of. -/
def CAt (B : Nat) (w : World) (cb : Nat) (c : Ca) (F : List Nat) : Prop := ∃ ab sb tb wbs L, CR B w cb ab sb tb wbs L c ∧ F = cb :: ab :: sb :: (wbs ++ L)
theorem CR.below {B w w' cb ab sb tb wbs L c} (h : CR B w cb ab sb tb wbs L c) (hb : Below w.heap.size w w') : CR B w' cb ab sb tb wbs L c :=
  ⟨h.hB, h.bc.below hb h.bc.lt, h.ar.below hb, h.tab.below hb, h.ok⟩
theorem CAt.below {B w w' cb c F} (h : CAt B w cb c F) (hb : Below w.heap.size w w') : CAt B w' cb c F := by
  obtain ⟨ab, sb, tb, wbs, L, h, e⟩ := h
  exact ⟨ab, sb, tb, wbs, L, h.below hb, e⟩
theorem CAt.all {B w cb c F} (h : CAt B w cb c F) : ∀ b ∈ F, B ≤ b := by
  obtain ⟨ab, sb, tb, wbs, L, h, rfl⟩ := h
  intro b hb
  simp only [List.mem_cons, List.mem_append] at hb
  rcases hb with rfl | rfl | rfl | hb | hb
  · exact h.hB
  · exact h.ar.all _ (by simp)
  · exact h.ar.all _ (by simp)
  · exact h.ar.all _ (by simp [hb])
  · exact (h.tab.1.2.2 _ hb).1
theorem CAt.lt {B w cb c F} (h : CAt B w cb c F) : ∀ b ∈ F, b < w.heap.size := by
  obtain ⟨ab, sb, tb, wbs, L, h, rfl⟩ := h
  intro b hb
  simp only [List.mem_cons, List.mem_append] at hb
  rcases hb with rfl | rfl | rfl | hb | hb
  · exact h.bc.lt
  · exact h.ar.ba.lt
  · exact h.ar.bs.lt
  · obtain ⟨i, hi, rfl⟩ := List.getElem_of_mem hb
    exact (h.ar.bw i (by rw [← h.ar.len]; exact hi) hi).2.lt
  · exact (h.tab.1.2.2 _ hb).2
theorem CAt.ok {B w cb c F} (h : CAt B w cb c F) : COk c := by
  obtain ⟨ab, sb, tb, wbs, L, h, rfl⟩ := h
  exact h.ok
/-- A step that turns a cache alone. -/
def CStep (B : Nat) (w : World) (cb : Nat) (F : List Nat) (w' : World) (c' : Ca) : Prop := ∃ F', CAt B w' cb c' F' ∧ Grow w F F' ∧ FrL F w w'
theorem FrL.sub {L L' : List Nat} {w w' : World} (h : FrL L w w') (hs : ∀ x ∈ L, x ∈ L') : FrL L' w w' := ⟨h.os, h.tape, h.output, h.size, fun k hk hn => h.block k hk (fun hm => hn (hs k hm))⟩
theorem Sent.frl {B : Nat} {L : List Nat} {w w' : World} {p : Nat → Addr} (h : Sent B w p) (f : FrL L w w') (hL : ∀ b ∈ L, B ≤ b) : Sent B w' p := by
  have hl := h.low
  have hs := h.size
  have c : ∀ g, g < 11 → w'.cell? ⟨g, 0, none⟩ = w.cell? ⟨g, 0, none⟩ := fun g hg => by
    have := f.block g (by omega) (fun hm => by have := hL g hm; omega)
    simp [World.cell?, this]
  exact ⟨(c _ (by decide)).trans h.g1, (c _ (by decide)).trans h.g2, (c _ (by decide)).trans h.g3, (c _ (by decide)).trans h.g4, (c _ (by decide)).trans h.g5, (c _ (by decide)).trans h.g6, (c _ (by decide)).trans h.g7, (c _ (by decide)).trans h.g8, (c _ (by decide)).trans h.g9, (c _ (by decide)).trans h.g10, (c _ (by decide)).trans h.et, h.inj, fun i h1 h2 => by obtain ⟨q, c, T, e⟩ := h.blk i h1 h2; exact ⟨q, c, T, (f.block _ (by omega) (fun hm => by have := hL _ hm; omega)).trans e⟩, hl, Nat.le_trans h.size f.size⟩

/-- A line's entry and if a word of it may be read. -/
def usableC (c : Ca) (line word : Int) : Bool := (getA c.A line).isSome && !((getA c.A line).getD .zero).held && decide (0 ≤ word) && decide (word < 4)
def entC (c : Ca) (line : Int) : Ent := (getA c.A line).getD .zero

set_option maxRecDepth 100000 in
set_option maxHeartbeats 1000000 in
theorem usable_calls (B : Nat) (c : Ca) (line word : Int) (cb : Nat) (F : List Nat) (w : World) (h : CAt B w cb c F) :
    Calls Tryd.prog 35 #[.pointer (some ⟨cb, 0, none⟩), .int .i64 line, .int .i64 word] w fun e w' => e = .returned (.tuple #[(entC c line).val, .bool (usableC c line word)]) ∧ Below w.heap.size w w' := by
  obtain ⟨ab, sb, tb, wbs, L, h, rfl⟩ := h
  have c2 := h.bc.cell 2
  simp at c2
  have hba := (Below.refl w.heap.size w).alloc (Nat.le_refl _) (.cells Ent.zero.cells.toArray 69)
  have HG := Lib.hid (aget_calls B c.n c.k c.A line ab sb wbs _ h.ok.a (h.ar.below hba))
  have hlt := h.bc.lt
  have hne : cb ≠ w.heap.size := by omega
  clear h
  have hc2 := (World.cell?_alloc_lt w (.cells Ent.zero.cells.toArray 69) ⟨cb, 2, none⟩ hlt).trans c2
  unfold getV at HG
  unfold usableC entC
  generalize (getA c.A line).isSome = ok at HG ⊢
  generalize (getA c.A line).getD .zero = x at HG ⊢
  obtain ⟨x0, x1, x2, x3, x4, x5, x6, x7, x8, x9⟩ := x
  simp only [Ent.cells, Ent.zero, Ent.val] at hc2 HG hba ⊢
  go_enter Tryd.func35, Tryd.ntmps35
  go_wp2_with fail
  refine HG.out.mono ?_; rintro e w1 ⟨rfl, hb1⟩
  have hres : Blk w1 w.heap.size 69 Ent.zero.cells := by
    have := heap_alloc_new w (.cells Ent.zero.cells.toArray 69)
    exact Blk.below (n := (w.alloc (.cells Ent.zero.cells.toArray 69)).heap.size) this hb1 (by simp)
  have HRES := Lib.hid hres
  have hlt1 := hres.lt
  have hne1 : w.heap.size ≠ w1.heap.size := by omega
  clear hres
  have hcs : ok = false ∨ (ok = true ∧ x8 = true) ∨ (ok = true ∧ x8 = false ∧ word < 0) ∨ (ok = true ∧ x8 = false ∧ 0 ≤ word ∧ 4 ≤ word) ∨ (ok = true ∧ x8 = false ∧ 0 ≤ word ∧ word < 4) := by
    cases ok <;> cases x8 <;> simp <;> omega
  rcases hcs with rfl | ⟨rfl, rfl⟩ | ⟨rfl, rfl, hw0⟩ | ⟨rfl, rfl, hw0, hw1⟩ | ⟨rfl, rfl, hw0, hw1⟩
  · go_wp2_with (refine wl_store rfl (.tmp 6) (.tmp 19) 69 rfl w.heap.size 0 69 (Ent.cells ⟨x0, x1, x2, x3, x4, x5, x6, x7, x8, x9⟩) rfl rfl entSize Ent.zero.cells (HRES.out.below ((Below.refl _ _).alloc (Nat.le_refl _) _) HRES.out.lt) (entCells_one _) ?d1 ?d2)
    case d1 => simp [Ent.cells, Ent.zero]
    case d2 =>
      intro w2 ho2 hblk
      have hb2 : Blk w2 w.heap.size 69 (Ent.cells ⟨x0, x1, x2, x3, x4, x5, x6, x7, x8, x9⟩) := by simpa [Ent.cells, Ent.zero] using hblk
      obtain ⟨r0, r1, r2, r3, r4, r5, r6, r7, r8, r9⟩ := entAt0 hb2
      simp only [Nat.zero_add] at r1 r2 r3 r4 r5 r6 r7 r8 r9
      clear hblk hb2
      go_wp2
      refine bodyPost_ret (v := .tuple #[Ent.val ⟨x0, x1, x2, x3, x4, x5, x6, x7, x8, x9⟩, .bool false]) (by simp [results, Tryd.results35, go_sem, Ent.val, r0, r1, r2, r3, r4, r5, r6, r7, r8, r9] <;> omega) rfl ⟨?_, ?_⟩
      · have q0 : decide (0 ≤ word) = decide (0 ≤ word) := rfl
        have q1 : decide (word < 4) = decide (word < 4) := rfl
        simp [Ent.val, q0, q1]
      · exact hba.trans (((hb1.mono (by simp)).alloc (by omega) _).trans ho2.below)
  · go_wp2_with (refine wl_store rfl (.tmp 6) (.tmp 19) 69 rfl w.heap.size 0 69 (Ent.cells ⟨x0, x1, x2, x3, x4, x5, x6, x7, true, x9⟩) rfl rfl entSize Ent.zero.cells (HRES.out.below ((Below.refl _ _).alloc (Nat.le_refl _) _) HRES.out.lt) (entCells_one _) ?d1 ?d2)
    case d1 => simp [Ent.cells, Ent.zero]
    case d2 =>
      intro w2 ho2 hblk
      have hb2 : Blk w2 w.heap.size 69 (Ent.cells ⟨x0, x1, x2, x3, x4, x5, x6, x7, true, x9⟩) := by simpa [Ent.cells, Ent.zero] using hblk
      obtain ⟨r0, r1, r2, r3, r4, r5, r6, r7, r8, r9⟩ := entAt0 hb2
      simp only [Nat.zero_add] at r1 r2 r3 r4 r5 r6 r7 r8 r9
      clear hblk hb2
      go_wp2
      refine bodyPost_ret (v := .tuple #[Ent.val ⟨x0, x1, x2, x3, x4, x5, x6, x7, true, x9⟩, .bool false]) (by simp [results, Tryd.results35, go_sem, Ent.val, r0, r1, r2, r3, r4, r5, r6, r7, r8, r9] <;> omega) rfl ⟨?_, ?_⟩
      · have q0 : decide (0 ≤ word) = decide (0 ≤ word) := rfl
        have q1 : decide (word < 4) = decide (word < 4) := rfl
        simp [Ent.val, q0, q1]
      · exact hba.trans (((hb1.mono (by simp)).alloc (by omega) _).trans ho2.below)
  · go_wp2_with (refine wl_store rfl (.tmp 6) (.tmp 19) 69 rfl w.heap.size 0 69 (Ent.cells ⟨x0, x1, x2, x3, x4, x5, x6, x7, false, x9⟩) rfl rfl entSize Ent.zero.cells (HRES.out.below ((Below.refl _ _).alloc (Nat.le_refl _) _) HRES.out.lt) (entCells_one _) ?d1 ?d2)
    case d1 => simp [Ent.cells, Ent.zero]
    case d2 =>
      intro w2 ho2 hblk
      have hb2 : Blk w2 w.heap.size 69 (Ent.cells ⟨x0, x1, x2, x3, x4, x5, x6, x7, false, x9⟩) := by simpa [Ent.cells, Ent.zero] using hblk
      obtain ⟨r0, r1, r2, r3, r4, r5, r6, r7, r8, r9⟩ := entAt0 hb2
      simp only [Nat.zero_add] at r1 r2 r3 r4 r5 r6 r7 r8 r9
      clear hblk hb2
      go_wp2
      refine bodyPost_ret (v := .tuple #[Ent.val ⟨x0, x1, x2, x3, x4, x5, x6, x7, false, x9⟩, .bool false]) (by simp [results, Tryd.results35, go_sem, Ent.val, r0, r1, r2, r3, r4, r5, r6, r7, r8, r9] <;> omega) rfl ⟨?_, ?_⟩
      · have q0 : decide (0 ≤ word) = false := by simpa using hw0
        have q1 : decide (word < 4) = decide (word < 4) := rfl
        simp [Ent.val, q0, q1]
      · exact hba.trans (((hb1.mono (by simp)).alloc (by omega) _).trans ho2.below)
  · go_wp2_with (refine wl_store rfl (.tmp 6) (.tmp 19) 69 rfl w.heap.size 0 69 (Ent.cells ⟨x0, x1, x2, x3, x4, x5, x6, x7, false, x9⟩) rfl rfl entSize Ent.zero.cells (HRES.out.below ((Below.refl _ _).alloc (Nat.le_refl _) _) HRES.out.lt) (entCells_one _) ?d1 ?d2)
    case d1 => simp [Ent.cells, Ent.zero]
    case d2 =>
      intro w2 ho2 hblk
      have hb2 : Blk w2 w.heap.size 69 (Ent.cells ⟨x0, x1, x2, x3, x4, x5, x6, x7, false, x9⟩) := by simpa [Ent.cells, Ent.zero] using hblk
      obtain ⟨r0, r1, r2, r3, r4, r5, r6, r7, r8, r9⟩ := entAt0 hb2
      simp only [Nat.zero_add] at r1 r2 r3 r4 r5 r6 r7 r8 r9
      clear hblk hb2
      go_wp2
      refine bodyPost_ret (v := .tuple #[Ent.val ⟨x0, x1, x2, x3, x4, x5, x6, x7, false, x9⟩, .bool false]) (by simp [results, Tryd.results35, go_sem, Ent.val, r0, r1, r2, r3, r4, r5, r6, r7, r8, r9] <;> omega) rfl ⟨?_, ?_⟩
      · have q0 : decide (0 ≤ word) = true := by simpa using hw0
        have q1 : decide (word < 4) = false := by simpa using hw1
        simp [Ent.val, q0, q1]
      · exact hba.trans (((hb1.mono (by simp)).alloc (by omega) _).trans ho2.below)
  · go_wp2_with (refine wl_store rfl (.tmp 6) (.tmp 19) 69 rfl w.heap.size 0 69 (Ent.cells ⟨x0, x1, x2, x3, x4, x5, x6, x7, false, x9⟩) rfl rfl entSize Ent.zero.cells (HRES.out.below ((Below.refl _ _).alloc (Nat.le_refl _) _) HRES.out.lt) (entCells_one _) ?d1 ?d2)
    case d1 => simp [Ent.cells, Ent.zero]
    case d2 =>
      intro w2 ho2 hblk
      have hb2 : Blk w2 w.heap.size 69 (Ent.cells ⟨x0, x1, x2, x3, x4, x5, x6, x7, false, x9⟩) := by simpa [Ent.cells, Ent.zero] using hblk
      obtain ⟨r0, r1, r2, r3, r4, r5, r6, r7, r8, r9⟩ := entAt0 hb2
      simp only [Nat.zero_add] at r1 r2 r3 r4 r5 r6 r7 r8 r9
      clear hblk hb2
      go_wp2
      refine bodyPost_ret (v := .tuple #[Ent.val ⟨x0, x1, x2, x3, x4, x5, x6, x7, false, x9⟩, .bool true]) (by simp [results, Tryd.results35, go_sem, Ent.val, r0, r1, r2, r3, r4, r5, r6, r7, r8, r9] <;> omega) rfl ⟨?_, ?_⟩
      · have q0 : decide (0 ≤ word) = true := by simpa using hw0
        have q1 : decide (word < 4) = true := by simpa using hw1
        simp [Ent.val, q0, q1]
      · exact hba.trans (((hb1.mono (by simp)).alloc (by omega) _).trans ho2.below)

set_option maxHeartbeats 400000 in
theorem entries_calls (B : Nat) (c : Ca) (cb : Nat) (F : List Nat) (w : World) (h : CAt B w cb c F) :
    Calls Tryd.prog 18 #[.pointer (some ⟨cb, 0, none⟩)] w fun e w' => ∃ lv cap, e = .returned (.slice lv (listA c.A).length cap) ∧ SlE w' lv (listA c.A) cap ∧ Below w.heap.size w w' := by
  obtain ⟨ab, sb, tb, wbs, L, h, rfl⟩ := h
  have c2 := h.bc.cell 2
  simp at c2
  have HL := Lib.hid (alist_calls B c.n c.k c.A ab sb wbs w h.ok.a h.ar)
  clear h
  go_enter Tryd.func18, Tryd.ntmps18
  go_wp2_with fail
  refine HL.out.mono ?_
  rintro e w1 ⟨lv, cap, rfl, hs, hb⟩
  have HS := Lib.hid hs
  clear hs
  go_wp2
  go_ret
  exact ⟨lv, cap, rfl, HS.out, hb⟩

set_option maxHeartbeats 400000 in
theorem misses_calls (B : Nat) (c : Ca) (cb : Nat) (F : List Nat) (w : World) (h : CAt B w cb c F) :
    Calls Tryd.prog 19 #[.pointer (some ⟨cb, 0, none⟩)] w fun e w' => ∃ lv cap, e = .returned (.slice lv c.M.length cap) ∧ SlAt w' lv c.M cap ∧ Below w.heap.size w w' := by
  obtain ⟨ab, sb, tb, wbs, L, h, rfl⟩ := h
  have c3 := h.bc.cell 3
  simp at c3
  have h8 := h.ok.m.most8
  have hlen := h.ok.m.len
  have HL := Lib.hid (mlist_calls c.M c.most tb w (by omega) h.tab.tab)
  clear h
  go_enter Tryd.func19, Tryd.ntmps19
  go_wp2_with fail
  refine HL.out.mono ?_
  rintro e w1 ⟨lv, cap, rfl, hs, hb⟩
  have HS := Lib.hid hs
  clear hs
  go_wp2
  go_ret
  exact ⟨lv, cap, rfl, HS.out, hb⟩

/-- The cache after an entry was read or written: put back, and touched. -/
def usedC (c : Ca) (x : Ent) : Ca := { c with A := touchA ((putA c.A { x with fresh := false }).getD c.A) x.line }

set_option maxRecDepth 100000 in
set_option maxHeartbeats 1000000 in
theorem used_calls (B : Nat) (c : Ca) (x : Ent) (A' : Sets) (cb : Nat) (F : List Nat) (w : World) (h : CAt B w cb c F) (hx : EOk x) (hB : B ≤ w.heap.size) (hp : putA c.A { x with fresh := false } = some A') :
    Calls Tryd.prog 36 #[.pointer (some ⟨cb, 0, none⟩), x.val] w fun e w' => e = .returned (.tuple #[]) ∧ CStep B w cb F w' { c with A := touchA A' x.line } := by
  obtain ⟨ab, sb, tb, wbs, L, h, rfl⟩ := h
  have hba := (Below.refl w.heap.size w).alloc (Nat.le_refl _) (.cells (Ent.cells { x with fresh := false }).toArray 69)
  have HP := Lib.hid (fun w1 (hb : Below w.heap.size w w1) => put_calls B c.n c.k c.A A' { x with fresh := false } ab sb wbs w1 h.ok.a (h.ar.below hb) ⟨hx.line, hx.state, hx.mode, hx.epoch⟩ (Nat.le_trans hB hb.size) hp)
  have hl : within x.line 0 31 = true := by simp [within, hx.line.1, hx.line.2]
  have HT := Lib.hid (fun w1 (ha : ArrR B w1 ab sb wbs A') (hk : AOk c.n c.k A') (hb : B ≤ w1.heap.size) => atouch_calls B c.n c.k A' x.line ab sb wbs w1 hk ha hl hb)
  have HC := Lib.hid h
  have c2 := (h.bc.below hba h.bc.lt).cell 2
  simp at c2
  have hbox : Hid (w.heap.size ∉ sb :: wbs) := fun hm => by
    have h1 : w.heap.size < w.heap.size := by
      rcases List.mem_cons.1 hm with h2 | h2
      · have := h.ar.bs.lt; omega
      · obtain ⟨i, hi, e⟩ := List.getElem_of_mem h2
        have := (h.ar.bw i (by rw [← h.ar.len]; exact hi) hi).2.lt
        omega
    omega
  clear h hx hp hl
  obtain ⟨x0, x1, x2, x3, x4, x5, x6, x7, x8, x9⟩ := x
  simp only [Ent.val, Ent.cells] at HP HT hba c2 ⊢
  go_enter Tryd.func36, Tryd.ntmps36
  go_wp2_with fail
  have hb0 : Blk (w.alloc (.cells #[.int .i64 x0, .int .i64 x1, .int .i64 x2, .int .i64 x3, .int .u32 x4, .int .u32 x5, .int .u32 x6, .int .u32 x7, .bool x8, .bool false] 69)) w.heap.size 69 (Ent.cells ⟨x0, x1, x2, x3, x4, x5, x6, x7, x8, false⟩) := blk_new w _ _ _ rfl
  obtain ⟨r0, r1, r2, r3, r4, r5, r6, r7, r8, r9⟩ := entAt0 hb0
  simp only [Nat.zero_add] at r1 r2 r3 r4 r5 r6 r7 r8 r9
  have HB0 := Lib.hid hb0
  clear hb0
  generalize w.alloc (.cells #[.int .i64 x0, .int .i64 x1, .int .i64 x2, .int .i64 x3, .int .u32 x4, .int .u32 x5, .int .u32 x6, .int .u32 x7, .bool x8, .bool false] 69) = W at hba c2 r0 r1 r2 r3 r4 r5 r6 r7 r8 r9 HB0 ⊢
  go_still_tail 5, (by kernel_rfl)
  change wpList _ _ _ _ _ W.drew
  have hbd : Below w.heap.size w W.drew := hba.drew
  have HB1 : Hid (Blk W.drew w.heap.size 69 (Ent.cells ⟨x0, x1, x2, x3, x4, x5, x6, x7, x8, false⟩)) := HB0.out
  clear c2 r0 r1 r2 r3 r4 r5 r6 r7 r8 r9
  generalize W.drew = Wd at hbd HB1 ⊢
  go_wp2_with fail
  refine (HP.out _ hbd).mono ?_
  rintro e w2 ⟨rfl, ha2, hk2, hf2, hl2⟩
  have c2 := ((HC.out.below hbd).bc.fr hf2 (by decide)).cell 2
  simp at c2
  have r0 := (entAt0 (HB1.out.frl hl2 hbox.out)).c0
  have hs2 := hf2.size
  have HA2 := Lib.hid ha2
  have HK2 := Lib.hid hk2
  have HF2 := Lib.hid (And.intro hf2 hl2)
  clear ha2 hk2 hf2 hl2
  go_wp2_with fail
  go_still_tail 6, (by kernel_rfl)
  change wpList _ _ _ _ _ w2.drew
  have HA2d : Hid (ArrR B w2.drew ab sb wbs A') := HA2.out.below ((Below.refl _ _).drew)
  have hsd : B ≤ w2.drew.heap.size := by have := hbd.size; simp; omega
  have HCd : Hid (CR B Wd cb ab sb tb wbs L c) := HC.out.below hbd
  have HF2d : Hid (Fr B [69] Wd w2.drew ∧ FrL (sb :: wbs) Wd w2.drew) := ⟨HF2.out.1.drew, HF2.out.2.drew⟩
  clear c2 r0
  generalize w2.drew = w3 at HA2d hsd HF2d ⊢
  go_wp2_with fail
  refine (HT.out w3 HA2d.out HK2.out hsd).mono ?_
  rintro e w4 ⟨rfl, ha4, hk4, hf4, hl4⟩
  have hfin : CStep B w cb (cb :: ab :: sb :: (wbs ++ L)) w4 { c with A := touchA A' x0 } := by
    have f1 : Fr B [69, 92] Wd w4 := (HF2d.out.1.mono (by simp)).trans (hf4.mono (by simp))
    refine ⟨_, ⟨ab, sb, tb, wbs, L, ⟨HCd.out.hB, HCd.out.bc.fr f1 (by decide), ha4, HCd.out.tab.fr f1 (by decide) (by decide), ⟨hk4, HCd.out.ok.m⟩⟩, rfl⟩, Grow.refl _ _, ?_⟩
    exact (FrL.below _ hbd).trans ((HF2d.out.2.trans hl4).sub (fun x hx => by simp at hx ⊢; rcases hx with h1 | h1 <;> simp [h1]))
  have HFIN := Lib.hid hfin
  clear ha4 hk4 hf4 hl4 hfin
  go_wp2
  go_end0
  exact ⟨rfl, HFIN.out⟩

end Go.Proofs.YtnieambhpmnliaaDoor
