/- A cache: Want. Printed by gen_want.py. -/
import Derived.Test.YtnieambhpmnliaaDoorEvict
namespace Go.Proofs.YtnieambhpmnliaaDoor
set_option linter.all false
set_option linter.unusedVariables false
set_option linter.unusedSimpArgs false
open Go Go.RowKit

def badWant (line kind word : Int) : Bool := decide (line < 0) || decide (32 ≤ line) || decide (kind < 1) || decide (3 < kind) || decide (word < 0) || decide (4 ≤ word)
/-- An update of a line that isn't there, or is not in Dragon, is a write. -/
def kindC (c : Ca) (line kind : Int) : Int := if kind = 3 ∧ ((getA c.A line).isSome = false ∨ (entC c line).mode ≠ 2) then 2 else kind
def askMsg (c : Ca) (line kind word v : Int) : Msg :=
  if kind = 3 then { Msg.zero with kind := 3, core := c.core, line := line, word := word, value := v } else { Msg.zero with kind := kind, core := c.core, line := line }
/-- Want: the request that goes, or why none does; what the cache is then. -/
def wantC (c : Ca) (line kind word v : Int) : Msg × Er × Ca :=
  if badWant line kind word then (Msg.zero, .one 1, c)
  else if (missOf c.M line).2 then (Msg.zero, .one 7, c)
  else if (getA c.A line).isSome && kind == 1 then (Msg.zero, .one 7, c)
  else if !(getA c.A line).isSome && absentC c line then (Msg.zero, .one 7, c)
  else if !(getA c.A line).isSome && !roomA c.A line then evictC c line
  else if c.most ≤ c.M.length then (Msg.zero, .two line, c)
  else (askMsg c line (kindC c line kind) word v, .ok, { c with M := insM c.M (line, kindC c line kind) })

theorem missOf_no {us : List (Int × Int)} {line : Int} (h : (missOf us line).2 = false) : ∀ a (h : a < us.length), us[a].1 ≠ line := by
  intro a ha e
  unfold missOf at h
  cases hf : us.find? (fun m => m.1 == line) with
  | none => have := List.find?_eq_none.1 hf us[a] (List.getElem_mem ha); simp [e] at this
  | some m => rw [hf] at h; simp at h

set_option maxRecDepth 100000 in
set_option maxHeartbeats 2000000 in
theorem want_args (B : Nat) (c : Ca) (line kind word v : Int) (p : Nat → Addr) (cb : Nat) (F : List Nat) (w : World) (h : CAt B w cb c F) (hg : Sent B w p) (hbad : badWant line kind word = true) :
    Calls Tryd.prog 11 #[.pointer (some ⟨cb, 0, none⟩), .int .i64 line, .int .i64 kind, .int .i64 word, .int .u32 v] w fun e w' => e = .returned (.tuple #[Msg.zero.val, erv p line (.one 1)]) ∧ CStep B w cb F w' c := by
  have HF := Lib.hid (fun w1 (hb : Below w.heap.size w w1) => CStep.same h hb)
  have HLT := Lib.hid h.lt
  have hB := hg.size
  have HG := Lib.hid (fun w1 (hb : Below w.heap.size w w1) => hg.below hb)
  have hb0 := (Below.refl w.heap.size w).alloc (Nat.le_refl _) (.cells Msg.zero.cells.toArray 33)
  have HM0 := Lib.hid (blk_new w Msg.zero.cells 33 _ rfl)
  have hz0 : (w.alloc (.cells Msg.zero.cells.toArray 33)).heap.size = w.heap.size + 1 := by simp
  have HB0 := Lib.hid hb0
  simp only [Msg.cells, Msg.zero] at hz0 HB0 HM0
  clear hb0
  have g1 := (HG.out _ HB0.out).g1
  unfold sentv at g1
  have hcs : line < 0 ∨ (0 ≤ line ∧ 32 ≤ line) ∨ (0 ≤ line ∧ line < 32 ∧ kind < 1) ∨ (0 ≤ line ∧ line < 32 ∧ 1 ≤ kind ∧ 3 < kind) ∨ (0 ≤ line ∧ line < 32 ∧ 1 ≤ kind ∧ kind ≤ 3 ∧ word < 0) ∨ (0 ≤ line ∧ line < 32 ∧ 1 ≤ kind ∧ kind ≤ 3 ∧ 0 ≤ word ∧ 4 ≤ word) := by
    simp [badWant] at hbad; omega
  clear h hg hbad
  rcases hcs with h0 | ⟨h0, h1⟩ | ⟨h0, h1, h2⟩ | ⟨h0, h1, h2, h3⟩ | ⟨h0, h1, h2, h3, h4⟩ | ⟨h0, h1, h2, h3, h4, h5⟩
  all_goals
    go_enter Tryd.func11, Tryd.ntmps11
    go_wp2_with fail
    generalize w.alloc (.cells #[.int .i64 0, .int .i64 0, .int .i64 0, .int .i64 0, .int .i64 0, .int .i64 0, .int .i64 0, .int .u32 0, .int .u32 0, .int .u32 0, .int .u32 0, .int .u32 0, .bool false] 33) = W at *
    go_wp2_with (first | (go_at_call 22; refine (wrap_calls _ _ _ _ _).mono ?_; rintro e wq ⟨rfl, rfl⟩) | (refine wl_store rfl (.tmp 10) (.tmp 40) 33 rfl w.heap.size 0 33 Msg.zero.cells rfl rfl msgSize _ HM0.out (msgOne _) (by simp [Msg.cells]) ?d1))
    case d1 =>
      intro wz hoz hblk
      have HK := Lib.hid (msgOver (m := Msg.zero) (m' := Msg.zero) hblk)
      have HBz := Lib.hid (HB0.out.trans (hoz.below.mono (Nat.le_refl _)))
      clear hoz hblk
      go_wp2
      exact bodyPost_ret (v := .tuple #[Msg.zero.val, erv p line (.one 1)]) (results_msg2 Tryd.results11 Msg.zero _ rfl rfl HK.out) rfl ⟨rfl, HF.out _ HBz.out⟩

set_option maxRecDepth 100000 in
set_option maxHeartbeats 2000000 in
theorem want_busy (B : Nat) (c : Ca) (line kind word v : Int) (p : Nat → Addr) (cb : Nat) (F : List Nat) (w : World) (h : CAt B w cb c F) (hg : Sent B w p) (hbad : badWant line kind word = false) (hm : (missOf c.M line).2 = true) :
    Calls Tryd.prog 11 #[.pointer (some ⟨cb, 0, none⟩), .int .i64 line, .int .i64 kind, .int .i64 word, .int .u32 v] w fun e w' => e = .returned (.tuple #[Msg.zero.val, erv p line (.one 7)]) ∧ CStep B w cb F w' c := by
  have HF := Lib.hid (fun w1 (hb : Below w.heap.size w w1) => CStep.same h hb)
  have HLT := Lib.hid h.lt
  have hB := hg.size
  have HG := Lib.hid (fun w1 (hb : Below w.heap.size w w1) => hg.below hb)
  obtain ⟨ab, sb, tb, wbs, L, h, rfl⟩ := h
  have h8 := h.ok.m.most8
  have hlen := h.ok.m.len
  have HC := Lib.hid (fun w1 (hb : Below w.heap.size w w1) => h.below hb)
  have HMS := Lib.hid (fun w1 (hb : Below w.heap.size w w1) => get_calls c.M line c.most tb w1 (by omega) (h.tab.below hb).tab)
  have HAG := Lib.hid (fun w1 (hb : Below w.heap.size w w1) => aget_calls B c.n c.k c.A line ab sb wbs w1 h.ok.a (h.ar.below hb))
  have HOK := Lib.hid h.ok
  have hbc := h.bc.lt
  simp only [badWant, Bool.or_eq_false_iff, decide_eq_false_iff_not, Int.not_lt, Int.not_le] at hbad
  obtain ⟨⟨⟨⟨⟨b0, b1⟩, b2⟩, b3⟩, b4⟩, b5⟩ := hbad
  have hl : within line 0 31 = true := by simp [within]; omega
  have hb0 := (Below.refl w.heap.size w).alloc (Nat.le_refl _) (.cells Msg.zero.cells.toArray 33)
  have HM0 := Lib.hid (blk_new w Msg.zero.cells 33 _ rfl)
  have hz0 : (w.alloc (.cells Msg.zero.cells.toArray 33)).heap.size = w.heap.size + 1 := by simp
  have HB0 := Lib.hid hb0
  simp only [Msg.cells, Msg.zero] at hz0 HB0 HM0
  clear hb0
  have c3 := (HC.out _ HB0.out).bc.cell 3
  simp at c3
  have HMC := Lib.hid (HMS.out _ HB0.out)
  rw [hm] at HMC
  clear h hg hm
  go_enter Tryd.func11, Tryd.ntmps11
  go_wp2_with fail
  generalize w.alloc (.cells #[.int .i64 0, .int .i64 0, .int .i64 0, .int .i64 0, .int .i64 0, .int .i64 0, .int .i64 0, .int .u32 0, .int .u32 0, .int .u32 0, .int .u32 0, .int .u32 0, .bool false] 33) = W at *
  refine HMC.out.mono ?_
  rintro e w1 ⟨rfl, hb1⟩
  have HB1 := Lib.hid (HB0.out.trans (hb1.mono HB0.out.size))
  have HM1 := Lib.hid (HM0.out.below hb1 HM0.out.lt)
  have g7 := (HG.out _ HB1.out).g7
  unfold sentv at g7
  clear hb1
  go_wp2_with (first | (go_at_call 22; refine (wrap_calls _ _ _ _ _).mono ?_; rintro e wq ⟨rfl, rfl⟩) | (refine wl_store rfl (.tmp 10) (.tmp 54) 33 rfl w.heap.size 0 33 Msg.zero.cells rfl rfl msgSize _ HM1.out (msgOne _) (by simp [Msg.cells]) ?d1))
  case d1 =>
    intro wz hoz hblk
    have HK := Lib.hid (msgOver (m := Msg.zero) (m' := Msg.zero) hblk)
    have HBz := Lib.hid (HB1.out.trans (hoz.below.mono (Nat.le_refl _)))
    clear hoz hblk
    go_wp2
    exact bodyPost_ret (v := .tuple #[Msg.zero.val, erv p line (.one 7)]) (results_msg2 Tryd.results11 Msg.zero _ rfl rfl HK.out) rfl ⟨rfl, HF.out _ HBz.out⟩

set_option maxRecDepth 100000 in
set_option maxHeartbeats 2000000 in
theorem want_there (B : Nat) (c : Ca) (line kind word v : Int) (p : Nat → Addr) (cb : Nat) (F : List Nat) (w : World) (h : CAt B w cb c F) (hg : Sent B w p) (hbad : badWant line kind word = false) (hm : (missOf c.M line).2 = false) (ht : (getA c.A line).isSome = true) (hk : kind = 1) :
    Calls Tryd.prog 11 #[.pointer (some ⟨cb, 0, none⟩), .int .i64 line, .int .i64 kind, .int .i64 word, .int .u32 v] w fun e w' => e = .returned (.tuple #[Msg.zero.val, erv p line (.one 7)]) ∧ CStep B w cb F w' c := by
  have HF := Lib.hid (fun w1 (hb : Below w.heap.size w w1) => CStep.same h hb)
  have HLT := Lib.hid h.lt
  have hB := hg.size
  have HG := Lib.hid (fun w1 (hb : Below w.heap.size w w1) => hg.below hb)
  obtain ⟨ab, sb, tb, wbs, L, h, rfl⟩ := h
  have h8 := h.ok.m.most8
  have hlen := h.ok.m.len
  have HC := Lib.hid (fun w1 (hb : Below w.heap.size w w1) => h.below hb)
  have HMS := Lib.hid (fun w1 (hb : Below w.heap.size w w1) => get_calls c.M line c.most tb w1 (by omega) (h.tab.below hb).tab)
  have HAG := Lib.hid (fun w1 (hb : Below w.heap.size w w1) => aget_calls B c.n c.k c.A line ab sb wbs w1 h.ok.a (h.ar.below hb))
  have HOK := Lib.hid h.ok
  have hbc := h.bc.lt
  simp only [badWant, Bool.or_eq_false_iff, decide_eq_false_iff_not, Int.not_lt, Int.not_le] at hbad
  obtain ⟨⟨⟨⟨⟨b0, b1⟩, b2⟩, b3⟩, b4⟩, b5⟩ := hbad
  have hl : within line 0 31 = true := by simp [within]; omega
  have hb0 := (Below.refl w.heap.size w).alloc (Nat.le_refl _) (.cells Msg.zero.cells.toArray 33)
  have HM0 := Lib.hid (blk_new w Msg.zero.cells 33 _ rfl)
  have hz0 : (w.alloc (.cells Msg.zero.cells.toArray 33)).heap.size = w.heap.size + 1 := by simp
  have HB0 := Lib.hid hb0
  simp only [Msg.cells, Msg.zero] at hz0 HB0 HM0
  clear hb0
  have c3 := (HC.out _ HB0.out).bc.cell 3
  simp at c3
  have HMC := Lib.hid (HMS.out _ HB0.out)
  rw [hm] at HMC
  unfold getV at HAG
  generalize (missOf c.M line).1 = mk at HMC
  subst hk
  rw [ht] at HAG
  clear h hg hm ht
  generalize (getA c.A line).getD .zero = x at HAG
  obtain ⟨x0, x1, x2, x3, x4, x5, x6, x7, x8, x9⟩ := x
  simp only [Ent.val] at HAG
  go_enter Tryd.func11, Tryd.ntmps11
  go_wp2_with fail
  generalize w.alloc (.cells #[.int .i64 0, .int .i64 0, .int .i64 0, .int .i64 0, .int .i64 0, .int .i64 0, .int .i64 0, .int .u32 0, .int .u32 0, .int .u32 0, .int .u32 0, .int .u32 0, .bool false] 33) = W at *
  refine HMC.out.mono ?_
  rintro e w1 ⟨rfl, hb1⟩
  have HB1 := Lib.hid (HB0.out.trans (hb1.mono HB0.out.size))
  have HM1 := Lib.hid (HM0.out.below hb1 HM0.out.lt)
  have c2 := (HC.out _ HB1.out).bc.cell 2
  simp at c2
  have HAC := Lib.hid (HAG.out _ HB1.out)
  clear hb1
  go_wp2_with fail
  refine HAC.out.mono ?_
  rintro e w2 ⟨rfl, hb2⟩
  have HB2 := Lib.hid (HB1.out.trans (hb2.mono HB1.out.size))
  have HM2 := Lib.hid (HM1.out.below hb2 HM1.out.lt)
  clear hb2 c2
  have hb3 := HB2.out.alloc HB2.out.size (.cells #[.int .i64 x0, .int .i64 x1, .int .i64 x2, .int .i64 x3, .int .u32 x4, .int .u32 x5, .int .u32 x6, .int .u32 x7, .bool x8, .bool x9] 69)
  have HM3 := Lib.hid (HM2.out.below ((Below.refl w2.heap.size w2).alloc (Nat.le_refl _) (.cells #[.int .i64 x0, .int .i64 x1, .int .i64 x2, .int .i64 x3, .int .u32 x4, .int .u32 x5, .int .u32 x6, .int .u32 x7, .bool x8, .bool x9] 69)) HM2.out.lt)
  have HB3 := Lib.hid hb3
  clear hb3
  have g7 := (HG.out _ HB3.out).g7
  unfold sentv at g7
  go_wp2_with (first | (go_at_call 22; refine (wrap_calls _ _ _ _ _).mono ?_; rintro e wq ⟨rfl, rfl⟩) | (refine wl_store rfl (.tmp 10) (.tmp 72) 33 rfl w.heap.size 0 33 Msg.zero.cells rfl rfl msgSize _ HM3.out (msgOne _) (by simp [Msg.cells]) ?d1))
  case d1 =>
    intro wz hoz hblk
    have HK := Lib.hid (msgOver (m := Msg.zero) (m' := Msg.zero) hblk)
    have HBz := Lib.hid (HB3.out.trans (hoz.below.mono (Nat.le_refl _)))
    clear hoz hblk
    go_wp2
    exact bodyPost_ret (v := .tuple #[Msg.zero.val, erv p line (.one 7)]) (results_msg2 Tryd.results11 Msg.zero _ rfl rfl HK.out) rfl ⟨rfl, HF.out _ HBz.out⟩

set_option maxRecDepth 100000 in
set_option maxHeartbeats 2000000 in
theorem want_absent (B : Nat) (c : Ca) (line kind word v : Int) (p : Nat → Addr) (cb : Nat) (F : List Nat) (w : World) (h : CAt B w cb c F) (hg : Sent B w p) (hbad : badWant line kind word = false) (hm : (missOf c.M line).2 = false) (ht : (getA c.A line).isSome = false) (hab : absentC c line = true) :
    Calls Tryd.prog 11 #[.pointer (some ⟨cb, 0, none⟩), .int .i64 line, .int .i64 kind, .int .i64 word, .int .u32 v] w fun e w' => e = .returned (.tuple #[Msg.zero.val, erv p line (.one 7)]) ∧ CStep B w cb F w' c := by
  have HF := Lib.hid (fun w1 (hb : Below w.heap.size w w1) => CStep.same h hb)
  have HLT := Lib.hid h.lt
  have hB := hg.size
  have HG := Lib.hid (fun w1 (hb : Below w.heap.size w w1) => hg.below hb)
  have HAB := Lib.hid (fun w1 (hb : Below w.heap.size w w1) => absent_calls B c line cb F w1 (h.below hb))
  obtain ⟨ab, sb, tb, wbs, L, h, rfl⟩ := h
  have h8 := h.ok.m.most8
  have hlen := h.ok.m.len
  have HC := Lib.hid (fun w1 (hb : Below w.heap.size w w1) => h.below hb)
  have HMS := Lib.hid (fun w1 (hb : Below w.heap.size w w1) => get_calls c.M line c.most tb w1 (by omega) (h.tab.below hb).tab)
  have HAG := Lib.hid (fun w1 (hb : Below w.heap.size w w1) => aget_calls B c.n c.k c.A line ab sb wbs w1 h.ok.a (h.ar.below hb))
  have HOK := Lib.hid h.ok
  have hbc := h.bc.lt
  simp only [badWant, Bool.or_eq_false_iff, decide_eq_false_iff_not, Int.not_lt, Int.not_le] at hbad
  obtain ⟨⟨⟨⟨⟨b0, b1⟩, b2⟩, b3⟩, b4⟩, b5⟩ := hbad
  have hl : within line 0 31 = true := by simp [within]; omega
  have hb0 := (Below.refl w.heap.size w).alloc (Nat.le_refl _) (.cells Msg.zero.cells.toArray 33)
  have HM0 := Lib.hid (blk_new w Msg.zero.cells 33 _ rfl)
  have hz0 : (w.alloc (.cells Msg.zero.cells.toArray 33)).heap.size = w.heap.size + 1 := by simp
  have HB0 := Lib.hid hb0
  simp only [Msg.cells, Msg.zero] at hz0 HB0 HM0
  clear hb0
  have c3 := (HC.out _ HB0.out).bc.cell 3
  simp at c3
  have HMC := Lib.hid (HMS.out _ HB0.out)
  rw [hm] at HMC
  unfold getV at HAG
  generalize (missOf c.M line).1 = mk at HMC
  rw [hab] at HAB
  rw [ht] at HAG
  clear h hg hm ht
  generalize (getA c.A line).getD .zero = x at HAG
  obtain ⟨x0, x1, x2, x3, x4, x5, x6, x7, x8, x9⟩ := x
  simp only [Ent.val] at HAG
  go_enter Tryd.func11, Tryd.ntmps11
  go_wp2_with fail
  generalize w.alloc (.cells #[.int .i64 0, .int .i64 0, .int .i64 0, .int .i64 0, .int .i64 0, .int .i64 0, .int .i64 0, .int .u32 0, .int .u32 0, .int .u32 0, .int .u32 0, .int .u32 0, .bool false] 33) = W at *
  refine HMC.out.mono ?_
  rintro e w1 ⟨rfl, hb1⟩
  have HB1 := Lib.hid (HB0.out.trans (hb1.mono HB0.out.size))
  have HM1 := Lib.hid (HM0.out.below hb1 HM0.out.lt)
  have c2 := (HC.out _ HB1.out).bc.cell 2
  simp at c2
  have HAC := Lib.hid (HAG.out _ HB1.out)
  clear hb1
  go_wp2_with fail
  refine HAC.out.mono ?_
  rintro e w2 ⟨rfl, hb2⟩
  have HB2 := Lib.hid (HB1.out.trans (hb2.mono HB1.out.size))
  have HM2 := Lib.hid (HM1.out.below hb2 HM1.out.lt)
  clear hb2 c2
  have hb3 := HB2.out.alloc HB2.out.size (.cells #[.int .i64 x0, .int .i64 x1, .int .i64 x2, .int .i64 x3, .int .u32 x4, .int .u32 x5, .int .u32 x6, .int .u32 x7, .bool x8, .bool x9] 69)
  have HM3 := Lib.hid (HM2.out.below ((Below.refl w2.heap.size w2).alloc (Nat.le_refl _) (.cells #[.int .i64 x0, .int .i64 x1, .int .i64 x2, .int .i64 x3, .int .u32 x4, .int .u32 x5, .int .u32 x6, .int .u32 x7, .bool x8, .bool x9] 69)) HM2.out.lt)
  have HB3 := Lib.hid hb3
  clear hb3
  go_wp2_with fail
  refine (HAB.out _ HB3.out).mono ?_
  rintro e w4 ⟨rfl, hb4⟩
  have HB4 := Lib.hid (HB3.out.trans (hb4.mono HB3.out.size))
  have HM4 := Lib.hid (HM3.out.below hb4 HM3.out.lt)
  clear hb4
  have g7 := (HG.out _ HB4.out).g7
  unfold sentv at g7
  go_wp2_with (first | (go_at_call 22; refine (wrap_calls _ _ _ _ _).mono ?_; rintro e wq ⟨rfl, rfl⟩) | (refine wl_store rfl (.tmp 10) (.tmp 81) 33 rfl w.heap.size 0 33 Msg.zero.cells rfl rfl msgSize _ HM4.out (msgOne _) (by simp [Msg.cells]) ?d1))
  case d1 =>
    intro wz hoz hblk
    have HK := Lib.hid (msgOver (m := Msg.zero) (m' := Msg.zero) hblk)
    have HBz := Lib.hid (HB4.out.trans (hoz.below.mono (Nat.le_refl _)))
    clear hoz hblk
    go_wp2
    exact bodyPost_ret (v := .tuple #[Msg.zero.val, erv p line (.one 7)]) (results_msg2 Tryd.results11 Msg.zero _ rfl rfl HK.out) rfl ⟨rfl, HF.out _ HBz.out⟩

set_option maxRecDepth 100000 in
set_option maxHeartbeats 2000000 in
theorem want_evict (B : Nat) (c : Ca) (line kind word v : Int) (p : Nat → Addr) (cb : Nat) (F : List Nat) (w : World) (h : CAt B w cb c F) (hg : Sent B w p) (hbad : badWant line kind word = false) (hm : (missOf c.M line).2 = false) (ht : (getA c.A line).isSome = false) (hab : absentC c line = false) (hro : roomA c.A line = false) :
    Calls Tryd.prog 11 #[.pointer (some ⟨cb, 0, none⟩), .int .i64 line, .int .i64 kind, .int .i64 word, .int .u32 v] w fun e w' => e = .returned (.tuple #[(evictC c line).1.val, erv p line (evictC c line).2.1]) ∧ CStep B w cb F w' (evictC c line).2.2 := by
  have hl0 : within line 0 31 = true := by
    simp only [badWant, Bool.or_eq_false_iff, decide_eq_false_iff_not, Int.not_lt, Int.not_le] at hbad
    obtain ⟨⟨⟨⟨⟨b0, b1⟩, b2⟩, b3⟩, b4⟩, b5⟩ := hbad
    simp [within]; omega
  have HF := Lib.hid (fun w1 (hb : Below w.heap.size w w1) => CStep.same h hb)
  have HLT := Lib.hid h.lt
  have hB := hg.size
  have HG := Lib.hid (fun w1 (hb : Below w.heap.size w w1) => hg.below hb)
  have HAB := Lib.hid (fun w1 (hb : Below w.heap.size w w1) => absent_calls B c line cb F w1 (h.below hb))
  have HEV := Lib.hid (fun w1 (hb : Below w.heap.size w w1) => evict_calls B c line p cb F w1 (h.below hb) (hg.below hb) hl0)
  obtain ⟨ab, sb, tb, wbs, L, h, rfl⟩ := h
  have h8 := h.ok.m.most8
  have hlen := h.ok.m.len
  have HC := Lib.hid (fun w1 (hb : Below w.heap.size w w1) => h.below hb)
  have HMS := Lib.hid (fun w1 (hb : Below w.heap.size w w1) => get_calls c.M line c.most tb w1 (by omega) (h.tab.below hb).tab)
  have HAG := Lib.hid (fun w1 (hb : Below w.heap.size w w1) => aget_calls B c.n c.k c.A line ab sb wbs w1 h.ok.a (h.ar.below hb))
  have HOK := Lib.hid h.ok
  have hbc := h.bc.lt
  simp only [badWant, Bool.or_eq_false_iff, decide_eq_false_iff_not, Int.not_lt, Int.not_le] at hbad
  obtain ⟨⟨⟨⟨⟨b0, b1⟩, b2⟩, b3⟩, b4⟩, b5⟩ := hbad
  have hl : within line 0 31 = true := by simp [within]; omega
  have HRO := Lib.hid (fun w1 (hb : Below w.heap.size w w1) => room_calls B c.n c.k c.A line ab sb wbs w1 h.ok.a (h.ar.below hb) hl)
  have hb0 := (Below.refl w.heap.size w).alloc (Nat.le_refl _) (.cells Msg.zero.cells.toArray 33)
  have HM0 := Lib.hid (blk_new w Msg.zero.cells 33 _ rfl)
  have hz0 : (w.alloc (.cells Msg.zero.cells.toArray 33)).heap.size = w.heap.size + 1 := by simp
  have HB0 := Lib.hid hb0
  simp only [Msg.cells, Msg.zero] at hz0 HB0 HM0
  clear hb0
  have c3 := (HC.out _ HB0.out).bc.cell 3
  simp at c3
  have HMC := Lib.hid (HMS.out _ HB0.out)
  rw [hm] at HMC
  unfold getV at HAG
  generalize (missOf c.M line).1 = mk at HMC
  rw [hab] at HAB
  rw [hro] at HRO
  generalize evictC c line = r at HEV ⊢
  obtain ⟨⟨r1, r2, r3, r4, r5, r6, r7, r8, r9, r10, r11, r12, r13⟩, er, c'⟩ := r
  simp only [Msg.val] at HEV
  rw [ht] at HAG
  clear h hg hm ht
  generalize (getA c.A line).getD .zero = x at HAG
  obtain ⟨x0, x1, x2, x3, x4, x5, x6, x7, x8, x9⟩ := x
  simp only [Ent.val] at HAG
  go_enter Tryd.func11, Tryd.ntmps11
  go_wp2_with fail
  generalize w.alloc (.cells #[.int .i64 0, .int .i64 0, .int .i64 0, .int .i64 0, .int .i64 0, .int .i64 0, .int .i64 0, .int .u32 0, .int .u32 0, .int .u32 0, .int .u32 0, .int .u32 0, .bool false] 33) = W at *
  refine HMC.out.mono ?_
  rintro e w1 ⟨rfl, hb1⟩
  have HB1 := Lib.hid (HB0.out.trans (hb1.mono HB0.out.size))
  have HM1 := Lib.hid (HM0.out.below hb1 HM0.out.lt)
  have c2 := (HC.out _ HB1.out).bc.cell 2
  simp at c2
  have HAC := Lib.hid (HAG.out _ HB1.out)
  clear hb1
  go_wp2_with fail
  refine HAC.out.mono ?_
  rintro e w2 ⟨rfl, hb2⟩
  have HB2 := Lib.hid (HB1.out.trans (hb2.mono HB1.out.size))
  have HM2 := Lib.hid (HM1.out.below hb2 HM1.out.lt)
  clear hb2 c2
  have hb3 := HB2.out.alloc HB2.out.size (.cells #[.int .i64 x0, .int .i64 x1, .int .i64 x2, .int .i64 x3, .int .u32 x4, .int .u32 x5, .int .u32 x6, .int .u32 x7, .bool x8, .bool x9] 69)
  have HM3 := Lib.hid (HM2.out.below ((Below.refl w2.heap.size w2).alloc (Nat.le_refl _) (.cells #[.int .i64 x0, .int .i64 x1, .int .i64 x2, .int .i64 x3, .int .u32 x4, .int .u32 x5, .int .u32 x6, .int .u32 x7, .bool x8, .bool x9] 69)) HM2.out.lt)
  have HB3 := Lib.hid hb3
  clear hb3
  go_wp2_with fail
  refine (HAB.out _ HB3.out).mono ?_
  rintro e w4 ⟨rfl, hb4⟩
  have HB4 := Lib.hid (HB3.out.trans (hb4.mono HB3.out.size))
  have HM4 := Lib.hid (HM3.out.below hb4 HM3.out.lt)
  have c2 := (HC.out _ HB4.out).bc.cell 2
  simp at c2
  clear hb4
  go_wp2_with fail
  refine (HRO.out _ HB4.out).mono ?_
  rintro e w5 ⟨rfl, hb5⟩
  have HB5 := Lib.hid (HB4.out.trans (hb5.mono HB4.out.size))
  have HM5 := Lib.hid (HM4.out.below hb5 HM4.out.lt)
  clear hb5 c2
  go_wp2_with fail
  refine (HEV.out _ HB5.out).mono ?_
  rintro e w6 ⟨rfl, hst⟩
  have HM6 := Lib.hid (HM5.out.frl hst.frl (fun hm => by have := HLT.out _ hm; omega))
  have HST := Lib.hid hst
  clear hst
  go_wp2_with (refine wl_store rfl (.tmp 10) (.tmp 95) 33 rfl w.heap.size 0 33 (Msg.cells ⟨r1, r2, r3, r4, r5, r6, r7, r8, r9, r10, r11, r12, r13⟩) rfl rfl msgSize _ HM6.out (msgOne _) (by simp [Msg.cells]) ?d1)
  case d1 =>
    intro wz hoz hblk
    have HK := Lib.hid (msgOver (m := Msg.zero) (m' := ⟨r1, r2, r3, r4, r5, r6, r7, r8, r9, r10, r11, r12, r13⟩) hblk)
    have HSz := Lib.hid (HST.out.only HB5.out HLT.out (Nat.le_refl _) HM5.out.lt hoz)
    clear hoz hblk
    go_wp2
    exact bodyPost_ret (v := .tuple #[Msg.val ⟨r1, r2, r3, r4, r5, r6, r7, r8, r9, r10, r11, r12, r13⟩, erv p line er]) (results_msg2 Tryd.results11 ⟨r1, r2, r3, r4, r5, r6, r7, r8, r9, r10, r11, r12, r13⟩ _ rfl rfl HK.out) rfl ⟨rfl, HSz.out⟩


end Go.Proofs.YtnieambhpmnliaaDoor
