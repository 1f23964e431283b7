/- A cache: Read, Write. -/
import Derived.Test.YtnieambhpmnliaaDoorCache
namespace Go.Proofs.YtnieambhpmnliaaDoor
set_option linter.all false
set_option linter.unusedVariables false
set_option linter.unusedSimpArgs false
open Go Go.RowKit

theorem getA_some {n k A line x} (hok : AOk n k A) (h : getA A line = some x) : within line 0 31 = true ∧ x.line = line ∧ x.state ≠ 0 ∧ EOk x ∧ ∀ y : Ent, y.line = line → (putA A y).isSome := by
  unfold getA at h
  split at h
  case isFalse => cases h
  case isTrue hl =>
    rcases idxP_cases (isLine line) (waysOf A line) with ⟨hi, hf, _⟩ | ⟨j, hj, hi, hp, hf, _⟩
    · rw [hf] at h; cases h
    · rw [hf] at h
      cases h
      simp [isLine] at hp
      refine ⟨hl, hp.2, hp.1, (hok.way line).2.2 _ (List.getElem_mem hj) hp.1, fun y hy => ?_⟩
      unfold putA putIx
      rw [hy, hi]
      simp
/-- What the cache is when a line's entry was used. -/
def useC (c : Ca) (x : Ent) : Ca := { c with A := touchA ((putA c.A { x with fresh := false }).getD c.A) x.line }
def dword (x : Ent) (word : Int) : Int := if word = 0 then x.d0 else if word = 1 then x.d1 else if word = 2 then x.d2 else x.d3
def readC (c : Ca) (line word : Int) : (Int × Bool) × Ca :=
  if usableC c line word then ((dword (entC c line) word, true), useC c (entC c line)) else ((0, false), c)
theorem usable_some {c : Ca} {line word : Int} (h : usableC c line word = true) : getA c.A line = some (entC c line) ∧ 0 ≤ word ∧ word < 4 := by
  unfold usableC at h
  unfold entC
  cases hg : getA c.A line with
  | none => rw [hg] at h; simp at h
  | some x => rw [hg] at h; simp at h; exact ⟨by simp, h.1.2, h.2⟩
theorem CStep.same {B w cb c F w'} (h : CAt B w cb c F) (hb : Below w.heap.size w w') : CStep B w cb F w' c := ⟨F, h.below hb, Grow.refl _ _, FrL.below _ hb⟩
theorem CStep.pre {B w w1 cb F w' c'} (h : CStep B w1 cb F w' c') (hb : Below w.heap.size w w1) : CStep B w cb F w' c' := by
  obtain ⟨F', h1, h2, h3⟩ := h
  exact ⟨F', h1, ⟨h2.1, fun x hx => by rcases h2.2 x hx with h | h; exact Or.inl h; exact Or.inr (Nat.le_trans hb.size h)⟩, (FrL.below _ hb).trans h3⟩
theorem CStep.post {B w cb F w1 w' c'} (h : CStep B w cb F w1 c') (hb : Below w1.heap.size w1 w') : CStep B w cb F w' c' := by
  obtain ⟨F', h1, h2, h3⟩ := h
  exact ⟨F', h1.below hb, h2, h3.trans (FrL.below _ hb)⟩

/-- The entry with a word. -/
theorem use_calls (B : Nat) (c : Ca) (line : Int) (x y : Ent) (cb : Nat) (F : List Nat) (w : World) (h : CAt B w cb c F) (hg : getA c.A line = some x) (hy : y.line = x.line) (hyo : EOk y) (hB : B ≤ w.heap.size) :
    Calls Tryd.prog 36 #[.pointer (some ⟨cb, 0, none⟩), y.val] w fun e w' => e = .returned (.tuple #[]) ∧ CStep B w cb F w' (useC c y) := by
  obtain ⟨h1, h2, h3, h4, h5⟩ := getA_some h.ok.a hg
  obtain ⟨A', hA⟩ := Option.isSome_iff_exists.1 (h5 { y with fresh := false } (hy.trans h2))
  have := used_calls B c y A' cb F w h hyo hB hA
  unfold useC
  rw [hA]
  exact this

set_option maxHeartbeats 1000000 in
theorem read_no (B : Nat) (c : Ca) (line word : Int) (cb : Nat) (F : List Nat) (w : World) (h : CAt B w cb c F) (hu : usableC c line word = false) :
    Calls Tryd.prog 14 #[.pointer (some ⟨cb, 0, none⟩), .int .i64 line, .int .i64 word] w fun e w' => e = .returned (.tuple #[.int .u32 0, .bool false]) ∧ Below w.heap.size w w' := by
  have hc := usable_calls B c line word cb F w h
  rw [hu] at hc
  clear h
  generalize entC c line = x at hc
  obtain ⟨x0, x1, x2, x3, x4, x5, x6, x7, x8, x9⟩ := x
  simp only [Ent.val] at hc
  have HC := Lib.hid hc
  clear hc
  go_enter Tryd.func14, Tryd.ntmps14
  go_wp2_with fail
  refine HC.out.mono ?_; rintro e w1 ⟨rfl, hb1⟩
  go_wp2
  go_ret2
  exact ⟨rfl, hb1.alloc hb1.size _⟩

set_option maxHeartbeats 1000000 in
theorem read_yes (B : Nat) (c : Ca) (line word : Int) (cb : Nat) (F : List Nat) (w : World) (h : CAt B w cb c F) (hB : B ≤ w.heap.size) (hu : usableC c line word = true) :
    Calls Tryd.prog 14 #[.pointer (some ⟨cb, 0, none⟩), .int .i64 line, .int .i64 word] w fun e w' => e = .returned (.tuple #[.int .u32 (dword (entC c line) word), .bool true]) ∧ CStep B w cb F w' (useC c (entC c line)) := by
  have hc := usable_calls B c line word cb F w h
  rw [hu] at hc
  obtain ⟨hg, w0, w4⟩ := usable_some hu
  have hlt := h.lt
  have HU := Lib.hid (fun w1 (hb : Below w.heap.size w w1) => use_calls B c line (entC c line) (entC c line) cb F w1 (h.below hb) hg rfl (getA_some h.ok.a hg).2.2.2.1 (Nat.le_trans hB hb.size))
  clear h hg hu
  have hw : word = 0 ∨ word = 1 ∨ word = 2 ∨ word = 3 := by omega
  generalize entC c line = x at hc HU ⊢
  obtain ⟨x0, x1, x2, x3, x4, x5, x6, x7, x8, x9⟩ := x
  simp only [Ent.val] at hc HU
  have HC := Lib.hid hc
  have HL := Lib.hid hlt
  clear hc w0 w4 hlt
  rcases hw with rfl | rfl | rfl | rfl
  all_goals
    go_enter Tryd.func14, Tryd.ntmps14
    go_wp2_with fail
    refine HC.out.mono ?_; rintro e w1 ⟨rfl, hb1⟩
    go_wp2_with fail
    have hb2 := hb1.alloc hb1.size (.cells #[.int .i64 x0, .int .i64 x1, .int .i64 x2, .int .i64 x3, .int .u32 x4, .int .u32 x5, .int .u32 x6, .int .u32 x7, .bool x8, .bool x9] 69)
    have hbx : Blk (w1.alloc (.cells #[.int .i64 x0, .int .i64 x1, .int .i64 x2, .int .i64 x3, .int .u32 x4, .int .u32 x5, .int .u32 x6, .int .u32 x7, .bool x8, .bool x9] 69)) w1.heap.size 69 (Ent.cells ⟨x0, x1, x2, x3, x4, x5, x6, x7, x8, x9⟩) := blk_new w1 _ _ _ rfl
    have hnm : w1.heap.size ∉ F := fun hm => by have := HL.out _ hm; have := hb1.size; omega
    refine (HU.out _ hb2).mono ?_
    rintro e w3 ⟨rfl, hst⟩
    obtain ⟨r0, r1, r2, r3, r4, r5, r6, r7, r8, r9⟩ := entAt0 (hbx.frl hst.choose_spec.2.2 hnm)
    simp only [Nat.zero_add] at r1 r2 r3 r4 r5 r6 r7 r8 r9
    have HS := Lib.hid (hst.pre hb2)
    clear hst hbx
    go_wp2
    go_ret2
    exact ⟨rfl, HS.out⟩

def setWord (x : Ent) (word v : Int) : Ent := if word = 0 then { x with d0 := v } else if word = 1 then { x with d1 := v } else if word = 2 then { x with d2 := v } else { x with d3 := v }
def writeC (c : Ca) (line word v : Int) : Bool × Ca :=
  if usableC c line word && writes (entC c line).state then (true, useC c (setWord { entC c line with state := 4 } word v)) else (false, c)

set_option maxHeartbeats 1000000 in
theorem write_no (B : Nat) (c : Ca) (line word v : Int) (cb : Nat) (F : List Nat) (w : World) (h : CAt B w cb c F) (hu : (usableC c line word && writes (entC c line).state) = false) :
    Calls Tryd.prog 15 #[.pointer (some ⟨cb, 0, none⟩), .int .i64 line, .int .i64 word, .int .u32 v] w fun e w' => e = .returned (.bool false) ∧ Below w.heap.size w w' := by
  have hc := usable_calls B c line word cb F w h
  clear h
  generalize entC c line = x at hc hu
  generalize usableC c line word = u at hc hu
  obtain ⟨x0, x1, x2, x3, x4, x5, x6, x7, x8, x9⟩ := x
  simp only [Ent.val] at hc hu
  have HC := Lib.hid hc
  clear hc
  cases u
  · go_enter Tryd.func15, Tryd.ntmps15
    go_wp2_with fail
    refine HC.out.mono ?_; rintro e w1 ⟨rfl, hb1⟩
    go_wp2
    go_ret
    exact ⟨rfl, hb1.alloc hb1.size _⟩
  · have hu' : writes x1 = false := by simpa using hu
    go_enter Tryd.func15, Tryd.ntmps15
    go_wp2_with fail
    refine HC.out.mono ?_; rintro e w1 ⟨rfl, hb1⟩
    go_wp2_with (go_at_call 37; refine (writes_calls _ _).mono ?_; rintro e w2 ⟨rfl, rfl⟩; rw [hu'])
    go_ret
    exact ⟨rfl, hb1.alloc hb1.size _⟩

set_option maxHeartbeats 1000000 in
theorem write_yes (B : Nat) (c : Ca) (line word v : Int) (cb : Nat) (F : List Nat) (w : World) (h : CAt B w cb c F) (hB : B ≤ w.heap.size) (hu : usableC c line word = true) (hwr : writes (entC c line).state = true) :
    Calls Tryd.prog 15 #[.pointer (some ⟨cb, 0, none⟩), .int .i64 line, .int .i64 word, .int .u32 v] w fun e w' => e = .returned (.bool true) ∧ CStep B w cb F w' (useC c (setWord { entC c line with state := 4 } word v)) := by
  have hc := usable_calls B c line word cb F w h
  rw [hu] at hc
  obtain ⟨hg, w0, w4⟩ := usable_some hu
  have hw : word = 0 ∨ word = 1 ∨ word = 2 ∨ word = 3 := by omega
  have hx := (getA_some h.ok.a hg).2.2.2.1
  have hsl : (setWord { entC c line with state := 4 } word v).line = (entC c line).line := by unfold setWord; (repeat' split) <;> rfl
  have hso : EOk (setWord { entC c line with state := 4 } word v) := by
    unfold setWord
    (repeat' split) <;> exact ⟨hx.line, (⟨by decide, by decide⟩ : (1 : Int) ≤ 4 ∧ (4 : Int) ≤ 4), hx.mode, hx.epoch⟩
  have HU := Lib.hid (fun w1 (hb : Below w.heap.size w w1) => use_calls B c line (entC c line) (setWord { entC c line with state := 4 } word v) cb F w1 (h.below hb) hg hsl hso (Nat.le_trans hB hb.size))
  clear h hg hu hx hsl hso
  generalize entC c line = x at hc HU hwr ⊢
  obtain ⟨x0, x1, x2, x3, x4, x5, x6, x7, x8, x9⟩ := x
  simp only [Ent.val] at hc hwr
  have HC := Lib.hid hc
  clear hc w0 w4
  rcases hw with rfl | rfl | rfl | rfl
  all_goals
    simp only [setWord, Ent.val, Int.reduceEq, if_true, if_false] at HU ⊢
    go_enter Tryd.func15, Tryd.ntmps15
    go_wp2_with fail
    refine HC.out.mono ?_; rintro e w1 ⟨rfl, hb1⟩
    have HB := Lib.hid (fun o : Obj => hb1.alloc hb1.size o)
    go_wp2_with (first | (go_at_call 37; refine (writes_calls _ _).mono ?_; rintro e w2 ⟨rfl, rfl⟩; rw [hwr]) | (go_at_call 36; refine (HU.out _ (HB.out _)).mono ?_; rintro e w3 ⟨rfl, hst⟩; have HS := Lib.hid (hst.pre (HB.out _)); clear hst))
    go_ret
    exact ⟨rfl, HS.out⟩

end Go.Proofs.YtnieambhpmnliaaDoor
