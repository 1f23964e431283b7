/- The lines of a cache (array): Put, Drop, Touch. Printed by gen_arr4.py. -/
import Derived.Test.YtnieambhpmnliaaDoorArr3
import Derived.StillTailTactics
namespace Go.Proofs.YtnieambhpmnliaaDoor
set_option linter.all false
set_option linter.unusedVariables false
set_option linter.unusedSimpArgs false
open Go Go.RowKit

def putIx (A : Sets) (line : Int) : Int := if 0 ≤ idxP (isLine line) (waysOf A line) then idxP (isLine line) (waysOf A line) else idxP isFree (waysOf A line)

set_option maxRecDepth 100000 in
set_option maxHeartbeats 1000000 in
theorem put_found (B : Nat) (n k : Nat) (A : Sets) (x : Ent) (ab sb : Nat) (wbs : List Nat) (w : World) (hok : AOk n k A) (h : ArrR B w ab sb wbs A) (hx : EOk x) (hB : B ≤ w.heap.size) (j : Nat) (hj : j < (waysOf A x.line).length)
    (hi : idxP (isLine x.line) (waysOf A x.line) = (j : Int)) :
    Calls Tryd.prog 33 #[.pointer (some ⟨ab, 0, none⟩), x.val] w fun e w' => e = .returned .nilIface ∧ ArrR B w' ab sb wbs (setRowA A x.line (bitsOf A x.line, (waysOf A x.line).set j x)) ∧ Fr B [69] w w' ∧ FrL (sb :: wbs) w w' := by
  have hba := (Below.refl w.heap.size w).alloc (Nat.le_refl _) (.cells x.cells.toArray 69)
  obtain ⟨⟨l0, l1⟩, ⟨s0, s1⟩, ⟨m0, m1⟩, ⟨p0, p1⟩⟩ := hx
  have hw : within x.line 0 31 = true := by simp [within, l0, l1]
  have h' := h.below hba
  have hc := find_calls B n k A x.line ab sb wbs _ hok h' hw
  rw [hi] at hc
  have HR := Lib.hid (fun w1 (h1 : ArrR B w1 ab sb wbs A) => h1.row hok x.line)
  have HU := Lib.hid (fun (w1 w2 : World) (h1 : ArrR B w1 ab sb wbs A) => h1.ents (w' := w2) hok x.line ((waysOf A x.line).set j x) (by simp))
  have H' := Lib.hid h'
  have HO := Lib.hid hba
  have HC := Lib.hid hc
  have HM := h.mem hok x.line
  clear h h' hc hba hok hw
  obtain ⟨x0, x1, x2, x3, x4, x5, x6, x7, x8, x9⟩ := x
  simp only at *
  generalize setNo A x0 = i at HR HC ⊢
  generalize hes : waysOf A x0 = es at HR HU hj ⊢
  generalize bitsOf A x0 = bits at HR HU ⊢
  generalize wbOf wbs A x0 = wb at HR HU HM ⊢
  simp only [Ent.cells, Ent.val] at HC H' HO ⊢
  go_enter Tryd.func33, Tryd.ntmps33
  go_wp2_with fail
  refine HC.out.mono ?_; rintro e w1 ⟨rfl, hb1⟩
  have hbox : Blk w1 w.heap.size 69 (Ent.cells ⟨x0, x1, x2, x3, x4, x5, x6, x7, x8, x9⟩) :=
    Blk.below (n := (w.alloc (.cells (Ent.cells ⟨x0, x1, x2, x3, x4, x5, x6, x7, x8, x9⟩).toArray 69)).heap.size) (heap_alloc_new w _) hb1 (by simp)
  obtain ⟨r0, r1, r2, r3, r4, r5, r6, r7, r8, r9⟩ := entAt0 hbox
  simp only [Nat.zero_add] at r1 r2 r3 r4 r5 r6 r7 r8 r9
  have hr := HR.out _ (H'.out.below hb1)
  have c1 := hr.cw
  have BW := Lib.hid hr.bw
  have k8 := hr.hi
  have j0 : (0 : Int) ≤ (j : Int) := by omega
  have j1 : (j : Int) < (es.length : Int) := by omega
  clear hbox
  go_wp2_with fail
  go_still_tail 7, (by kernel_rfl)
  change wpList _ _ _ _ _ w1.drew
  have hdr : ArrR B w1.drew ab sb wbs A := (H'.out.below hb1).below ((Below.refl _ _).drew)
  have HD := Lib.hid hdr
  have hfd := ((Fr.below (S := [69]) HO.out hB).trans (Fr.below hb1 (by simp; omega))).drew
  have hfl := ((FrL.below (sb :: wbs) HO.out).trans (FrL.below (sb :: wbs) hb1)).drew
  have HB := hr.hB
  have BD : Hid (Blk w1.drew wb 69 (entCells es)) := BW.out
  clear hdr hr
  generalize w1.drew = wd at HD hfd hfl BD ⊢
  refine wl_store rfl (.tmp 66) (.tmp 65) 69 rfl wb (j * 10) 69 (Ent.cells ⟨x0, x1, x2, x3, x4, x5, x6, x7, x8, x9⟩) rfl rfl entSize (entCells es) BD.out (entCells_one _) (by rw [entCells_length]; simp only [Ent.cells, List.length_cons, List.length_nil]; omega) ?_
  intro wf hof hbf
  rw [entCells_set es j _ hj] at hbf
  have hfin := HU.out _ _ HD.out hof hbf
  have hff := And.intro (hfd.trans (hof.fr BD.out (by simp) HB)) (hfl.trans (hof.frl (sb :: wbs) (List.mem_cons_of_mem _ HM)))
  clear hbf hof
  have HF := Lib.hid hfin
  have HG := Lib.hid hff
  clear hfin hff
  go_wp2
  go_ret
  exact ⟨rfl, HF.out, HG.out.1, HG.out.2⟩

set_option maxRecDepth 100000 in
set_option maxHeartbeats 1000000 in
theorem put_free (B : Nat) (n k : Nat) (A : Sets) (x : Ent) (ab sb : Nat) (wbs : List Nat) (w : World) (hok : AOk n k A) (h : ArrR B w ab sb wbs A) (hx : EOk x) (hB : B ≤ w.heap.size) (j : Nat) (hj : j < (waysOf A x.line).length)
    (hi : idxP (isLine x.line) (waysOf A x.line) = -1) (hi2 : idxP isFree (waysOf A x.line) = (j : Int)) :
    Calls Tryd.prog 33 #[.pointer (some ⟨ab, 0, none⟩), x.val] w fun e w' => e = .returned .nilIface ∧ ArrR B w' ab sb wbs (setRowA A x.line (bitsOf A x.line, (waysOf A x.line).set j x)) ∧ Fr B [69] w w' ∧ FrL (sb :: wbs) w w' := by
  have hba := (Below.refl w.heap.size w).alloc (Nat.le_refl _) (.cells x.cells.toArray 69)
  obtain ⟨⟨l0, l1⟩, ⟨s0, s1⟩, ⟨m0, m1⟩, ⟨p0, p1⟩⟩ := hx
  have hw : within x.line 0 31 = true := by simp [within, l0, l1]
  have h' := h.below hba
  have hc := find_calls B n k A x.line ab sb wbs _ hok h' hw
  rw [hi] at hc
  have HR := Lib.hid (fun w1 (h1 : ArrR B w1 ab sb wbs A) => h1.row hok x.line)
  have HU := Lib.hid (fun (w1 w2 : World) (h1 : ArrR B w1 ab sb wbs A) => h1.ents (w' := w2) hok x.line ((waysOf A x.line).set j x) (by simp))
  have H' := Lib.hid h'
  have HO := Lib.hid hba
  have HC := Lib.hid hc
  have HM := h.mem hok x.line
  clear h h' hc hba hok hw
  obtain ⟨x0, x1, x2, x3, x4, x5, x6, x7, x8, x9⟩ := x
  simp only at *
  generalize setNo A x0 = i at HR HC ⊢
  generalize hes : waysOf A x0 = es at HR HU hj hi2 ⊢
  generalize bitsOf A x0 = bits at HR HU ⊢
  generalize wbOf wbs A x0 = wb at HR HU HM ⊢
  simp only [Ent.cells, Ent.val] at HC H' HO ⊢
  go_enter Tryd.func33, Tryd.ntmps33
  go_wp2_with fail
  refine HC.out.mono ?_; rintro e w1 ⟨rfl, hb1⟩
  have hbox : Blk w1 w.heap.size 69 (Ent.cells ⟨x0, x1, x2, x3, x4, x5, x6, x7, x8, x9⟩) :=
    Blk.below (n := (w.alloc (.cells (Ent.cells ⟨x0, x1, x2, x3, x4, x5, x6, x7, x8, x9⟩).toArray 69)).heap.size) (heap_alloc_new w _) hb1 (by simp)
  obtain ⟨r0, r1, r2, r3, r4, r5, r6, r7, r8, r9⟩ := entAt0 hbox
  simp only [Nat.zero_add] at r1 r2 r3 r4 r5 r6 r7 r8 r9
  have hr := HR.out _ (H'.out.below hb1)
  have hfr := free_calls B sb wb i bits es w1 hr
  rw [hi2] at hfr
  have j0 : (0 : Int) ≤ (j : Int) := by omega
  have j1 : (j : Int) < (es.length : Int) := by omega
  have k8 := hr.hi
  have HX := Lib.hid hbox
  clear hbox hr
  go_wp2_with fail
  refine hfr.mono ?_; rintro e w2 ⟨rfl, hb2⟩
  have hb12 := hb1.trans (hb2.mono hb1.size)
  have hr := HR.out _ (H'.out.below hb12)
  clear r0 r1 r2 r3 r4 r5 r6 r7 r8 r9
  obtain ⟨r0, r1, r2, r3, r4, r5, r6, r7, r8, r9⟩ := entAt0 (HX.out.below hb2 HX.out.lt)
  simp only [Nat.zero_add] at r1 r2 r3 r4 r5 r6 r7 r8 r9
  have c1 := hr.cw
  have BW := Lib.hid hr.bw
  go_wp2_with fail
  go_still_tail 7, (by kernel_rfl)
  change wpList _ _ _ _ _ w2.drew
  have hdr : ArrR B w2.drew ab sb wbs A := (H'.out.below hb12).below ((Below.refl _ _).drew)
  have HD := Lib.hid hdr
  have hfd := ((Fr.below (S := [69]) HO.out hB).trans (Fr.below hb12 (by simp; omega))).drew
  have hfl := ((FrL.below (sb :: wbs) HO.out).trans (FrL.below (sb :: wbs) hb12)).drew
  have HB := hr.hB
  have BD : Hid (Blk w2.drew wb 69 (entCells es)) := BW.out
  clear hdr hr
  generalize w2.drew = wd at HD hfd hfl BD ⊢
  refine wl_store rfl (.tmp 66) (.tmp 65) 69 rfl wb (j * 10) 69 (Ent.cells ⟨x0, x1, x2, x3, x4, x5, x6, x7, x8, x9⟩) rfl rfl entSize (entCells es) BD.out (entCells_one _) (by rw [entCells_length]; simp only [Ent.cells, List.length_cons, List.length_nil]; omega) ?_
  intro wf hof hbf
  rw [entCells_set es j _ hj] at hbf
  have hfin := HU.out _ _ HD.out hof hbf
  have hff := And.intro (hfd.trans (hof.fr BD.out (by simp) HB)) (hfl.trans (hof.frl (sb :: wbs) (List.mem_cons_of_mem _ HM)))
  clear hbf hof
  have HF := Lib.hid hfin
  have HG := Lib.hid hff
  clear hfin hff
  go_wp2
  go_ret
  exact ⟨rfl, HF.out, HG.out.1, HG.out.2⟩

set_option maxRecDepth 100000 in
set_option maxHeartbeats 1000000 in
theorem put_full (B : Nat) (n k : Nat) (A : Sets) (x : Ent) (p : Nat → Addr) (ab sb : Nat) (wbs : List Nat) (w : World) (hok : AOk n k A) (h : ArrR B w ab sb wbs A) (hx : EOk x) (hg : Sent B w p)
    (hi : idxP (isLine x.line) (waysOf A x.line) = -1) (hi2 : idxP isFree (waysOf A x.line) = -1) :
    Calls Tryd.prog 33 #[.pointer (some ⟨ab, 0, none⟩), x.val] w fun e w' => e = .returned (errv p [97, 114, 114, 97, 121, 46, 80, 117, 116] x.line 6) ∧ Below w.heap.size w w' := by
  have hba := (Below.refl w.heap.size w).alloc (Nat.le_refl _) (.cells x.cells.toArray 69)
  obtain ⟨⟨l0, l1⟩, ⟨s0, s1⟩, ⟨m0, m1⟩, ⟨p0, p1⟩⟩ := hx
  have hw : within x.line 0 31 = true := by simp [within, l0, l1]
  have h' := h.below hba
  have hc := find_calls B n k A x.line ab sb wbs _ hok h' hw
  rw [hi] at hc
  have HR := Lib.hid (fun w1 (h1 : ArrR B w1 ab sb wbs A) => h1.row hok x.line)
  have H' := Lib.hid h'
  have HO := Lib.hid hba
  have HC := Lib.hid hc
  have HG := Lib.hid hg
  clear h h' hc hba hok hw hg
  obtain ⟨x0, x1, x2, x3, x4, x5, x6, x7, x8, x9⟩ := x
  simp only at *
  generalize setNo A x0 = i at HR HC ⊢
  generalize hes : waysOf A x0 = es at HR hi2 ⊢
  generalize bitsOf A x0 = bits at HR ⊢
  generalize wbOf wbs A x0 = wb at HR ⊢
  simp only [Ent.cells, Ent.val] at HC H' HO ⊢
  go_enter Tryd.func33, Tryd.ntmps33
  go_wp2_with fail
  refine HC.out.mono ?_; rintro e w1 ⟨rfl, hb1⟩
  have hbox : Blk w1 w.heap.size 69 (Ent.cells ⟨x0, x1, x2, x3, x4, x5, x6, x7, x8, x9⟩) :=
    Blk.below (n := (w.alloc (.cells (Ent.cells ⟨x0, x1, x2, x3, x4, x5, x6, x7, x8, x9⟩).toArray 69)).heap.size) (heap_alloc_new w _) hb1 (by simp)
  obtain ⟨r0, r1, r2, r3, r4, r5, r6, r7, r8, r9⟩ := entAt0 hbox
  simp only [Nat.zero_add] at r1 r2 r3 r4 r5 r6 r7 r8 r9
  have hr := HR.out _ (H'.out.below hb1)
  have hfr := free_calls B sb wb i bits es w1 hr
  rw [hi2] at hfr
  have HX := Lib.hid hbox
  clear hbox hr
  go_wp2_with fail
  refine hfr.mono ?_; rintro e w2 ⟨rfl, hb2⟩
  have hb12 := HO.out.trans ((hb1.trans (hb2.mono hb1.size)).mono (by simp))
  have g6 := (HG.out.below hb12).g6
  unfold sentv at g6
  clear r0 r1 r2 r3 r4 r5 r6 r7 r8 r9
  have r0 := (entAt0 (HX.out.below hb2 HX.out.lt)).c0
  go_wp2_with (go_at_call 22; refine (wrap_calls _ _ _ _ _).mono ?_; rintro e w3 ⟨rfl, rfl⟩)
  go_ret
  exact ⟨rfl, hb12⟩

/-- The array with an entry put in; none: there is no room. -/
def putA (A : Sets) (x : Ent) : Option Sets :=
  if 0 ≤ putIx A x.line then some (setRowA A x.line (bitsOf A x.line, (waysOf A x.line).set (putIx A x.line).toNat x)) else none

theorem idxP_ge {α : Type} (q : α → Bool) (l : List α) : -1 ≤ idxP q l := by
  unfold idxP; split <;> omega

theorem put_calls (B : Nat) (n k : Nat) (A A' : Sets) (x : Ent) (ab sb : Nat) (wbs : List Nat) (w : World) (hok : AOk n k A) (h : ArrR B w ab sb wbs A) (hx : EOk x) (hB : B ≤ w.heap.size) (hp : putA A x = some A') :
    Calls Tryd.prog 33 #[.pointer (some ⟨ab, 0, none⟩), x.val] w fun e w' => e = .returned .nilIface ∧ ArrR B w' ab sb wbs A' ∧ AOk n k A' ∧ Fr B [69] w w' ∧ FrL (sb :: wbs) w w' := by
  have hway := hok.way x.line
  have hAok : ∀ j, AOk n k (setRowA A x.line (bitsOf A x.line, (waysOf A x.line).set j x)) := fun j => by
    refine hok.row x.line _ _ (by simpa using hway.1) hway.2.1 (fun e he hs => ?_)
    rcases List.mem_or_eq_of_mem_set he with h1 | rfl
    · exact hway.2.2 e h1 hs
    · exact hx
  unfold putA putIx at hp
  rcases idxP_cases (isLine x.line) (waysOf A x.line) with ⟨hi, _, _⟩ | ⟨j, hj, hi, _, _, _⟩
  · rw [hi] at hp
    simp only [show ¬ (0 : Int) ≤ -1 by omega, if_false] at hp
    rcases idxP_cases isFree (waysOf A x.line) with ⟨hi2, _, _⟩ | ⟨j, hj, hi2, _, _, _⟩
    · rw [hi2] at hp; simp at hp
    · rw [hi2] at hp
      simp at hp
      subst hp
      exact (put_free B n k A x ab sb wbs w hok h hx hB j hj hi hi2).mono (fun e w' ⟨h1, h2, h3⟩ => ⟨h1, h2, hAok j, h3⟩)
  · rw [hi] at hp
    simp at hp
    subst hp
    exact (put_found B n k A x ab sb wbs w hok h hx hB j hj hi).mono (fun e w' ⟨h1, h2, h3⟩ => ⟨h1, h2, hAok j, h3⟩)

theorem put_none (B : Nat) (n k : Nat) (A : Sets) (x : Ent) (p : Nat → Addr) (ab sb : Nat) (wbs : List Nat) (w : World) (hok : AOk n k A) (h : ArrR B w ab sb wbs A) (hx : EOk x) (hg : Sent B w p) (hp : putA A x = none) :
    Calls Tryd.prog 33 #[.pointer (some ⟨ab, 0, none⟩), x.val] w fun e w' => e = .returned (errv p [97, 114, 114, 97, 121, 46, 80, 117, 116] x.line 6) ∧ Below w.heap.size w w' := by
  unfold putA putIx at hp
  rcases idxP_cases (isLine x.line) (waysOf A x.line) with ⟨hi, _, _⟩ | ⟨j, hj, hi, _, _, _⟩
  · rw [hi] at hp
    simp only [show ¬ (0 : Int) ≤ -1 by omega, if_false] at hp
    rcases idxP_cases isFree (waysOf A x.line) with ⟨hi2, _, _⟩ | ⟨j, hj, hi2, _, _, _⟩
    · exact put_full B n k A x p ab sb wbs w hok h hx hg hi hi2
    · rw [hi2] at hp; simp at hp
  · rw [hi] at hp; simp at hp

set_option maxHeartbeats 1000000 in
theorem drop_at (B : Nat) (n k : Nat) (A : Sets) (line : Int) (ab sb : Nat) (wbs : List Nat) (w : World) (hok : AOk n k A) (h : ArrR B w ab sb wbs A) (hl : within line 0 31 = true) (hB : B ≤ w.heap.size) (j : Nat) (hj : j < (waysOf A line).length)
    (hi : idxP (isLine line) (waysOf A line) = (j : Int)) :
    Calls Tryd.prog 39 #[.pointer (some ⟨ab, 0, none⟩), .int .i64 line] w fun e w' => e = .returned (.bool true) ∧ ArrR B w' ab sb wbs (setRowA A line (bitsOf A line, (waysOf A line).set j .zero)) ∧ Fr B [69] w w' ∧ FrL (sb :: wbs) w w' := by
  have hc := find_calls B n k A line ab sb wbs _ hok h hl
  rw [hi] at hc
  have HR := Lib.hid (fun w1 (h1 : ArrR B w1 ab sb wbs A) => h1.row hok line)
  have HU := Lib.hid (fun (w1 w2 : World) (h1 : ArrR B w1 ab sb wbs A) => h1.ents (w' := w2) hok line ((waysOf A line).set j .zero) (by simp))
  have H' := Lib.hid h
  have HC := Lib.hid hc
  have HM := h.mem hok line
  clear h hc hok
  generalize setNo A line = i at HR HC ⊢
  generalize hes : waysOf A line = es at HR HU hj ⊢
  generalize bitsOf A line = bits at HR HU ⊢
  generalize wbOf wbs A line = wb at HR HU HM ⊢
  go_enter Tryd.func39, Tryd.ntmps39
  go_wp2_with fail
  refine HC.out.mono ?_; rintro e w1 ⟨rfl, hb1⟩
  have hr := HR.out _ (H'.out.below hb1)
  have c1 := hr.cw
  have BW := Lib.hid hr.bw
  have k8 := hr.hi
  have HB := hr.hB
  have j0 : (0 : Int) ≤ (j : Int) := by omega
  have j1 : (j : Int) < (es.length : Int) := by omega
  clear hr
  go_wp2_with (refine wl_store rfl (.tmp 21) (.tmp 20) 69 rfl wb (j * 10) 69 Ent.zero.cells rfl rfl entSize (entCells es) BW.out (entCells_one _) ?d1 ?d2)
  case d1 => rw [entCells_length]; simp only [Ent.cells, Ent.zero, List.length_cons, List.length_nil]; omega
  case d2 =>
    intro wf hof hbf
    rw [← List.append_assoc, entCells_set es j _ hj] at hbf
    have hfin := HU.out _ _ (H'.out.below hb1) hof hbf
    have hff := And.intro ((Fr.below (S := [69]) hb1 hB).trans (hof.fr BW.out (by simp) HB)) ((FrL.below (sb :: wbs) hb1).trans (hof.frl (sb :: wbs) (List.mem_cons_of_mem _ HM)))
    clear hbf hof
    have HF := Lib.hid hfin
    have HG := Lib.hid hff
    clear hfin hff
    go_wp2
    go_ret
    exact ⟨rfl, HF.out, HG.out.1, HG.out.2⟩

set_option maxHeartbeats 1000000 in
theorem touch_at (B : Nat) (n k : Nat) (A : Sets) (line : Int) (ab sb : Nat) (wbs : List Nat) (w : World) (hok : AOk n k A) (h : ArrR B w ab sb wbs A) (hl : within line 0 31 = true) (hB : B ≤ w.heap.size) (j : Nat) (hj : j < (waysOf A line).length)
    (hi : idxP (isLine line) (waysOf A line) = (j : Int)) :
    Calls Tryd.prog 34 #[.pointer (some ⟨ab, 0, none⟩), .int .i64 line] w fun e w' => e = .returned (.bool true) ∧ ArrR B w' ab sb wbs (setRowA A line (touch (bitsOf A line) k j, waysOf A line)) ∧ Fr B [92] w w' ∧ FrL (sb :: wbs) w w' := by
  have hc := find_calls B n k A line ab sb wbs _ hok h hl
  rw [hi] at hc
  have HR := Lib.hid (fun w1 (h1 : ArrR B w1 ab sb wbs A) => h1.row hok line)
  have HS := Lib.hid (fun w1 (h1 : ArrR B w1 ab sb wbs A) => h1.bs)
  have HSB := h.hsb
  have HU := Lib.hid (fun (w1 w2 : World) (h1 : ArrR B w1 ab sb wbs A) => h1.bitsTurn (w' := w2) hok line (touch (bitsOf A line) k j))
  have H' := Lib.hid h
  have HC := Lib.hid hc
  have hk := (hok.way line).1
  have hpk := hok.pk
  clear h hc hok
  subst hk
  generalize setNo A line = i at HR HC HU ⊢
  generalize hes : waysOf A line = es at HR HU hj hpk ⊢
  generalize bitsOf A line = bits at HR HU ⊢
  generalize wbOf wbs A line = wb at HR ⊢
  go_enter Tryd.func34, Tryd.ntmps34
  go_wp2_with fail
  refine HC.out.mono ?_; rintro e w1 ⟨rfl, hb1⟩
  have hr := HR.out _ (H'.out.below hb1)
  have c1 := hr.cw
  have c0 := hr.cb
  have f0 := (HS.out _ (H'.out.below hb1)).free (i * 2)
  have k8 := hr.hi
  have j0 : (0 : Int) ≤ (j : Int) := by omega
  have j1 : (j : Int) < (es.length : Int) := by omega
  have HT := Lib.hid (fun w1 => touch_calls bits es.length j w1 hpk j0 j1 hr.b0 hr.b1)
  clear hr
  go_wp2_with fail
  go_region_with (go_at_call 59; refine (HT.out _).mono ?_; rintro e w' ⟨rfl, rfl⟩)
  all_goals
    have hbs := HS.out _ (H'.out.below hb1)
    have e1 : w1.setCell ⟨sb, i * 2, none⟩ (.int .u8 (touch bits es.length j)) = w1.setRow sb ((setCells A wbs).set (i * 2) (.int .u8 (touch bits es.length j))).toArray := by
      rw [setCell_eq_setRow w1 sb (i * 2) _ _ _ _ hbs]; congr 1; simp
    have ho : Only sb w1 (w1.setCell ⟨sb, i * 2, none⟩ (.int .u8 (touch bits es.length j))).drew := by
      rw [e1]; have := Only.setRow w1 sb ((setCells A wbs).set (i * 2) (.int .u8 (touch bits es.length j))).toArray
      exact ⟨this.os, this.tape, this.output, this.size, this.block⟩
    have hbf : Blk (w1.setCell ⟨sb, i * 2, none⟩ (.int .u8 (touch bits es.length j))).drew sb 92 ((setCells A wbs).set (i * 2) (.int .u8 (touch bits es.length j))) := by
      rw [e1]; exact (hbs.setRow : Blk (w1.setRow sb ((setCells A wbs).set (i * 2) (.int .u8 (touch bits es.length j))).toArray) _ _ _)
    have HF := Lib.hid (HU.out _ _ (H'.out.below hb1) ho hbf)
    have HG := Lib.hid (And.intro ((Fr.below (S := [92]) hb1 hB).trans (ho.fr hbs (by simp) HSB)) ((FrL.below (sb :: wbs) hb1).trans (ho.frl (sb :: wbs) (by simp))))
    clear hbs e1 ho hbf
    go_wp2
    go_ret
    exact ⟨rfl, HF.out, HG.out.1, HG.out.2⟩

def there (A : Sets) (line : Int) : Bool := decide (0 ≤ idxP (isLine line) (waysOf A line))
def touchA (A : Sets) (line : Int) : Sets := if there A line then setRowA A line (touch (bitsOf A line) (waysOf A line).length (idxP (isLine line) (waysOf A line)), waysOf A line) else A
def dropA (A : Sets) (line : Int) : Sets := if there A line then setRowA A line (bitsOf A line, (waysOf A line).set (idxP (isLine line) (waysOf A line)).toNat .zero) else A

theorem touchGo_lo (f : Nat) : ∀ b node half way, 0 ≤ b ∧ b ≤ 255 → 0 ≤ touchGo f b node half way ∧ touchGo f b node half way ≤ 255 := by
  induction f with
  | zero => intro b node half way h; exact h
  | succ f ih =>
    intro b node half way h
    unfold touchGo
    split
    · split
      · exact ih _ _ _ _ ⟨bits_lo_u8 _ _ _, bits_hi_u8 _ _ _⟩
      · exact ih _ _ _ _ ⟨bits_lo_u8 _ _ _, bits_hi_u8 _ _ _⟩
    · exact h

set_option maxHeartbeats 400000 in
theorem atouch_calls (B : Nat) (n k : Nat) (A : Sets) (line : Int) (ab sb : Nat) (wbs : List Nat) (w : World) (hok : AOk n k A) (h : ArrR B w ab sb wbs A) (hl : within line 0 31 = true) (hB : B ≤ w.heap.size) :
    Calls Tryd.prog 34 #[.pointer (some ⟨ab, 0, none⟩), .int .i64 line] w fun e w' => e = .returned (.bool (there A line)) ∧ ArrR B w' ab sb wbs (touchA A line) ∧ AOk n k (touchA A line) ∧ Fr B [92] w w' ∧ FrL (sb :: wbs) w w' := by
  unfold touchA there
  have hway := hok.way line
  rcases idxP_cases (isLine line) (waysOf A line) with ⟨hi, _, _⟩ | ⟨j, hj, hi, _, _, _⟩
  · have hc := find_calls B n k A line ab sb wbs _ hok h hl
    rw [hi] at hc ⊢
    simp only [show ¬ (0 : Int) ≤ -1 by omega, decide_false, Bool.false_eq_true, if_false]
    have H' := Lib.hid h
    have HC := Lib.hid hc
    have HK := Lib.hid hok
    clear h hc hok hway hi
    go_enter Tryd.func34, Tryd.ntmps34
    go_wp2_with (first | (go_at_call 49; refine HC.out.mono ?_; rintro e w1 ⟨rfl, hb1⟩) | fail)
    go_ret
    exact ⟨rfl, H'.out.below hb1, HK.out, Fr.below hb1 hB, FrL.below _ hb1⟩
  · rw [hi]
    simp only [show (0 : Int) ≤ (j : Int) by omega, decide_true, if_true]
    rw [hway.1]
    refine (touch_at B n k A line ab sb wbs w hok h hl hB j hj hi).mono (fun e w' ⟨h1, h2, h3⟩ => ⟨h1, h2, ?_, h3⟩)
    exact hok.row line _ _ hway.1 (touchGo_lo _ _ _ _ _ hway.2.1) hway.2.2

set_option maxHeartbeats 400000 in
theorem adrop_calls (B : Nat) (n k : Nat) (A : Sets) (line : Int) (ab sb : Nat) (wbs : List Nat) (w : World) (hok : AOk n k A) (h : ArrR B w ab sb wbs A) (hl : within line 0 31 = true) (hB : B ≤ w.heap.size) :
    Calls Tryd.prog 39 #[.pointer (some ⟨ab, 0, none⟩), .int .i64 line] w fun e w' => e = .returned (.bool (there A line)) ∧ ArrR B w' ab sb wbs (dropA A line) ∧ AOk n k (dropA A line) ∧ Fr B [69] w w' ∧ FrL (sb :: wbs) w w' := by
  unfold dropA there
  have hway := hok.way line
  rcases idxP_cases (isLine line) (waysOf A line) with ⟨hi, _, _⟩ | ⟨j, hj, hi, _, _, _⟩
  · have hc := find_calls B n k A line ab sb wbs _ hok h hl
    rw [hi] at hc ⊢
    simp only [show ¬ (0 : Int) ≤ -1 by omega, decide_false, Bool.false_eq_true, if_false]
    have H' := Lib.hid h
    have HC := Lib.hid hc
    have HK := Lib.hid hok
    clear h hc hok hway hi
    go_enter Tryd.func39, Tryd.ntmps39
    go_wp2_with (first | (go_at_call 49; refine HC.out.mono ?_; rintro e w1 ⟨rfl, hb1⟩) | fail)
    go_ret
    exact ⟨rfl, H'.out.below hb1, HK.out, Fr.below hb1 hB, FrL.below _ hb1⟩
  · rw [hi]
    simp only [show (0 : Int) ≤ (j : Int) by omega, decide_true, if_true, Int.toNat_natCast]
    refine (drop_at B n k A line ab sb wbs w hok h hl hB j hj hi).mono (fun e w' ⟨h1, h2, h3⟩ => ⟨h1, h2, ?_, h3⟩)
    refine hok.row line _ _ (by simpa using hway.1) hway.2.1 (fun e he hs => ?_)
    rcases List.mem_or_eq_of_mem_set he with h1 | rfl
    · exact hway.2.2 e h1 hs
    · exact absurd rfl hs

end Go.Proofs.YtnieambhpmnliaaDoor
