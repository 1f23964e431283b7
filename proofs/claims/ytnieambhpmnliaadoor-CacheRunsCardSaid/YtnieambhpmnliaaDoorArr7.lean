/- The lines of a cache (array): List. -/
import Derived.Test.YtnieambhpmnliaaDoorArr6
import Derived.Test.YtnieambhpmnliaaDoorApp
namespace Go.Proofs.YtnieambhpmnliaaDoor
set_option linter.all false
set_option linter.unusedVariables false
set_option linter.unusedSimpArgs false
open Go Go.RowKit

theorem entInfo : (Tryd.prog.info? 69).map (fun i => (i.zero, i.size, i.bytes)) = some (some Ent.zero.val, 10, 56) := by kernel_rfl

def live (es : List Ent) : List Ent := es.filter (fun e => e.state != 0)
/-- All entries, set by set. -/
def listA (A : Sets) : List Ent := A.flatMap (fun s => live s.2)
def SlE (w : World) (lv : Option Addr) (es : List Ent) (cap : Nat) : Prop := SlC w 69 10 lv es.length (entCells es) cap
theorem entCells_append (a b : List Ent) : entCells (a ++ b) = entCells a ++ entCells b := by simp [entCells]
theorem live_length (es : List Ent) : (live es).length ≤ es.length := List.length_filter_le _ _
theorem listA_length (A : Sets) (h : ∀ s ∈ A, s.2.length ≤ 8) : (listA A).length ≤ 8 * A.length := by
  induction A with
  | nil => simp [listA]
  | cons s A ih =>
    have h1 := h s (by simp)
    have h2 := ih (fun s hs => h s (by simp [hs]))
    have h3 := live_length s.2
    simp [listA] at h2 ⊢
    omega

set_option maxRecDepth 100000 in
set_option maxHeartbeats 1000000 in
theorem alist_calls (B : Nat) (n k : Nat) (A : Sets) (ab sb : Nat) (wbs : List Nat) (w : World) (hok : AOk n k A) (h : ArrR B w ab sb wbs A) :
    Calls Tryd.prog 43 #[.pointer (some ⟨ab, 0, none⟩)] w fun e w' => ∃ lv cap, e = .returned (.slice lv (listA A).length cap) ∧ SlE w' lv (listA A) cap ∧ Below w.heap.size w w' := by
  have c0 := h.ba.cell 0
  simp at c0
  have hn1 := power_hi hok.pn
  have hnl : A.length ≤ 8 := by have := hok.len; omega
  have H := Lib.hid h
  have hk8 := power_hi hok.pk
  have HK := Lib.hid (fun (t : Nat) (ht : t < A.length) => (by have := hok.ways _ (List.getElem_mem ht); omega : A[t].2.length ≤ 8))
  clear h hok
  go_enter Tryd.func43, Tryd.ntmps43
  go_wp2
  go_loopw [3, 13] (fun y x wr => ∃ (t : Nat) (lv : Option Addr) (cap : Nat), t ≤ A.length ∧ x = .int .i64 t ∧ y = .slice lv (listA (A.take t)).length cap ∧ SlE wr lv (listA (A.take t)) cap ∧ (∀ q, lv = some q → w.heap.size ≤ q.block) ∧ Below w.heap.size w wr) (fun _ x _ => A.length - (intOf x).toNat)
  case atStart => exact ⟨0, none, 0, Nat.zero_le _, rfl, rfl, SlC.nil _ _ _, fun q hq => (by cases hq), Below.refl _ _⟩
  case round =>
    obtain ⟨t, lv, cap, ht, rfl, rfl, hs, hq, hbel⟩ := hrel
    have HS := Lib.hid hs
    have HQ := Lib.hid hq
    clear hs hq
    by_cases hlt : t < A.length
    · have hA := H.out.below hbel
      have hlw : t < wbs.length := by rw [hA.len]; exact hlt
      have g := setCells_get A wbs t hlt hlw
      have c1 := (hA.bs.cell _).trans g.1
      have c2 := (hA.bs.cell _).trans g.2
      have hel := HK.out t hlt
      have hnext : listA (A.take (t + 1)) = listA (A.take t) ++ live A[t].2 := by
        rw [← List.take_append_getElem hlt, listA, List.flatMap_append]; simp [listA]
      have hPl : (listA (A.take t)).length ≤ 64 := by
        have := listA_length (A.take t) (fun s hs => by obtain ⟨j, hj, e⟩ := List.getElem_of_mem (List.mem_of_mem_take hs); have := HK.out j hj; rw [e] at this; omega)
        simp at this; omega
      have HE := Lib.hid (fun w1 (hb : Below w.heap.size w w1) => ((H.out.below hb).bw t hlt hlw).2)
      clear g hA
      generalize wbs[t] = wb at c2 HE
      generalize A[t].2 = es at c2 HE hnext hel
      generalize listA (A.take t) = P at HS hnext hPl ⊢
      go_wp2
      have hb0 := hbel.alloc hbel.size (.cells #[.int .u8 A[t].1, .slice (some ⟨wb, 0, none⟩) es.length es.length] 92)
      have hs0 := HS.out.below ((Below.refl _ _).alloc (Nat.le_refl _) (.cells #[.int .u8 A[t].1, .slice (some ⟨wb, 0, none⟩) es.length es.length] 92))
      go_loopw [3, 20] (fun y x wq => ∃ (u : Nat) (lv : Option Addr) (cap : Nat), u ≤ es.length ∧ x = .int .i64 u ∧ y = .slice lv (P ++ live (es.take u)).length cap ∧ Hid (SlE wq lv (P ++ live (es.take u)) cap) ∧ Hid (∀ q, lv = some q → w.heap.size ≤ q.block) ∧ Below w.heap.size w wq) (fun _ x _ => es.length - (intOf x).toNat)
      case atStart => exact ⟨0, lv, cap, Nat.zero_le _, rfl, by simp [live], by simpa [live, Hid, SlE] using hs0, HQ, hb0⟩
      case round =>
        obtain ⟨u, lv, cap, hu, rfl, rfl, HS1, HQ1, hbel1⟩ := hrel
        by_cases hlu : u < es.length
        · obtain ⟨k0, k1, k2, k3, k4, k5, k6, k7, k8, k9⟩ := entAt (HE.out _ hbel1) u hlu
          cases hq : (es[u].state != 0)
          · have HN : Hid (live (es.take (u + 1)) = live (es.take u)) := by
              unfold Hid live; rw [← List.take_append_getElem hlu, List.filter_append]; simp [hq]
            go_wp2
            go_roundw
            case rel =>
              refine ⟨u + 1, lv, cap, by omega, by go_num, by rw [HN.out], ?_, HQ1, hbel1.alloc hbel1.size _⟩
              rw [HN.out]
              exact HS1.out.below ((Below.refl _ _).alloc (Nat.le_refl _) _)
            case measure => simp [intOf]; omega
          · have HN : Hid (live (es.take (u + 1)) = live (es.take u) ++ [es[u]]) := by
              unfold Hid live; rw [← List.take_append_getElem hlu, List.filter_append]; simp [hq]
            have hll := live_length (es.take u)
            have hll2 : (live (es.take u)).length ≤ 8 := by simp at hll; omega
            clear hll
            have HB2 := Lib.hid (fun o : Obj => hbel1.alloc hbel1.size o)
            have HB3 := Lib.hid (fun o o' : Obj => (hbel1.alloc hbel1.size o).alloc (by have := hbel1.size; simp; omega) o')
            have HSS := Lib.hid (fun o o' : Obj => HS1.out.below (((Below.refl _ _).alloc (Nat.le_refl _) o).alloc (by simp) o'))
            go_wp2_with (at_builtin; go_loud (refine wl_append_one rfl (.tmp 27) (.tmp 29) 43 69 rfl Tryd.underlying43 10 56 _ entInfo rfl (by omega) (by omega) w.heap.size lv _ cap rfl _ 1 rfl (entCells (P ++ live (es.take u))) es[u].cells ?s1 (blk_new _ es[u].cells _ _ (by simp)) rfl (entCells_one _) (by rw [List.length_append]; omega) ?d1 HQ1.out ?d2))
            case s1 => simpa [SlE] using HSS.out _ _
            case d1 => have := hbel1.size; simp; omega
            case d2 =>
              intro wz lv' cap' hsz hqz hbz
              have HSZ := Lib.hid hsz
              have HQZ := Lib.hid hqz
              clear hsz hqz
              go_wp2
              go_roundw
              case rel =>
                refine ⟨u + 1, lv', cap', by omega, by go_num, by rw [HN.out]; simp [Nat.add_assoc], ?_, HQZ, (HB3.out _ _).trans hbz⟩
                rw [HN.out]
                have h1 := HSZ.out
                unfold Hid SlE
                rw [← List.append_assoc, entCells_append _ [es[u]], show (P ++ live (es.take u) ++ [es[u]]).length = (P ++ live (es.take u)).length + 1 by simp [Nat.add_assoc]]
                simpa [entCells] using h1
              case measure => simp [intOf]; omega
        · have : u = es.length := by omega
          subst this
          go_wp2
          go_roundw
          case rel =>
            refine ⟨t + 1, lv, cap, by omega, by go_num, ?_, ?_, HQ1.out, hbel1⟩
            · rw [hnext]; simp
            · rw [hnext]; simpa using HS1.out
          case measure => simp [intOf]; omega
    · have : t = A.length := by omega
      subst this
      go_wp2
      go_ret
      refine ⟨lv, cap, by simp, ?_, hbel⟩
      simpa using HS.out

end Go.Proofs.YtnieambhpmnliaaDoor
