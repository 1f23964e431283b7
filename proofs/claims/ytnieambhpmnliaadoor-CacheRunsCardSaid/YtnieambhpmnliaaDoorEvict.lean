/- A cache: evict. -/
import Derived.Test.YtnieambhpmnliaaDoorWant
import Derived.Test.YtnieambhpmnliaaDoorMsg
namespace Go.Proofs.YtnieambhpmnliaaDoor
set_option linter.all false
set_option linter.unusedVariables false
set_option linter.unusedSimpArgs false
open Go Go.RowKit

theorem intInfo : (Tryd.prog.info? 3).map (fun i => (i.zero, i.size, i.bytes)) = some (some (.int .i64 0), 1, 8) := by kernel_rfl
theorem SlC.ints {w : World} {lv : Option Addr} {l : List Int} {n cap : Nat} (h : SlC w 3 1 lv n (intCells l) cap) (hn : n = l.length) : SlI w lv l cap := by
  subst hn
  rcases h.2 with ⟨h1, h2, h3⟩ | ⟨lb, r, h1, h2, h3, h4, h5⟩
  · exact Or.inl ⟨h1, List.eq_nil_of_length_eq_zero h2, h3⟩
  · exact Or.inr ⟨lb, r, h1, h2, h3, h4, by omega⟩

theorem victim_ok {n k : Nat} {A : Sets} (hok : AOk n k A) (line : Int) (M : List (Int × Int)) (hv : ¬ victimA A line (M.map (·.1)) < 0) :
    (0 ≤ victimA A line (M.map (·.1)) ∧ victimA A line (M.map (·.1)) ≤ 31) ∧ ∀ a (h : a < M.length), M[a].1 ≠ victimA A line (M.map (·.1)) := by
  have hw := hok.way line
  unfold victimA at hv ⊢
  split at hv
  · omega
  rename_i hc
  rw [if_neg hc]
  have hfree : ∀ e ∈ waysOf A line, EOk e := fun e he => by
    refine hw.2.2 e he (fun h0 => ?_)
    rcases idxP_cases isFree (waysOf A line) with ⟨_, _, h⟩ | ⟨j, hj, hi, _⟩
    · have := h e he; simp [isFree, h0] at this
    · exact absurd (by rw [hi]; simp) hc
  have hvr := victim_range (bitsOf A line) (waysOf A line).length (by rw [hw.1]; exact hok.pk) hw.2.1.1 hw.2.1.2
  have hlt : (victim (bitsOf A line) (waysOf A line).length).toNat < (waysOf A line).length := by omega
  generalize (victim (bitsOf A line) (waysOf A line).length).toNat = j at hlt hv ⊢
  have hnot : ∀ x : Int, (M.map (·.1)).contains x = false → ∀ a (h : a < M.length), M[a].1 ≠ x := fun x hx a h e => by
    have : (M.map (·.1)).contains x = true := by simp; exact ⟨M[a].2, by rw [← e]; exact List.getElem_mem h⟩
    rw [this] at hx; cases hx
  have hgd : (waysOf A line).getD j .zero = (waysOf A line)[j] := by simp [hlt]
  rw [hgd] at hv ⊢
  unfold pickE at hv ⊢
  split
  · rename_i h1
    rw [if_pos h1] at hv
    cases hf : (waysOf A line).find? (fun e => !(M.map (·.1)).contains e.line) with
    | none => rw [hf] at hv; simp at hv
    | some e =>
      have he := hfree e (List.mem_of_find?_eq_some hf)
      exact ⟨he.line, hnot _ (by simpa using List.find?_some hf)⟩
  · rename_i h1
    exact ⟨(hfree _ (List.getElem_mem hlt)).line, hnot _ (by simpa using h1)⟩

theorem insM_add (us : List (Int × Int)) (line kind most : Int) (hok : MOk most us) (hlt : (us.length : Int) < most) (hl : 0 ≤ line ∧ line ≤ 31) (hno : ∀ a (h : a < us.length), us[a].1 ≠ line) : MOk most (insM us (line, kind)) := by
  have hsorted : ∀ i (hi : i < us.length) (hj : i + 1 < us.length), us[i].1 < us[i + 1].1 := fun i hi hj => hok.rise i (i + 1) hi hj (by omega)
  -- where the line would stand: behind all that are lower
  have hpos : ∃ pos, pos ≤ us.length ∧ (∀ a (h : a < us.length), a < pos → us[a].1 < line) ∧ (∀ a (h : a < us.length), pos ≤ a → line ≤ us[a].1) := by
    by_cases hall : ∀ a (h : a < us.length), us[a].1 < line
    · exact ⟨us.length, Nat.le_refl _, fun a h _ => hall a h, fun a h h2 => by omega⟩
    · have hex : ∃ a, ∃ h : a < us.length, line ≤ us[a].1 := by
        rcases Classical.em (∃ a, ∃ h : a < us.length, line ≤ us[a].1) with h | h
        · exact h
        · exact absurd (fun a ha => by
            rcases Int.lt_or_le us[a].1 line with h1 | h1
            · exact h1
            · exact absurd ⟨a, ha, h1⟩ h) hall
      obtain ⟨pos, hp, hmin⟩ : ∃ pos, (∃ h : pos < us.length, line ≤ us[pos].1) ∧ ∀ q, q < pos → ¬ ∃ h : q < us.length, line ≤ us[q].1 := by
        obtain ⟨a, ha⟩ := hex
        induction a using Nat.strongRecOn with
        | _ a ih =>
          by_cases hq : ∃ q, q < a ∧ ∃ h : q < us.length, line ≤ us[q].1
          · obtain ⟨q, hqa, hq2⟩ := hq
            exact ih q hqa hq2
          · exact ⟨a, ha, fun q hqa h => hq ⟨q, hqa, h⟩⟩
      obtain ⟨hp1, hp2⟩ := hp
      refine ⟨pos, by omega, fun a h ha => ?_, fun a h ha => ?_⟩
      · rcases Int.lt_or_le us[a].1 line with h1 | h1
        · exact h1
        · exact absurd ⟨h, h1⟩ (hmin a ha)
      · rcases Nat.lt_or_eq_of_le ha with h1 | rfl
        · have := hok.rise pos a hp1 h h1; omega
        · exact hp2
  obtain ⟨pos, h0, h1, h2⟩ := hpos
  exact (insM_ok us pos line kind most hok hlt hl h0 h1 h2 hno).2

/-- What turns outside a cache leaves it as it is. -/
theorem CAt.out {B w w' cb c F L} (h : CAt B w cb c F) (hf : FrL L w w') (hd : ∀ x ∈ L, x ∉ F) : CAt B w' cb c F := by
  obtain ⟨ab, sb, tb, wbs, K, h, rfl⟩ := h
  have hn : ∀ x ∈ cb :: ab :: sb :: (wbs ++ K), x ∉ L := fun x hx hl => hd x hl hx
  obtain ⟨⟨t1, t2, t3⟩, lv, cap, t4, t5, t6⟩ := h.tab
  refine ⟨ab, sb, tb, wbs, K, ⟨h.hB, h.bc.frl hf (hn _ (by simp)), ?_, ⟨⟨t1, t2, fun x hx => ⟨(t3 x hx).1, Nat.lt_of_lt_of_le (t3 x hx).2 hf.size⟩⟩, lv, cap, t4.frl hf (hn _ (by simp [t2])), ?_, t6⟩, h.ok⟩, rfl⟩
  · exact { h.ar with
      ba := h.ar.ba.frl hf (hn _ (by simp))
      bs := h.ar.bs.frl hf (hn _ (by simp))
      bw := fun i hi hj => ⟨(h.ar.bw i hi hj).1, (h.ar.bw i hi hj).2.frl hf (hn _ (by simp [List.getElem_mem hj]))⟩ }
  · rcases t5 with h5 | ⟨lb, r, h1, h2, h3⟩
    · exact Or.inl h5
    · exact Or.inr ⟨lb, r, h1, h2.frl hf (hn _ (by have := (t6 _ h1).2; simp at this; simp [this])), h3⟩
/-- A block of the call's own turns, behind a step. -/
theorem CStep.only {B w0 w w1 w' cb F c' g} (h : CStep B w cb F w1 c') (hb : Below w0.heap.size w0 w) (hlt : ∀ b ∈ F, b < w0.heap.size) (hg0 : w0.heap.size ≤ g) (hg : g < w.heap.size) (ho : Only g w1 w') : CStep B w0 cb F w' c' := by
  obtain ⟨F', h1, h2, h3⟩ := h
  have hsz := hb.size
  have hg' : g ∉ F' := fun hm => by
    rcases h2.2 g hm with h4 | h4
    · have := hlt g h4; omega
    · omega
  refine ⟨F', h1.out (ho.frl [g] (by simp)) (fun x hx => by simp at hx; subst hx; exact hg'), ⟨h2.1, fun x hx => (h2.2 x hx).imp id (fun h => by omega)⟩, ?_⟩
  exact ((FrL.below F hb).trans h3).trans' (ho.frl [g] (by simp)) (fun x hx => by simp at hx; subst hx; exact Or.inr hg0)

/-- evict: the request that goes, or why none does; what the cache is then. -/
def evictC (c : Ca) (line : Int) : Msg × Er × Ca :=
  if victimA c.A line (c.M.map (·.1)) < 0 then (Msg.zero, .one 6, c)
  else if c.most ≤ c.M.length then (Msg.zero, .two (victimA c.A line (c.M.map (·.1))), c)
  else ({ Msg.zero with kind := 4, core := c.core, line := victimA c.A line (c.M.map (·.1)) }, .ok, { c with M := insM c.M (victimA c.A line (c.M.map (·.1)), 4) })

set_option maxRecDepth 100000 in
set_option maxHeartbeats 4000000 in
theorem evict_calls (B : Nat) (c : Ca) (line : Int) (p : Nat → Addr) (cb : Nat) (F : List Nat) (w : World) (h : CAt B w cb c F) (hg : Sent B w p) (hl : within line 0 31 = true) :
    Calls Tryd.prog 29 #[.pointer (some ⟨cb, 0, none⟩), .int .i64 line] w fun e w' => e = .returned (.tuple #[(evictC c line).1.val, erv p line (evictC c line).2.1]) ∧ CStep B w cb F w' (evictC c line).2.2 := by
  have HF := Lib.hid (fun w1 (hb : Below w.heap.size w w1) => CStep.same h hb)
  have HLT := Lib.hid h.lt
  obtain ⟨ab, sb, tb, wbs, L, h, rfl⟩ := h
  have h8 := h.ok.m.most8
  have hlen := h.ok.m.len
  have hB := hg.size
  have HC := Lib.hid (fun w1 (hb : Below w.heap.size w w1) => h.below hb)
  have HG := Lib.hid (fun w1 (hb : Below w.heap.size w w1) => hg.below hb)
  have HL := Lib.hid (fun w1 (hb : Below w.heap.size w w1) => mlist_calls c.M c.most tb w1 (by omega) (h.tab.below hb).tab)
  have HV := Lib.hid (fun (l : List Int) (lv : Option Addr) (cap : Nat) w1 (hb : Below w.heap.size w w1) (hp : SlI w1 lv l cap) (hll : l.length ≤ 1000) => avictim_calls B c.n c.k c.A line ab sb wbs w1 h.ok.a (h.ar.below hb) hl l lv cap hll hp)
  have HOK := Lib.hid h.ok
  have hbc := h.bc.lt
  clear h hg hl
  have hb0 := (Below.refl w.heap.size w).alloc (Nat.le_refl _) (.cells Msg.zero.cells.toArray 33)
  have hm0 : Blk (w.alloc (.cells Msg.zero.cells.toArray 33)) w.heap.size 33 Msg.zero.cells := blk_new w _ _ _ rfl
  have hz0 : (w.alloc (.cells Msg.zero.cells.toArray 33)).heap.size = w.heap.size + 1 := by simp
  have HB0 := Lib.hid hb0
  have HM0 := Lib.hid hm0
  have c3 := (HC.out _ hb0).bc.cell 3
  have HLC := Lib.hid (HL.out _ hb0)
  simp at c3
  have hne : cb ≠ w.heap.size := by omega
  simp only [Msg.cells, Msg.zero] at hb0 hz0 c3 HB0 HM0 HLC
  clear hb0 hm0
  go_enter Tryd.func29, Tryd.ntmps29
  go_wp2_with fail
  generalize w.alloc (.cells #[.int .i64 0, .int .i64 0, .int .i64 0, .int .i64 0, .int .i64 0, .int .i64 0, .int .i64 0, .int .u32 0, .int .u32 0, .int .u32 0, .int .u32 0, .int .u32 0, .bool false] 33) = W at hz0 c3 HB0 HM0 HLC ⊢
  refine HLC.out.mono ?_
  rintro e w1 ⟨lv, cap, rfl, hs, hb1⟩
  have HS := Lib.hid hs
  clear hs
  go_wp2
  go_loopw [6, 17] (fun y x wr => ∃ (t : Nat) (lv : Option Addr) (cap : Nat), t ≤ c.M.length ∧ x = .int .i64 t ∧ y = .slice lv t cap ∧ Hid (SlC wr 3 1 lv t (intCells ((c.M.map (·.1)).take t)) cap) ∧ Hid (∀ q, lv = some q → w1.heap.size ≤ q.block) ∧ Below w1.heap.size w1 wr) (fun _ x _ => c.M.length - (intOf x).toNat)
  case atStart => exact ⟨0, none, 0, Nat.zero_le _, rfl, rfl, SlC.nil _ _ _, fun q hq => (by cases hq), Below.refl _ _⟩
  case round =>
    obtain ⟨t, lv2, cap2, ht, rfl, rfl, HS2, HQ2, hbel⟩ := hrel
    by_cases hlt : t < c.M.length
    · have hs2 := HS.out.below hbel
      rcases hs2 with ⟨rfl, hm, rfl⟩ | ⟨lb, r, rfl, h2, h3⟩
      · rw [hm] at hlt; simp at hlt
      have g0 := (h2.cell _).trans (missCells_get c.M t hlt r).1
      have g1 := (h2.cell _).trans (missCells_get c.M t hlt r).2
      clear h2 h3
      have HN : Hid (intCells ((c.M.map (·.1)).take (t + 1)) = intCells ((c.M.map (·.1)).take t) ++ [.int .i64 c.M[t].1]) := by
        unfold Hid intCells; rw [← List.take_append_getElem (by simpa using hlt), List.map_append]; simp
      have HSS := Lib.hid (fun o o' : Obj => HS2.out.below (((Below.refl _ _).alloc (Nat.le_refl _) o).alloc (by simp) o'))
      have HB3 := Lib.hid (fun o o' : Obj => (hbel.alloc hbel.size o).alloc (by have := hbel.size; simp; omega) o')
      have hsz := hbel.size
      go_wp2_with (at_builtin; refine wl_append_one rfl (.tmp 21) (.tmp 24) 49 3 rfl Tryd.underlying49 1 8 _ intInfo rfl (by omega) (by omega) w1.heap.size lv2 _ cap2 rfl _ 1 rfl (intCells ((c.M.map (·.1)).take t)) [.int .i64 c.M[t].1] (HSS.out _ _) (blk_new _ [.int .i64 c.M[t].1] _ _ (by simp)) rfl (fun u hu => by simp at hu; subst hu; rfl) (by omega) (by simp; omega) HQ2.out ?d2)
      case d2 =>
        intro wz lv' cap' hsz' hqz hbz
        have HSZ := Lib.hid hsz'
        have HQZ := Lib.hid hqz
        clear hsz' hqz
        go_wp2
        go_roundw
        case rel =>
          refine ⟨t + 1, lv', cap', by omega, by go_num, rfl, ?_, HQZ, (HB3.out _ _).trans hbz⟩
          rw [HN.out]; exact HSZ.out
        case measure => simp [intOf]; omega
    · have : t = c.M.length := by omega
      subst this
      have hbw : Below W.heap.size W wr := hb1.trans (hbel.mono hb1.size)
      have hbv : Below w.heap.size w wr := HB0.out.trans (hbw.mono (by omega))
      have hI := HS2.out.ints (by simp)
      rw [List.take_of_length_le (by simp)] at hI
      have HV1 := HV.out _ _ _ _ hbv hI (by simp; omega)
      simp only [List.length_map] at HV1
      have HVC := Lib.hid HV1
      have c2 := (HC.out _ hbv).bc.cell 2
      simp at c2
      have HM1 := Lib.hid (HM0.out.below hbw (by omega))
      have HBW := Lib.hid hbv
      have HVO := Lib.hid (fun hv => victim_ok HOK.out.a line c.M hv)
      clear HV1 hbw hI hbel hb1
      have HE := Lib.hid (evictC.eq_1 c line)
      generalize victimA c.A line (c.M.map (·.1)) = v at HVC HVO HE
      by_cases hv : v < 0
      · rw [if_pos hv] at HE
        go_wp2_with fail
        refine HVC.out.mono ?_
        rintro e w2 ⟨rfl, hb2⟩
        have HB2 := Lib.hid (HBW.out.trans (hb2.mono HBW.out.size))
        have g6 := (HG.out _ HB2.out).g6
        unfold sentv at g6
        have HM2 := Lib.hid (HM1.out.below hb2 HM1.out.lt)
        clear hb2 c2
        go_wp2_with (first | (go_at_call 22; refine (wrap_calls _ _ _ _ _).mono ?_; rintro e w3 ⟨rfl, rfl⟩) | (refine wl_store rfl (.tmp 4) (.tmp 36) 33 rfl w.heap.size 0 33 Msg.zero.cells rfl rfl msgSize _ HM2.out (msgOne _) (by simp [Msg.cells]) ?d1))
        case d1 =>
          intro w3 ho3 hblk
          have HK3 := Lib.hid (msgOver (m := Msg.zero) (m' := Msg.zero) hblk)
          have HB3 := Lib.hid (HB2.out.trans (ho3.below.mono (Nat.le_refl _)))
          clear ho3 hblk
          go_wp2
          refine bodyPost_ret (v := .tuple #[Msg.zero.val, erv p line (.one 6)]) (results_msg2 Tryd.results29 Msg.zero _ rfl rfl HK3.out) rfl ⟨?_, ?_⟩
          · rw [HE.out]
          · rw [HE.out]; exact HF.out _ HB3.out
      · rw [if_neg hv] at HE
        have hvo := HVO.out hv
        have HVN := Lib.hid hvo.2
        obtain ⟨⟨v0, v1⟩, _⟩ := hvo
        go_wp2_with fail
        refine HVC.out.mono ?_
        rintro e w2 ⟨rfl, hb2⟩
        have HB2 := Lib.hid (HBW.out.trans (hb2.mono HBW.out.size))
        have c3 := (HC.out _ HB2.out).bc.cell 3
        simp at c3
        have HM2 := Lib.hid (HM1.out.below hb2 HM1.out.lt)
        clear hb2 c2
        by_cases hfull : c.most ≤ c.M.length
        · rw [if_pos hfull] at HE
          go_wp2_with fail
          refine (add_full B L c.M v 4 c.most p tb w2 HOK.out.m (HG.out _ HB2.out) (HC.out _ HB2.out).tab ⟨v0, v1⟩ (by decide) HVN.out hfull).mono ?_
          rintro e w4 ⟨rfl, hb4⟩
          unfold errv faultv
          have HB4 := Lib.hid (HB2.out.trans (hb4.mono HB2.out.size))
          have HM4 := Lib.hid (HM2.out.below hb4 HM2.out.lt)
          clear hb4
          go_wp2_with (first | (go_at_call 22; refine (wrap_calls _ _ _ _ _).mono ?_; rintro e w5 ⟨rfl, rfl⟩) | (refine wl_store rfl (.tmp 4) (.tmp 48) 33 rfl w.heap.size 0 33 Msg.zero.cells rfl rfl msgSize _ HM4.out (msgOne _) (by simp [Msg.cells]) ?d2))
          case d2 =>
            intro w3 ho3 hblk
            have HK3 := Lib.hid (msgOver (m := Msg.zero) (m' := Msg.zero) hblk)
            have HB3 := Lib.hid (HB4.out.trans (ho3.below.mono (Nat.le_refl _)))
            clear ho3 hblk
            go_wp2
            refine bodyPost_ret (v := .tuple #[Msg.zero.val, erv p line (.two v)]) (results_msg2 Tryd.results29 Msg.zero _ rfl rfl HK3.out) rfl ⟨?_, ?_⟩
            · rw [HE.out]
            · rw [HE.out]; exact HF.out _ HB3.out
        · rw [if_neg hfull] at HE
          have hroom : (c.M.length : Int) < c.most := by omega
          go_wp2_with fail
          refine (add_ok B L c.M v 4 c.most tb w2 HOK.out.m (Nat.le_trans hB HB2.out.size) (HC.out _ HB2.out).tab ⟨v0, v1⟩ (by decide) HVN.out hroom).mono ?_
          rintro e w4 ⟨rfl, ⟨L', hT, hG⟩, hf4, hl4⟩
          have HS4 := Lib.hid ((HC.out _ HB2.out).mstep hT hG hf4 hl4 (insM_add c.M v 4 c.most HOK.out.m hroom ⟨v0, v1⟩ HVN.out))
          have c0 := ((HC.out _ HB2.out).bc.fr hf4 (by decide)).cell 0
          have HM4 := Lib.hid (HM2.out.fr hf4 (by decide))
          simp at c0
          clear hT hG hf4 hl4 c3
          go_wp2_with (refine wl_store rfl (.tmp 4) (.tmp 57) 33 rfl w.heap.size 0 33 (Msg.cells { Msg.zero with kind := 4, core := c.core, line := v }) rfl rfl msgSize _ HM4.out (msgOne _) (by simp [Msg.cells]) ?d2)
          case d2 =>
            intro w3 ho3 hblk
            have HK3 := Lib.hid (msgOver (m := Msg.zero) (m' := { Msg.zero with kind := 4, core := c.core, line := v }) hblk)
            have HS3 := Lib.hid (HS4.out.only HB2.out HLT.out (Nat.le_refl _) HM2.out.lt ho3)
            clear ho3 hblk
            go_wp2
            refine bodyPost_ret (v := .tuple #[Msg.val { Msg.zero with kind := 4, core := c.core, line := v }, erv p line .ok]) (results_msg2 Tryd.results29 { Msg.zero with kind := 4, core := c.core, line := v } _ rfl rfl HK3.out) rfl ⟨?_, ?_⟩
            · rw [HE.out]
            · rw [HE.out]; exact HS3.out

end Go.Proofs.YtnieambhpmnliaaDoor
