/- geom.Check; a number between bounds (Within). -/
import Derived.Test.YtnieambhpmnliaaDoorMsg
import Derived.Test.YtnieambhpmnliaaDoorWant
import Derived.Deep.DeepCutAuto
import Derived.Deep.RegionHeld3
namespace Go.Proofs.YtnieambhpmnliaaDoor
set_option linter.all false
set_option linter.unusedVariables false
set_option linter.unusedSimpArgs false
open Go Go.RowKit

structure Cfg where
  cores : Int
  lines : Int
  sets : Int
  ways : Int
  mshrs : Int
  buffer : Int
  pool : Int
  high : Int
  low : Int
def Cfg.val (c : Cfg) : Value := .agg #[.int .i64 c.cores, .int .i64 c.lines, .int .i64 c.sets, .int .i64 c.ways, .int .i64 c.mshrs, .int .i64 c.buffer, .int .i64 c.pool, .int .i64 c.high, .int .i64 c.low]
/-- What Check asks, one by one. -/
def Cfg.oks (c : Cfg) : List Bool := [within c.cores 1 64, within c.lines 1 32, power c.sets 8, power c.ways 8, within c.mshrs 1 8, within c.buffer 1 8, within c.pool 1 64, within c.high 1 15, decide (-1 ≤ c.low) && decide (c.low < c.high)]
def Cfg.bad (c : Cfg) : Int := idxP (fun b => !b) c.oks
def checkOp : List UInt8 := [103, 101, 111, 109, 46, 67, 104, 101, 99, 107]
/-- What Check answers. -/
def checkv (p : Nat → Addr) (c : Cfg) : Value := if c.bad < 0 then .nilIface else faultv checkOp c.bad (sentv (p 1))

theorem calls_same {P : Program} {f : FuncId} {args : Array Value} {w : World} {v : Value} (h : Calls P f args w fun e w' => e = .returned v ∧ w = w') : Calls P f args w fun e w'' => e = .returned v ∧ w'' = w :=
  h.mono fun _ _ ⟨h1, h2⟩ => ⟨h1, h2.symm⟩

set_option maxRecDepth 100000 in
set_option maxHeartbeats 4000000 in
theorem check_calls (B : Nat) (c : Cfg) (p : Nat → Addr) (w : World) (hg : Sent B w p) (hlow : -1 ≤ c.low) :
    Calls Tryd.prog 21 #[c.val] w fun e w' => e = .returned (checkv p c) ∧ Below w.heap.size w w' := by
  have HG := Lib.hid (fun w1 (hb : Below w.heap.size w w1) => hg.below hb)
  have HW := Lib.hid (fun n lo hi w => calls_same (within_calls n lo hi w))
  have HP := Lib.hid (fun n m w => calls_same (power_calls n m w))
  have hlen : c.oks.length = 9 := rfl
  have HO := Lib.hid (show c.oks = _ from rfl)
  unfold Cfg.oks at HO
  obtain ⟨c1, c2, c3, c4, c5, c6, c7, c8, c9⟩ := c
  simp only [Cfg.val] at HO hlow ⊢
  clear hg
  go_enter Tryd.func21, Tryd.ntmps21
  go_wp2_with fail
  have hb0 := (Below.refl w.heap.size w).alloc (Nat.le_refl _) (.cells #[.int .i64 c1, .int .i64 c2, .int .i64 c3, .int .i64 c4, .int .i64 c5, .int .i64 c6, .int .i64 c7, .int .i64 c8, .int .i64 c9] 28)
  have hbk := blk_new w [.int .i64 c1, .int .i64 c2, .int .i64 c3, .int .i64 c4, .int .i64 c5, .int .i64 c6, .int .i64 c7, .int .i64 c8, .int .i64 c9] 28 _ rfl
  have HB0 := Lib.hid hb0
  have k0 := hbk.cell 0
  have k1 := hbk.cell 1
  have k2 := hbk.cell 2
  have k3 := hbk.cell 3
  have k4 := hbk.cell 4
  have k5 := hbk.cell 5
  have k6 := hbk.cell 6
  have k7 := hbk.cell 7
  have k8 := hbk.cell 8
  simp only [List.getElem?_cons_succ, List.getElem?_cons_zero] at k0 k1 k2 k3 k4 k5 k6 k7 k8
  clear hb0 hbk
  generalize w.alloc (.cells #[.int .i64 c1, .int .i64 c2, .int .i64 c3, .int .i64 c4, .int .i64 c5, .int .i64 c6, .int .i64 c7, .int .i64 c8, .int .i64 c9] 28) = W at *
  have HZ := Lib.hid (Nat.le_refl W.heap.size)
  generalize hgb : w.heap.size = g at k0 k1 k2 k3 k4 k5 k6 k7 k8 ⊢
  clear hgb
  go_cut [39, 40, 41] (fun s39 s40 s41 wx => ∃ b : Nat, s39 = .slice (some ⟨b, 0, none⟩) 9 9 ∧ s40 = .int .i64 9 ∧ s41 = .int .i64 0 ∧ Below W.heap.size W wx ∧ Hid (Blk wx b 4 ((Cfg.oks ⟨c1, c2, c3, c4, c5, c6, c7, c8, c9⟩).map Value.bool)))
  case first =>
    have h3 : decide (-1 ≤ c9) = true := by simpa using hlow
    go_region_held3 (fun w' => w'.cell? ⟨g, 0, none⟩ = some (.int .i64 c1) ∧ w'.cell? ⟨g, 1, none⟩ = some (.int .i64 c2) ∧ w'.cell? ⟨g, 2, none⟩ = some (.int .i64 c3) ∧ w'.cell? ⟨g, 3, none⟩ = some (.int .i64 c4) ∧ w'.cell? ⟨g, 4, none⟩ = some (.int .i64 c5) ∧ w'.cell? ⟨g, 5, none⟩ = some (.int .i64 c6) ∧ w'.cell? ⟨g, 6, none⟩ = some (.int .i64 c7) ∧ w'.cell? ⟨g, 7, none⟩ = some (.int .i64 c8) ∧ w'.cell? ⟨g, 8, none⟩ = some (.int .i64 c9)) (first | (go_keep; done) | (refine ⟨?_, ?_, ?_, ?_, ?_, ?_, ?_, ?_, ?_⟩ <;> first | assumption | (simp [*]; done))) (first | (go_at_call 45; refine (within_calls _ _ _ _).mono ?_; rintro e w' ⟨rfl, rfl⟩) | (go_at_call 46; refine (power_calls _ _ _).mono ?_; rintro e w' ⟨rfl, rfl⟩))
    go_wp2_with fail
    go_meet
    exact ⟨_, rfl, rfl, rfl, ((Below.refl _ _).alloc (Nat.le_refl _) _).drew, by rw [show (Cfg.oks ⟨c1, c2, c3, c4, c5, c6, c7, c8, c9⟩) = [within c1 1 64, within c2 1 32, power c3 8, power c4 8, within c5 1 8, within c6 1 8, within c7 1 64, within c8 1 15, decide (c9 < c8)] by simp [Cfg.oks, h3]]; exact blk_newd _ _ _ _ rfl⟩
  case rest =>
  obtain ⟨b, rfl, rfl, rfl, hwx, HBK⟩ := hcut
  have HBW := Lib.hid (HB0.out.trans (hwx.mono HB0.out.size))
  have hl9 : (Cfg.oks ⟨c1, c2, c3, c4, c5, c6, c7, c8, c9⟩).length = 9 := rfl
  have hval : checkv p ⟨c1, c2, c3, c4, c5, c6, c7, c8, c9⟩ = if idxP (fun b => !b) (Cfg.oks ⟨c1, c2, c3, c4, c5, c6, c7, c8, c9⟩) < 0 then .nilIface else faultv checkOp (idxP (fun b => !b) (Cfg.oks ⟨c1, c2, c3, c4, c5, c6, c7, c8, c9⟩)) (sentv (p 1)) := rfl
  have HV := Lib.hid hval
  clear hwx hval HO k0 k1 k2 k3 k4 k5 k6 k7 k8
  generalize Cfg.oks ⟨c1, c2, c3, c4, c5, c6, c7, c8, c9⟩ = l at HBK hl9 HV
  go_wp2_with fail
  go_loop [41] (fun i => ∃ k : Nat, k ≤ 9 ∧ i = .int .i64 k ∧ Hid (∀ j (hj : j < l.length), j < k → (!l[j]) = false)) (fun i => 9 - (intOf i).toNat)
  case atStart => exact ⟨0, by omega, rfl, fun j hj h => by omega⟩
  case round =>
    obtain ⟨k, hk, rfl, hno⟩ := hrel
    by_cases hlt : k < 9
    · have hlk : k < l.length := by omega
      have ck : wc.cell? ⟨b, k, none⟩ = some (.bool l[k]) := by rw [HBK.out.cell]; simp [hlk]
      have g1 := (HG.out _ HBW.out).g1
      unfold sentv at g1
      have HLN := Lib.hid hl9
      clear hl9
      cases hq : l[k]
      · rw [hq] at ck
        go_wp2_with (go_at_call 22; refine (wrap_calls _ _ _ _ _).mono ?_; rintro e wq ⟨rfl, rfl⟩)
        go_ret
        have hi : idxP (fun b => !b) l = (k : Int) := idxP_at hlk (by rw [hq]; rfl) (fun j hj => hno.out j (by omega) hj)
        refine ⟨?_, HBW.out⟩
        rw [HV.out, hi, if_neg (by omega)]
        rfl
      · rw [hq] at ck
        go_wp2
        go_round
        case rel =>
          refine ⟨k + 1, by omega, by go_num, fun j hj h => ?_⟩
          by_cases e : j = k
          · subst e; rw [hq]; rfl
          · exact hno.out j hj (by omega)
        case measure => simp [intOf]; omega
    · have : k = 9 := by omega
      subst this
      have hi : idxP (fun b => !b) l = -1 := idxP_none (fun j hj => hno.out j hj (by omega))
      rw [hi] at HV
      go_wp2
      go_ret
      refine ⟨?_, HBW.out⟩
      rw [HV.out, if_pos (by decide)]
      rfl

end Go.Proofs.YtnieambhpmnliaaDoor
