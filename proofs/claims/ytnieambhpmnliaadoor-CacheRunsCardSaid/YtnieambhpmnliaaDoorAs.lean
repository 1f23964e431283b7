/- errors.As at a Fault, into a variable of that type. -/
import Derived.Test.YtnieambhpmnliaaDoorErr
import Derived.Test.YtnieambhpmnliaaDoorArr2
import Derived.Test.YtnieambhpmnliaaDoorApp
namespace Go.Proofs.YtnieambhpmnliaaDoor
set_option linter.all false
set_option linter.unusedVariables false
set_option linter.unusedSimpArgs false
open Go Go.RowKit Go.Extern.Stop Go.Stop Go.Extern

theorem asValueOfP (t : Addr) (w : World) : (callFunc 65 #[.iface 85 (.pointer (some t))]).run Tryd.prog w
    = .ok (.value (.agg #[.pointer (some ⟨11, 85, none⟩), .pointer (some ⟨w.heap.size, 0, none⟩), .int .u64 150])) (w.alloc (.cells #[.pointer (some t)] 85)) := by
  rw [run_callFunc_extern Tryd.func65 (by kernel_rfl) (by kernel_rfl) (by kernel_rfl) (e := fun args => ReflectliteValue.unpack (args.getD 0 (.tuple #[]))) (by kernel_rfl)]
  kernel_rfl
theorem asType (a : Addr) (w : World) : (callFunc 66 #[.agg #[.pointer (some ⟨11, 85, none⟩), .pointer (some a), .int .u64 150]]).run Tryd.prog w
    = .ok (.value (.iface 139 (.agg #[.pointer (some ⟨11, 85, none⟩)]))) w := by
  rw [run_callFunc_extern Tryd.func66 (by kernel_rfl) (by kernel_rfl) (by kernel_rfl) (e := ReflectliteValue.methodAny (ReflectliteValue.valueError "reflectlite.Value.Type" 0) fun t _ _ _ => ReflectliteType.toType t) (by kernel_rfl)]
  kernel_rfl
theorem asMethodKind (h : Value) (w : World) : (Go.method 288 139 (.agg #[h]) "Kind").run Tryd.prog w = .ok (104, h) w := by kernel_rfl
theorem asMethodElem (h : Value) (w : World) : (Go.method 288 139 (.agg #[h]) "Elem").run Tryd.prog w = .ok (115, .agg #[h]) w := by kernel_rfl
theorem asMethodImplements (h : Value) (w : World) : (Go.method 288 139 (.agg #[h]) "Implements").run Tryd.prog w = .ok (116, .agg #[h]) w := by kernel_rfl
theorem asMethodAssignableTo (h : Value) (w : World) : (Go.method 288 139 (.agg #[h]) "AssignableTo").run Tryd.prog w = .ok (113, .agg #[h]) w := by kernel_rfl
theorem asKindP (w : World) : (callFunc 104 #[.pointer (some ⟨11, 85, none⟩)]).run Tryd.prog w = .ok (.value (.int .u8 22)) w := by
  rw [run_callFunc_extern Tryd.func104 (by kernel_rfl) (by kernel_rfl) (by kernel_rfl) (e := ReflectliteType.abiMethod fun t => do pure (.int .u8 (← Rtype.kind t))) (by kernel_rfl)]
  kernel_rfl
theorem asKindF (w : World) : (callFunc 104 #[.pointer (some ⟨11, 81, none⟩)]).run Tryd.prog w = .ok (.value (.int .u8 25)) w := by
  rw [run_callFunc_extern Tryd.func104 (by kernel_rfl) (by kernel_rfl) (by kernel_rfl) (e := ReflectliteType.abiMethod fun t => do pure (.int .u8 (← Rtype.kind t))) (by kernel_rfl)]
  kernel_rfl
theorem asElem (w : World) : (callFunc 115 #[.agg #[.pointer (some ⟨11, 85, none⟩)]]).run Tryd.prog w = .ok (.value (.iface 139 (.agg #[.pointer (some ⟨11, 81, none⟩)]))) w := by
  rw [run_callFunc_extern Tryd.func115 (by kernel_rfl) (by kernel_rfl) (by kernel_rfl) (e := ReflectliteType.method ReflectliteType.elem) (by kernel_rfl)]
  kernel_rfl
theorem asImplements (w : World) : (callFunc 116 #[.agg #[.pointer (some ⟨11, 81, none⟩)], .iface 139 (.agg #[.pointer (some ⟨11, 24, none⟩)])]).run Tryd.prog w = .ok (.value (.bool true)) w := by
  rw [run_callFunc_extern Tryd.func116 (by kernel_rfl) (by kernel_rfl) (by kernel_rfl) (e := ReflectliteType.relation "Implements" ReflectliteType.implements_) (by kernel_rfl)]
  kernel_rfl
theorem asTypeOf (v : Value) (w : World) : (callFunc 63 #[.iface 81 v]).run Tryd.prog w = .ok (.value (.iface 139 (.agg #[.pointer (some ⟨11, 81, none⟩)]))) w := by
  rw [run_callFunc_extern Tryd.func63 (by kernel_rfl) (by kernel_rfl) (by kernel_rfl) (e := ReflectliteType.typeOf) (by kernel_rfl)]
  kernel_rfl
theorem asAssignable (w : World) : (callFunc 113 #[.agg #[.pointer (some ⟨11, 81, none⟩)], .iface 139 (.agg #[.pointer (some ⟨11, 81, none⟩)])]).run Tryd.prog w = .ok (.value (.bool true)) w := by
  rw [run_callFunc_extern Tryd.func113 (by kernel_rfl) (by kernel_rfl) (by kernel_rfl) (e := ReflectliteType.relation "AssignableTo" ReflectliteType.assignableTo) (by kernel_rfl)]
  kernel_rfl
theorem asValueOfF (a b c : Value) (w : World) : (callFunc 65 #[.iface 81 (.agg #[a, b, c])]).run Tryd.prog w
    = .ok (.value (.agg #[.pointer (some ⟨11, 81, none⟩), .pointer (some ⟨w.heap.size, 0, none⟩), .int .u64 153])) (w.alloc (.cells #[a, b, c] 81)) := by
  rw [run_callFunc_extern Tryd.func65 (by kernel_rfl) (by kernel_rfl) (by kernel_rfl) (e := fun args => ReflectliteValue.unpack (args.getD 0 (.tuple #[]))) (by kernel_rfl)]
  kernel_rfl

theorem rlm (z : Sem Value) (f : TypeId → Addr → Nat → Nat → Sem Value) (v : Value) :
    ReflectliteValue.method z f #[v] = (do match ← ReflectliteValue.parts v with | none => z | some (t, a, fl) => f t a fl (fl % 32)) := rfl
theorem asPartsP (a : Addr) (w : World) : (ReflectliteValue.parts (.agg #[.pointer (some ⟨11, 85, none⟩), .pointer (some a), .int .u64 150])).run Tryd.prog w = .ok (some (85, a, 150)) w := by kernel_rfl
theorem asIsNil (a p : Addr) (W : World) (ha : W.cell? a = some (.pointer (some p))) :
    (callFunc 67 #[.agg #[.pointer (some ⟨11, 85, none⟩), .pointer (some a), .int .u64 150]]).run Tryd.prog W = .ok (.value (.bool false)) W := by
  rw [run_callFunc_extern Tryd.func67 (by kernel_rfl) (by kernel_rfl) (by kernel_rfl) (e := ReflectliteValue.method (ReflectliteValue.valueError "reflectlite.Value.IsNil" 0) ReflectliteValue.isNil) (by kernel_rfl), rlm]
  simp only [Sem.run_bind, asPartsP, Result.andThen]
  simp [ReflectliteValue.isNil, loadVar, isAgg, underlying, Tryd.underlying85, ha, Result.andThen]
theorem asElemOf (w : World) : (Rtype.elem? 85).run Tryd.prog w = .ok (some 81) w := by kernel_rfl
theorem asMk (p : Addr) (w : World) : (ReflectliteValue.mk 81 p ReflectliteValue.flagAddr).run Tryd.prog w = .ok (.agg #[.pointer (some ⟨11, 81, none⟩), .pointer (some p), .int .u64 409]) w := by kernel_rfl
theorem asElemV (a p : Addr) (W : World) (ha : W.cell? a = some (.pointer (some p))) :
    (callFunc 85 #[.agg #[.pointer (some ⟨11, 85, none⟩), .pointer (some a), .int .u64 150]]).run Tryd.prog W
      = .ok (.value (.agg #[.pointer (some ⟨11, 81, none⟩), .pointer (some p), .int .u64 409])) W := by
  rw [run_callFunc_extern Tryd.func85 (by kernel_rfl) (by kernel_rfl) (by kernel_rfl) (e := ReflectliteValue.method (ReflectliteValue.valueError "reflectlite.Value.Elem" 0) ReflectliteValue.elem) (by kernel_rfl), rlm]
  simp only [Sem.run_bind, asPartsP, Result.andThen]
  simp [ReflectliteValue.elem, loadVar, isAgg, underlying, Tryd.underlying85, ha, Result.andThen, asElemOf, asMk]
theorem rls (v x : Value) : ReflectliteValue.set #[v, x] = (do
    let (some (dst, a, fl), some (src, b, _)) := (← ReflectliteValue.parts v, ← ReflectliteValue.parts x)
      | unsupported (.noEntry "extern/(internal/reflectlite.Value).Set.zeroValue")
    if fl / ReflectliteValue.flagAddr % 2 == 0 then unsupported (.noEntry "extern/(internal/reflectlite.Value).Set.unaddressable")
    let val ← loadVar src b
    if ← Rtype.directlyAssignable dst src then storeVar dst a val
    else if ← Rtype.implements dst src then
      if (← Rtype.kind src) == 20 then
        match val with
        | .nilIface => unsupported (.noEntry "extern/reflectlite: a nil value of one interface type handed on as a value of another")
        | _ => storeVar dst a val
      else storeVar dst a (.iface src val)
    else panicString ("reflectlite.Set: value of type " ++ (← Rtype.spelt src) ++ " is not assignable to type " ++ (← Rtype.spelt dst))
    pure (.tuple #[])) := rfl
theorem asPartsFa (a : Addr) (w : World) : (ReflectliteValue.parts (.agg #[.pointer (some ⟨11, 81, none⟩), .pointer (some a), .int .u64 409])).run Tryd.prog w = .ok (some (81, a, 409)) w := by kernel_rfl
theorem asPartsF (a : Addr) (w : World) : (ReflectliteValue.parts (.agg #[.pointer (some ⟨11, 81, none⟩), .pointer (some a), .int .u64 153])).run Tryd.prog w = .ok (some (81, a, 153)) w := by kernel_rfl
theorem asDirect (w : World) : (Rtype.directlyAssignable 81 81).run Tryd.prog w = .ok true w := by kernel_rfl
theorem faultSize : (Tryd.prog.info? 81).map (·.size) = some 3 := by kernel_rfl
theorem asLoad (b : Nat) (x y z : Value) (W : World) (hb : Blk W b 81 [x, y, z]) : (loadVar 81 ⟨b, 0, none⟩).run Tryd.prog W = .ok (.agg #[x, y, z]) W := by
  obtain ⟨i, hi, hi1⟩ := Option.map_eq_some_iff.1 faultSize
  have h0 := hb.cell 0
  have h1 := hb.cell 1
  have h2 := hb.cell 2
  simp at h0 h1 h2
  simp [loadVar, isAgg, underlying, Tryd.underlying81, Result.andThen, sizeOf, typeInfo, hi, hi1, loadCells, loadCellsFrom, Addr.add, h0, h1, h2]
theorem asSet (t b : Nat) (o0 o1 o2 x y z : Value) (W : World) (hb : Blk W b 81 [x, y, z]) (ht : Blk W t 81 [o0, o1, o2]) (h1 : ∀ u ∈ [x, y, z], u.oneCell' = true) :
    (callFunc 86 #[.agg #[.pointer (some ⟨11, 81, none⟩), .pointer (some ⟨t, 0, none⟩), .int .u64 409], .agg #[.pointer (some ⟨11, 81, none⟩), .pointer (some ⟨b, 0, none⟩), .int .u64 153]]).run Tryd.prog W
      = .ok (.value (.tuple #[])) (W.setRow t #[x, y, z]) := by
  have hs := run_store_agg (P := Tryd.prog) 81 t 0 81 [x, y, z] faultSize [o0, o1, o2] ht h1 (by simp)
  rw [run_callFunc_extern Tryd.func86 (by kernel_rfl) (by kernel_rfl) (by kernel_rfl) (e := ReflectliteValue.set) (by kernel_rfl), rls]
  simp only [Sem.run_bind, asPartsFa, asPartsF, Result.andThen]
  simp [ReflectliteValue.flagAddr, asLoad b x y z W hb, Result.andThen, asDirect]
  simp at hs
  rw [hs]

theorem as_nil (t : Value) (w : World) :
    Calls Tryd.prog 42 #[.nilIface, t] w fun e w' => e = .returned (.bool false) ∧ w = w' := by
  go_enter Tryd.func42, Tryd.ntmps42
  go_wp2
  go_ret
  exact ⟨rfl, rfl⟩

set_option maxHeartbeats 4000000 in
theorem as_hit (B : Nat) (p : Nat → Addr) (op : List UInt8) (at_ : Int) (T : TypeId) (v : Value) (t : Nat) (o0 o1 o2 : Value) (w : World) (hg : Sent B w p) (ht : Blk w t 81 [o0, o1, o2]) :
    Calls Tryd.prog 42 #[faultv op at_ (.iface T v), .iface 85 (.pointer (some ⟨t, 0, none⟩))] w
      fun e w' => e = .returned (.bool true) ∧ Blk w' t 81 [.string ⟨op.toArray⟩, .int .i64 at_, .iface T v] ∧ FrL [t] w w' := by
  have f1 := asValueOfP
  have f2 := asType
  have f3 := asMethodKind
  have f4 := asMethodElem
  have f5 := asMethodImplements
  have f6 := asMethodAssignableTo
  have f7 := asKindP
  have f8 := asKindF
  have f9 := asElem
  have f10 := asImplements
  have f11 := asTypeOf
  have f12 := asAssignable
  have f13 := asValueOfF
  have HN := Lib.hid asIsNil
  have hw1 := (Below.refl w.heap.size w).alloc (Nat.le_refl _) (.cells #[.pointer (some ⟨t, 0, none⟩)] 85)
  have hw2 := hw1.alloc (by simp) (.cells #[.pointer (some ⟨11, 85, none⟩), .pointer (some ⟨w.heap.size, 0, none⟩), .int .u64 150] 115)
  have hw3 := hw2.alloc (by simp; omega) (.cells #[.pointer (some ⟨11, 85, none⟩), .pointer (some ⟨w.heap.size, 0, none⟩), .int .u64 150] 115)
  have hw4 := hw3.alloc (by simp; omega) (.cells #[.string ⟨op.toArray⟩, .int .i64 at_, .iface T v] 81)
  have n8 := asIsNil ⟨w.heap.size, 0, none⟩ ⟨t, 0, none⟩ ((w.alloc (.cells #[.pointer (some ⟨t, 0, none⟩)] 85)).alloc (.cells #[.pointer (some ⟨11, 85, none⟩), .pointer (some ⟨w.heap.size, 0, none⟩), .int .u64 150] 115)) (by simp)
  have n9 := asElemV ⟨w.heap.size, 0, none⟩ ⟨t, 0, none⟩ (((w.alloc (.cells #[.pointer (some ⟨t, 0, none⟩)] 85)).alloc (.cells #[.pointer (some ⟨11, 85, none⟩), .pointer (some ⟨w.heap.size, 0, none⟩), .int .u64 150] 115)).alloc (.cells #[.pointer (some ⟨11, 85, none⟩), .pointer (some ⟨w.heap.size, 0, none⟩), .int .u64 150] 115)) (by rw [World.cell?_alloc_lt _ _ ⟨w.heap.size, 0, none⟩ (by simp; omega)]; simp)
  have hg2 := (hg.below hw2).et
  have n10 := asSet t (w.heap.size + 1 + 1 + 1) o0 o1 o2 (.string ⟨op.toArray⟩) (.int .i64 at_) (.iface T v) _ (blk_new _ [.string ⟨op.toArray⟩, .int .i64 at_, .iface T v] _ _ (by simp)) (ht.below hw4 ht.lt) (by simp [Value.oneCell'])
  have hB4 := Lib.hid (ht.below hw4 ht.lt)
  have HF := Lib.hid (FrL.below [t] hw4)
  clear hg ht hw1 hw2 hw3 hw4
  unfold faultv
  simp only [show Tryd.prog.globals.size = 11 from by kernel_rfl] at hg2
  go_enter Tryd.func42, Tryd.ntmps42
  go_wp2
  refine wp_loop_rounds 1 ?_
  rw [rounds_succ]
  go_wp2
  go_ret
  refine ⟨rfl, ?_, HF.out.trans ((Only.setRow _ _ _).frl [t] (by simp))⟩
  exact Blk.setRow hB4.out

end Go.Proofs.YtnieambhpmnliaaDoor
