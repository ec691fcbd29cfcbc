/-
  errors.As at a target of one pointer type: the error's own type is the target's.
-/
import Derived.Test.YtkngjgblfappoaaGreatDoorAs
namespace Go.Proofs.YtkngjgblfappoaaGreatDoor
open Go.RowKit (Below intOf Hid)
open Go.Extern.Stop Go.Stop Go.Extern

theorem valueOfTFa (t : Addr) (w : World) : (ReflectliteValue.unpack (.iface 134 (.pointer (some t)))).run Tryz.prog w
    = .ok (.agg #[.pointer (some ⟨3, 134, none⟩), .pointer (some ⟨w.heap.size, 0, none⟩), .int .u64 150]) (w.alloc (.cells #[.pointer (some t)] 134)) := by kernel_rfl
theorem typeTFa (a : Addr) (w : World) : (ReflectliteValue.methodAny (ReflectliteValue.valueError "reflectlite.Value.Type" 0) (fun t _ _ _ => ReflectliteType.toType t) #[.agg #[.pointer (some ⟨3, 134, none⟩), .pointer (some a), .int .u64 150]]).run Tryz.prog w
    = .ok (.iface 263 (.agg #[.pointer (some ⟨3, 134, none⟩)])) w := by kernel_rfl
theorem kindTFa (w : World) : ((ReflectliteType.abiMethod fun t => (fun a : Nat => Value.int IntKind.u8 (a : Int)) <$> Rtype.kind t) #[.pointer (some ⟨3, 134, none⟩)]).run Tryz.prog w = .ok (.int .u8 22) w := by kernel_rfl
theorem kindEFa (w : World) : ((ReflectliteType.abiMethod fun t => (fun a : Nat => Value.int IntKind.u8 (a : Int)) <$> Rtype.kind t) #[.pointer (some ⟨3, 126, none⟩)]).run Tryz.prog w = .ok (.int .u8 22) w := by kernel_rfl
theorem partsTFa (a : Addr) (w : World) : (ReflectliteValue.parts (.agg #[.pointer (some ⟨3, 134, none⟩), .pointer (some a), .int .u64 150])).run Tryz.prog w = .ok (some (134, a, 150)) w := by kernel_rfl
theorem isNilTFa (a p : Addr) (W : World) (ha : W.cell? a = some (.pointer (some p))) :
    (ReflectliteValue.method (ReflectliteValue.valueError "reflectlite.Value.IsNil" 0) ReflectliteValue.isNil #[.agg #[.pointer (some ⟨3, 134, none⟩), .pointer (some a), .int .u64 150]]).run Tryz.prog W = .ok (.bool false) W := by
  rw [rlm]
  simp only [Sem.run_bind, partsTFa, Result.andThen]
  simp [ReflectliteValue.isNil, loadVar, isAgg, underlying, Tryz.underlying134, ha, Result.andThen]
theorem elemTFa (w : World) : (ReflectliteType.method ReflectliteType.elem #[.agg #[.pointer (some ⟨3, 134, none⟩)]]).run Tryz.prog w = .ok (.iface 263 (.agg #[.pointer (some ⟨3, 126, none⟩)])) w := by kernel_rfl
theorem implementsEFa (w : World) : (ReflectliteType.relation "Implements" ReflectliteType.implements_ #[.agg #[.pointer (some ⟨3, 126, none⟩)], .iface 263 (.agg #[.pointer (some ⟨3, 43, none⟩)])]).run Tryz.prog w = .ok (.bool true) w := by kernel_rfl
theorem typeOfEFa (v : Value) (w : World) : (ReflectliteType.typeOf #[.iface 126 v]).run Tryz.prog w = .ok (.iface 263 (.agg #[.pointer (some ⟨3, 126, none⟩)])) w := by kernel_rfl
theorem assignableEFa (w : World) : (ReflectliteType.relation "AssignableTo" ReflectliteType.assignableTo #[.agg #[.pointer (some ⟨3, 126, none⟩)], .iface 263 (.agg #[.pointer (some ⟨3, 126, none⟩)])]).run Tryz.prog w = .ok (.bool true) w := by kernel_rfl
theorem valueOfEFa (e : Addr) (w : World) : (ReflectliteValue.unpack (.iface 126 (.pointer (some e)))).run Tryz.prog w
    = .ok (.agg #[.pointer (some ⟨3, 126, none⟩), .pointer (some ⟨w.heap.size, 0, none⟩), .int .u64 150]) (w.alloc (.cells #[.pointer (some e)] 126)) := by kernel_rfl
theorem elemOfTFa (w : World) : (Rtype.elem? 134).run Tryz.prog w = .ok (some 126) w := by kernel_rfl
theorem mkEFa (p : Addr) (w : World) : (ReflectliteValue.mk 126 p ReflectliteValue.flagAddr).run Tryz.prog w = .ok (.agg #[.pointer (some ⟨3, 126, none⟩), .pointer (some p), .int .u64 406]) w := by kernel_rfl
theorem elemVTFa (a p : Addr) (W : World) (ha : W.cell? a = some (.pointer (some p))) :
    (ReflectliteValue.method (ReflectliteValue.valueError "reflectlite.Value.Elem" 0) ReflectliteValue.elem #[.agg #[.pointer (some ⟨3, 134, none⟩), .pointer (some a), .int .u64 150]]).run Tryz.prog W
      = .ok (.agg #[.pointer (some ⟨3, 126, none⟩), .pointer (some p), .int .u64 406]) W := by
  rw [rlm]
  simp only [Sem.run_bind, partsTFa, Result.andThen]
  simp [ReflectliteValue.elem, loadVar, isAgg, underlying, Tryz.underlying134, ha, Result.andThen, elemOfTFa, mkEFa]
theorem partsEaFa (a : Addr) (w : World) : (ReflectliteValue.parts (.agg #[.pointer (some ⟨3, 126, none⟩), .pointer (some a), .int .u64 406])).run Tryz.prog w = .ok (some (126, a, 406)) w := by kernel_rfl
theorem partsEFa (a : Addr) (w : World) : (ReflectliteValue.parts (.agg #[.pointer (some ⟨3, 126, none⟩), .pointer (some a), .int .u64 150])).run Tryz.prog w = .ok (some (126, a, 150)) w := by kernel_rfl
theorem directEFa (w : World) : (Rtype.directlyAssignable 126 126).run Tryz.prog w = .ok true w := by kernel_rfl
theorem setEFa (ta b e : Addr) (old : Value) (W : World) (hb : W.cell? b = some (.pointer (some e))) (ht : W.cell? ta = some old) (hf : W.frozen? ta = false) :
    (ReflectliteValue.set #[.agg #[.pointer (some ⟨3, 126, none⟩), .pointer (some ta), .int .u64 406], .agg #[.pointer (some ⟨3, 126, none⟩), .pointer (some b), .int .u64 150]]).run Tryz.prog W
      = .ok (.tuple #[]) (W.setCell ta (.pointer (some e))) := by
  rw [rls]
  simp only [Sem.run_bind, partsEaFa, partsEFa, Result.andThen]
  simp [ReflectliteValue.flagAddr, loadVar, isAgg, underlying, Tryz.underlying126, hb, Result.andThen, directEFa, storeVar, Value.cells, storeCells, Addr.add]
  rw [run_store Tryz.prog W ta _ _ (by rfl)]
  simp [ht, hf]

set_option maxRecDepth 100000 in
set_option maxHeartbeats 4000000 in
theorem asHitFa (e : Addr) (tb : Nat) (old : Value) (w : World) (hg : Laid w) (ht : Blk w tb 126 #[old]) :
    Calls Tryz.prog 58 #[.iface 126 (.pointer (some e)), .iface 134 (ptr tb)] w fun ev w' => ev = .returned (.bool true) ∧ Blk w' tb 126 #[.pointer (some e)] ∧ Keeps [tb] w w' := by
  have h6 := xValueOf
  have h7 := xType
  have h8 := xIsNil
  have h27 := xKind
  have h37 := xElem
  have h38 := xImpl
  have h10 := xTypeOf
  have h35 := xAssn
  have h11 := xElemV
  have h12 := xSet
  have tO := typeOfEFa
  have mA := methodAssignableTo
  have a25 := assignableEFa
  have v25 := valueOfEFa
  have f6 := valueOfTFa
  have f7 := typeTFa
  have mK := methodKind
  have mE := methodElem
  have mI := methodImplements
  have k27 := kindTFa
  have k25 := kindEFa
  have e27 := elemTFa
  have i25 := implementsEFa
  have ka : Keeps [] w (w.alloc (.cells #[ptr tb] 134)) := (Keeps.refl _ _).alloc _
  have kb : Keeps [] w ((w.alloc (.cells #[ptr tb] 134)).alloc (.cells #[.pointer (some ⟨3, 134, none⟩), .pointer (some ⟨w.heap.size, 0, none⟩), .int .u64 150] 209)) := ka.alloc _
  have kc : Keeps [] w (((w.alloc (.cells #[ptr tb] 134)).alloc (.cells #[.pointer (some ⟨3, 134, none⟩), .pointer (some ⟨w.heap.size, 0, none⟩), .int .u64 150] 209)).alloc (.cells #[.pointer (some ⟨3, 134, none⟩), .pointer (some ⟨w.heap.size, 0, none⟩), .int .u64 150] 209)) := kb.alloc _
  have kd : Keeps [] w ((((w.alloc (.cells #[ptr tb] 134)).alloc (.cells #[.pointer (some ⟨3, 134, none⟩), .pointer (some ⟨w.heap.size, 0, none⟩), .int .u64 150] 209)).alloc (.cells #[.pointer (some ⟨3, 134, none⟩), .pointer (some ⟨w.heap.size, 0, none⟩), .int .u64 150] 209)).alloc (.cells #[.pointer (some e)] 126)) := kc.alloc _
  have ba : Blk (w.alloc (.cells #[ptr tb] 134)) w.heap.size 134 #[ptr tb] := Blk.new _ _ _
  have n8 := isNilTFa ⟨w.heap.size, 0, none⟩ ⟨tb, 0, none⟩ ((w.alloc (.cells #[ptr tb] 134)).alloc (.cells #[.pointer (some ⟨3, 134, none⟩), .pointer (some ⟨w.heap.size, 0, none⟩), .int .u64 150] 209)) ((ba.alloc _).cell 0)
  have hg2 : ((w.alloc (.cells #[ptr tb] 134)).alloc (.cells #[.pointer (some ⟨3, 134, none⟩), .pointer (some ⟨w.heap.size, 0, none⟩), .int .u64 150] 209)).cell? ⟨0, 0, none⟩ = some (.iface 263 (.agg #[.pointer (some ⟨3, 43, none⟩)])) := hg.keep kb (by simp)
  have el := elemVTFa ⟨w.heap.size, 0, none⟩ ⟨tb, 0, none⟩ (((w.alloc (.cells #[ptr tb] 134)).alloc (.cells #[.pointer (some ⟨3, 134, none⟩), .pointer (some ⟨w.heap.size, 0, none⟩), .int .u64 150] 209)).alloc (.cells #[.pointer (some ⟨3, 134, none⟩), .pointer (some ⟨w.heap.size, 0, none⟩), .int .u64 150] 209)) (((ba.alloc _).alloc _).cell 0)
  have htd := kd.blk ht (by simp)
  have be : Blk ((((w.alloc (.cells #[ptr tb] 134)).alloc (.cells #[.pointer (some ⟨3, 134, none⟩), .pointer (some ⟨w.heap.size, 0, none⟩), .int .u64 150] 209)).alloc (.cells #[.pointer (some ⟨3, 134, none⟩), .pointer (some ⟨w.heap.size, 0, none⟩), .int .u64 150] 209)).alloc (.cells #[.pointer (some e)] 126)) (w.heap.size + 1 + 1 + 1) 126 #[.pointer (some e)] := Blk.new' _ _ (by simp)
  have st := setEFa ⟨tb, 0, none⟩ ⟨w.heap.size + 1 + 1 + 1, 0, none⟩ e old _ (be.cell 0) (htd.cell 0) (htd.free 0)
  clear ba be ka kb kc
  go_enter Tryz.func58, Tryz.ntmps58
  go_wp2
  refine wp_loop_rounds 1 ?_
  rw [rounds_succ]
  go_wp2
  go_ret
  exact ⟨rfl, htd.set 0 _, (kd.mono (by simp)).setCell (.inl (by simp)) _⟩
end Go.Proofs.YtkngjgblfappoaaGreatDoor
