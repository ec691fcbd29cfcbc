/-
  errors.As at a target of one pointer type: the error's own type is the target's.
-/
import Derived.Test.YtkngjgblfappoaaGreatDoorAs
namespace Go.Proofs.YtkngjgblfappoaaGreatDoor
open Go.RowKit (Below intOf Hid)
open Go.Extern.Stop Go.Stop Go.Extern

theorem valueOfTMa (t : Addr) (w : World) : (ReflectliteValue.unpack (.iface 165 (.pointer (some t)))).run Tryz.prog w
    = .ok (.agg #[.pointer (some ⟨3, 165, none⟩), .pointer (some ⟨w.heap.size, 0, none⟩), .int .u64 150]) (w.alloc (.cells #[.pointer (some t)] 165)) := by kernel_rfl
theorem typeTMa (a : Addr) (w : World) : (ReflectliteValue.methodAny (ReflectliteValue.valueError "reflectlite.Value.Type" 0) (fun t _ _ _ => ReflectliteType.toType t) #[.agg #[.pointer (some ⟨3, 165, none⟩), .pointer (some a), .int .u64 150]]).run Tryz.prog w
    = .ok (.iface 263 (.agg #[.pointer (some ⟨3, 165, none⟩)])) w := by kernel_rfl
theorem kindTMa (w : World) : ((ReflectliteType.abiMethod fun t => (fun a : Nat => Value.int IntKind.u8 (a : Int)) <$> Rtype.kind t) #[.pointer (some ⟨3, 165, none⟩)]).run Tryz.prog w = .ok (.int .u8 22) w := by kernel_rfl
theorem kindEMa (w : World) : ((ReflectliteType.abiMethod fun t => (fun a : Nat => Value.int IntKind.u8 (a : Int)) <$> Rtype.kind t) #[.pointer (some ⟨3, 77, none⟩)]).run Tryz.prog w = .ok (.int .u8 22) w := by kernel_rfl
theorem partsTMa (a : Addr) (w : World) : (ReflectliteValue.parts (.agg #[.pointer (some ⟨3, 165, none⟩), .pointer (some a), .int .u64 150])).run Tryz.prog w = .ok (some (165, a, 150)) w := by kernel_rfl
theorem isNilTMa (a p : Addr) (W : World) (ha : W.cell? a = some (.pointer (some p))) :
    (ReflectliteValue.method (ReflectliteValue.valueError "reflectlite.Value.IsNil" 0) ReflectliteValue.isNil #[.agg #[.pointer (some ⟨3, 165, none⟩), .pointer (some a), .int .u64 150]]).run Tryz.prog W = .ok (.bool false) W := by
  rw [rlm]
  simp only [Sem.run_bind, partsTMa, Result.andThen]
  simp [ReflectliteValue.isNil, loadVar, isAgg, underlying, Tryz.underlying165, ha, Result.andThen]
theorem elemTMa (w : World) : (ReflectliteType.method ReflectliteType.elem #[.agg #[.pointer (some ⟨3, 165, none⟩)]]).run Tryz.prog w = .ok (.iface 263 (.agg #[.pointer (some ⟨3, 77, none⟩)])) w := by kernel_rfl
theorem implementsEMa (w : World) : (ReflectliteType.relation "Implements" ReflectliteType.implements_ #[.agg #[.pointer (some ⟨3, 77, none⟩)], .iface 263 (.agg #[.pointer (some ⟨3, 43, none⟩)])]).run Tryz.prog w = .ok (.bool true) w := by kernel_rfl
theorem typeOfEMa (v : Value) (w : World) : (ReflectliteType.typeOf #[.iface 77 v]).run Tryz.prog w = .ok (.iface 263 (.agg #[.pointer (some ⟨3, 77, none⟩)])) w := by kernel_rfl
theorem assignableEMa (w : World) : (ReflectliteType.relation "AssignableTo" ReflectliteType.assignableTo #[.agg #[.pointer (some ⟨3, 77, none⟩)], .iface 263 (.agg #[.pointer (some ⟨3, 77, none⟩)])]).run Tryz.prog w = .ok (.bool true) w := by kernel_rfl
theorem valueOfEMa (e : Addr) (w : World) : (ReflectliteValue.unpack (.iface 77 (.pointer (some e)))).run Tryz.prog w
    = .ok (.agg #[.pointer (some ⟨3, 77, none⟩), .pointer (some ⟨w.heap.size, 0, none⟩), .int .u64 150]) (w.alloc (.cells #[.pointer (some e)] 77)) := by kernel_rfl
theorem elemOfTMa (w : World) : (Rtype.elem? 165).run Tryz.prog w = .ok (some 77) w := by kernel_rfl
theorem mkEMa (p : Addr) (w : World) : (ReflectliteValue.mk 77 p ReflectliteValue.flagAddr).run Tryz.prog w = .ok (.agg #[.pointer (some ⟨3, 77, none⟩), .pointer (some p), .int .u64 406]) w := by kernel_rfl
theorem elemVTMa (a p : Addr) (W : World) (ha : W.cell? a = some (.pointer (some p))) :
    (ReflectliteValue.method (ReflectliteValue.valueError "reflectlite.Value.Elem" 0) ReflectliteValue.elem #[.agg #[.pointer (some ⟨3, 165, none⟩), .pointer (some a), .int .u64 150]]).run Tryz.prog W
      = .ok (.agg #[.pointer (some ⟨3, 77, none⟩), .pointer (some p), .int .u64 406]) W := by
  rw [rlm]
  simp only [Sem.run_bind, partsTMa, Result.andThen]
  simp [ReflectliteValue.elem, loadVar, isAgg, underlying, Tryz.underlying165, ha, Result.andThen, elemOfTMa, mkEMa]
theorem partsEaMa (a : Addr) (w : World) : (ReflectliteValue.parts (.agg #[.pointer (some ⟨3, 77, none⟩), .pointer (some a), .int .u64 406])).run Tryz.prog w = .ok (some (77, a, 406)) w := by kernel_rfl
theorem partsEMa (a : Addr) (w : World) : (ReflectliteValue.parts (.agg #[.pointer (some ⟨3, 77, none⟩), .pointer (some a), .int .u64 150])).run Tryz.prog w = .ok (some (77, a, 150)) w := by kernel_rfl
theorem directEMa (w : World) : (Rtype.directlyAssignable 77 77).run Tryz.prog w = .ok true w := by kernel_rfl
theorem setEMa (ta b e : Addr) (old : Value) (W : World) (hb : W.cell? b = some (.pointer (some e))) (ht : W.cell? ta = some old) (hf : W.frozen? ta = false) :
    (ReflectliteValue.set #[.agg #[.pointer (some ⟨3, 77, none⟩), .pointer (some ta), .int .u64 406], .agg #[.pointer (some ⟨3, 77, none⟩), .pointer (some b), .int .u64 150]]).run Tryz.prog W
      = .ok (.tuple #[]) (W.setCell ta (.pointer (some e))) := by
  rw [rls]
  simp only [Sem.run_bind, partsEaMa, partsEMa, Result.andThen]
  simp [ReflectliteValue.flagAddr, loadVar, isAgg, underlying, Tryz.underlying77, hb, Result.andThen, directEMa, storeVar, Value.cells, storeCells, Addr.add]
  rw [run_store Tryz.prog W ta _ _ (by rfl)]
  simp [ht, hf]

set_option maxRecDepth 100000 in
set_option maxHeartbeats 4000000 in
theorem asHitMa (e : Addr) (tb : Nat) (old : Value) (w : World) (hg : Laid w) (ht : Blk w tb 77 #[old]) :
    Calls Tryz.prog 58 #[.iface 77 (.pointer (some e)), .iface 165 (ptr tb)] w fun ev w' => ev = .returned (.bool true) ∧ Blk w' tb 77 #[.pointer (some e)] ∧ Keeps [tb] w w' := by
  have h6 := xValueOf
  have h7 := xType
  have h8 := xIsNil
  have h27 := xKind
  have h37 := xElem
  have h38 := xImpl
  have h10 := xTypeOf
  have h35 := xAssn
  have h11 := xElemV
  have h12 := xSet
  have tO := typeOfEMa
  have mA := methodAssignableTo
  have a25 := assignableEMa
  have v25 := valueOfEMa
  have f6 := valueOfTMa
  have f7 := typeTMa
  have mK := methodKind
  have mE := methodElem
  have mI := methodImplements
  have k27 := kindTMa
  have k25 := kindEMa
  have e27 := elemTMa
  have i25 := implementsEMa
  have ka : Keeps [] w (w.alloc (.cells #[ptr tb] 165)) := (Keeps.refl _ _).alloc _
  have kb : Keeps [] w ((w.alloc (.cells #[ptr tb] 165)).alloc (.cells #[.pointer (some ⟨3, 165, none⟩), .pointer (some ⟨w.heap.size, 0, none⟩), .int .u64 150] 209)) := ka.alloc _
  have kc : Keeps [] w (((w.alloc (.cells #[ptr tb] 165)).alloc (.cells #[.pointer (some ⟨3, 165, none⟩), .pointer (some ⟨w.heap.size, 0, none⟩), .int .u64 150] 209)).alloc (.cells #[.pointer (some ⟨3, 165, none⟩), .pointer (some ⟨w.heap.size, 0, none⟩), .int .u64 150] 209)) := kb.alloc _
  have kd : Keeps [] w ((((w.alloc (.cells #[ptr tb] 165)).alloc (.cells #[.pointer (some ⟨3, 165, none⟩), .pointer (some ⟨w.heap.size, 0, none⟩), .int .u64 150] 209)).alloc (.cells #[.pointer (some ⟨3, 165, none⟩), .pointer (some ⟨w.heap.size, 0, none⟩), .int .u64 150] 209)).alloc (.cells #[.pointer (some e)] 77)) := kc.alloc _
  have ba : Blk (w.alloc (.cells #[ptr tb] 165)) w.heap.size 165 #[ptr tb] := Blk.new _ _ _
  have n8 := isNilTMa ⟨w.heap.size, 0, none⟩ ⟨tb, 0, none⟩ ((w.alloc (.cells #[ptr tb] 165)).alloc (.cells #[.pointer (some ⟨3, 165, none⟩), .pointer (some ⟨w.heap.size, 0, none⟩), .int .u64 150] 209)) ((ba.alloc _).cell 0)
  have hg2 : ((w.alloc (.cells #[ptr tb] 165)).alloc (.cells #[.pointer (some ⟨3, 165, none⟩), .pointer (some ⟨w.heap.size, 0, none⟩), .int .u64 150] 209)).cell? ⟨0, 0, none⟩ = some (.iface 263 (.agg #[.pointer (some ⟨3, 43, none⟩)])) := hg.keep kb (by simp)
  have el := elemVTMa ⟨w.heap.size, 0, none⟩ ⟨tb, 0, none⟩ (((w.alloc (.cells #[ptr tb] 165)).alloc (.cells #[.pointer (some ⟨3, 165, none⟩), .pointer (some ⟨w.heap.size, 0, none⟩), .int .u64 150] 209)).alloc (.cells #[.pointer (some ⟨3, 165, none⟩), .pointer (some ⟨w.heap.size, 0, none⟩), .int .u64 150] 209)) (((ba.alloc _).alloc _).cell 0)
  have htd := kd.blk ht (by simp)
  have be : Blk ((((w.alloc (.cells #[ptr tb] 165)).alloc (.cells #[.pointer (some ⟨3, 165, none⟩), .pointer (some ⟨w.heap.size, 0, none⟩), .int .u64 150] 209)).alloc (.cells #[.pointer (some ⟨3, 165, none⟩), .pointer (some ⟨w.heap.size, 0, none⟩), .int .u64 150] 209)).alloc (.cells #[.pointer (some e)] 77)) (w.heap.size + 1 + 1 + 1) 77 #[.pointer (some e)] := Blk.new' _ _ (by simp)
  have st := setEMa ⟨tb, 0, none⟩ ⟨w.heap.size + 1 + 1 + 1, 0, none⟩ e old _ (be.cell 0) (htd.cell 0) (htd.free 0)
  clear ba be ka kb kc
  go_enter Tryz.func58, Tryz.ntmps58
  go_wp2
  refine wp_loop_rounds 1 ?_
  rw [rounds_succ]
  go_wp2
  go_ret
  exact ⟨rfl, htd.set 0 _, (kd.mono (by simp)).setCell (.inl (by simp)) _⟩
end Go.Proofs.YtkngjgblfappoaaGreatDoor
