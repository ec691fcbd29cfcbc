/-
  hook.Run: user code, called so that nothing of it gets out.
-/
import Derived.Test.YtkngjgblfappoaaGreatDoorAs
import Derived.Defers
import Derived.Recover
namespace Go.Proofs.YtkngjgblfappoaaGreatDoor
open Go.RowKit (Below intOf Hid)

theorem uNobody : (Tryz.prog.underlying 291) = some (.struct #[]) := by kernel_rfl
theorem assertNobody_no (u : TypeId) (pv : Value) (w : World) (h : (u == 291) = false) : (Instr.typeAssert (.iface u pv) 20 291 true).run Tryz.prog w = .ok (.tuple #[.agg #[], .bool false]) w := by
  have h : ¬ u = 291 := by simpa using h
  simp [Instr.typeAssert, run_underlying uNobody, h]
theorem assertNobody_yes (w : World) : (Instr.typeAssert (.iface 291 (.agg #[])) 20 291 true).run Tryz.prog w = .ok (.tuple #[.agg #[], .bool true]) w := by kernel_rfl
theorem assertNobody_nil (w : World) : (Instr.typeAssert .nilIface 20 291 true).run Tryz.prog w = .ok (.tuple #[.agg #[], .bool false]) w := by kernel_rfl

/-- A Fault in memory. -/
def FaultAt (w : World) (b : Nat) (wh : ByteArray) (err pan : Value) : Prop := Blk w b 128 #[.string wh, err, pan]

/-- What the deferred closure leaves, where it lays a fault. -/
def RunCP (be : Nat) (wh : ByteArray) (err pan : Value) (m : FrameMode) (w : World) (e : Ending) (u' : FrameMode) (w' : World) : Prop :=
  e = .returned (.tuple #[]) ∧ u' = m ∧ ∃ b, w.heap.size ≤ b ∧ FaultAt w' b wh err pan ∧ Blk w' be 43 #[.iface 126 (ptr b)] ∧ Keeps [be] w w'
/-- .. where it lays none. -/
def RunCI (w : World) (e : Ending) (u' : FrameMode) (w' : World) : Prop := e = .returned (.tuple #[]) ∧ u' = .returning ∧ Keeps [] w w'

theorem runC_end {be : Nat} {wh : ByteArray} {err pan old : Value} {m : FrameMode} {w : World} (he : Blk w be 43 #[old]) :
    RunCP be wh err pan m w (.returned (.tuple #[])) m (((w.setCell ⟨be, 0, none⟩ (.iface 126 (.pointer (some ⟨w.heap.size + 1, 0, none⟩)))).alloc (.cells #[] 291)).alloc (.cells #[.string wh, err, pan] 128)) := by
  have k : Keeps [be] w (w.setCell ⟨be, 0, none⟩ (.iface 126 (.pointer (some ⟨w.heap.size + 1, 0, none⟩)))) := (Keeps.refl _ _).setCell (.inl (by simp)) _
  exact ⟨rfl, rfl, w.heap.size + 1, by omega, Blk.new' _ _ (by simp), (((he.set 0 _).alloc _).alloc _ : Blk _ be _ _), (k.alloc _).alloc _⟩

set_option maxRecDepth 100000 in
theorem runC_panic (bw be bb : Nat) (wh : ByteArray) (u : TypeId) (pv : Value) (older : List PanicEntry) (w : World) (hn : (u == 291) = false) (hw : Blk w bw 9 #[.string wh]) (he : Blk w be 43 #[.nilIface]) (hb : Blk w bb 4 #[.bool false]) :
    CallsD Tryz.prog 173 #[ptr bw, ptr be, ptr bb] (.panicking ({ v := .iface u pv, recovered := false } :: older)) w (RunCP be wh .nilIface (.iface u pv) (.panicking ({ v := .iface u pv, recovered := true } :: older)) w) := by
  refine callsD_of_wpS Tryz.func173 rfl fun c₀ cs hu => ?_
  apply wpS_seq
  apply wpS_region
  simp [wpOpsS, go_sem, recoverD, hu, Tryz.ntmps173, Exit.thenS]
  refine wpS_of_wp ?_
  have x0 : w.cell? ⟨bw, 0, none⟩ = some (.string wh) := hw.cell 0
  have x1 : w.cell? ⟨be, 0, none⟩ = some .nilIface := he.cell 0
  have x2 : w.cell? ⟨bb, 0, none⟩ = some (.bool false) := hb.cell 0
  have x3 : w.frozen? ⟨be, 0, none⟩ = false := he.free 0
  have hs0 := hw.lt
  have hs1 := he.lt
  have hs2 := hb.lt
  have a0 := assertNobody_no u pv w hn
  simp [Array.replicate]
  go_wp2
  simp [bodyPostS, results, Tryz.results173]
  exact runC_end he

set_option maxRecDepth 100000 in
theorem runC_nobody (bw be bb : Nat) (wh : ByteArray) (older : List PanicEntry) (w : World) (hw : Blk w bw 9 #[.string wh]) (he : Blk w be 43 #[.nilIface]) (hb : Blk w bb 4 #[.bool false]) :
    CallsD Tryz.prog 173 #[ptr bw, ptr be, ptr bb] (.panicking ({ v := .iface 291 (.agg #[]), recovered := false } :: older)) w (RunCP be wh (.iface 57 (.int .i64 50)) .nilIface (.panicking ({ v := .iface 291 (.agg #[]), recovered := true } :: older)) w) := by
  refine callsD_of_wpS Tryz.func173 rfl fun c₀ cs hu => ?_
  apply wpS_seq
  apply wpS_region
  simp [wpOpsS, go_sem, recoverD, hu, Tryz.ntmps173, Exit.thenS]
  refine wpS_of_wp ?_
  have x0 : w.cell? ⟨bw, 0, none⟩ = some (.string wh) := hw.cell 0
  have x1 : w.cell? ⟨be, 0, none⟩ = some .nilIface := he.cell 0
  have x2 : w.cell? ⟨bb, 0, none⟩ = some (.bool false) := hb.cell 0
  have x3 : w.frozen? ⟨be, 0, none⟩ = false := he.free 0
  have hs0 := hw.lt
  have hs1 := he.lt
  have hs2 := hb.lt
  have a0 := assertNobody_yes w
  simp [Array.replicate]
  go_wp2
  simp [bodyPostS, results, Tryz.results173]
  exact runC_end he

set_option maxRecDepth 100000 in
theorem runC_idle (bw be bb : Nat) (w : World) (hb : Blk w bb 4 #[.bool true]) :
    CallsD Tryz.prog 173 #[ptr bw, ptr be, ptr bb] .returning w (RunCI w) := by
  refine callsD_of_wpS Tryz.func173 rfl fun c₀ cs hu => ?_
  apply wpS_seq
  apply wpS_region
  simp [wpOpsS, go_sem, recoverD, hu, Tryz.ntmps173, Exit.thenS]
  refine wpS_of_wp ?_
  have x2 : w.cell? ⟨bb, 0, none⟩ = some (.bool true) := hb.cell 0
  have hs2 := hb.lt
  have a0 := assertNobody_nil w
  simp [Array.replicate]
  go_wp2
  cases c₀
  simp_all [bodyPostS, results, Tryz.results173]
  exact ⟨rfl, rfl, (Keeps.refl _ _).alloc _⟩

/-- What is written behind, in new blocks alone, does not count. -/
theorem Chg.fresh {β : Nat} {S : List TypeId} {B M : List Nat} {w w1 w2 : World} (h : Chg β S B w w1) (k : Keeps M w1 w2) (hM : ∀ b, b ∈ M → w.heap.size ≤ b) : Chg β S B w w2 := by
  obtain ⟨N, hk, hN⟩ := h
  exact ⟨N, hk.trans k fun b hb => .inr (hM b hb), hN⟩

/-- What user code may come to: it returns an error or none, or it panics. -/
inductive Came
  | fine
  | told (u : TypeId) (v : Value)
  | struck (u : TypeId) (v : Value)
def Came.ending : Came → Ending
  | .fine => .returned .nilIface
  | .told u v => .returned (.iface u v)
  | .struck u v => .panicked [{ v := .iface u v, recovered := false }]
def Came.ok : Came → Prop
  | .struck u _ => (u == 291) = false
  | _ => True
def Came.err : Came → Value
  | .told u v => .iface u v
  | _ => .nilIface
def Came.pan : Came → Value
  | .struck u v => .iface u v
  | _ => .nilIface
/-- What Run makes of it. -/
def RunP (wh : ByteArray) (o : Came) (e : Ending) (w' : World) : Prop :=
  (o = .fine ∧ e = .returned .nilIface) ∨ (o ≠ .fine ∧ ∃ b, e = .returned (.iface 126 (ptr b)) ∧ FaultAt w' b wh o.err o.pan)

theorem eqFnE (fn : Fn) (first cap : Array Value) (w : World) : (binOp .eql 195 (.func fn first cap) .nilFunc).run Tryz.prog w = .ok (.bool false) w := by kernel_rfl

set_option maxRecDepth 100000 in
set_option maxHeartbeats 800000 in
theorem run_any {β : Nat} {S : List TypeId} {B : List Nat} (wh : ByteArray) (G : FuncId) (first cap : Array Value) (w : World) (R : Came → World → Prop) (hent : ∀ args w, (callFunc G args).run Tryz.prog w = .ok (.enter G args) w) (hβ : β ≤ w.heap.size)
    (hS : 9 ∉ S ∧ 43 ∉ S ∧ 4 ∉ S)
    (hc : ∀ w1, Keeps [] w w1 → Calls Tryz.prog G (first ++ cap) w1 fun e w2 => ∃ o : Came, o.ok ∧ e = o.ending ∧ R o w2 ∧ Chg β S B w1 w2)
    (hR : ∀ o w2 w3, R o w2 → Chg β [43, 4] [] w2 w3 → R o w3) :
    Calls Tryz.prog 120 #[.string wh, .func (.func G) first cap] w fun e w' => ∃ o : Came, RunP wh o e w' ∧ R o w' ∧ Chg β S B w w' := by
  have hmf : ∀ (fn : Fn) (first cap : Array Value) (w : World), (Instr.makeFunc fn first cap).run Tryz.prog w = .ok (.func fn first cap) w := fun _ _ _ _ => rfl
  have heq := eqFnE
  have K0 : Keeps [] w (((w.alloc (.cells #[.string wh] 9)).alloc (.cells #[.nilIface] 43)).alloc (.cells #[.bool false] 4)) := (((Keeps.refl _ _).alloc _).alloc _).alloc _
  have b0 : Blk (((w.alloc (.cells #[.string wh] 9)).alloc (.cells #[.nilIface] 43)).alloc (.cells #[.bool false] 4)) w.heap.size 9 #[.string wh] := ((Blk.new _ _ _).alloc _).alloc _
  have b1 : Blk (((w.alloc (.cells #[.string wh] 9)).alloc (.cells #[.nilIface] 43)).alloc (.cells #[.bool false] 4)) (w.heap.size + 1) 43 #[.nilIface] := (Blk.new' _ _ (by simp)).alloc _
  have b2 : Blk (((w.alloc (.cells #[.string wh] 9)).alloc (.cells #[.nilIface] 43)).alloc (.cells #[.bool false] 4)) (w.heap.size + 1 + 1) 4 #[.bool false] := Blk.new' _ _ (by simp)
  go_enter_defers Tryz.func120, Tryz.ntmps120
  go_wp2_with fail
  generalize ((w.alloc (.cells #[.string wh] 9)).alloc (.cells #[.nilIface] 43)).alloc (.cells #[.bool false] 4) = w1 at *
  have hc := hc w1 K0
  have Hc := Lib.hid hc
  have HR := Lib.hid hR
  clear hc hR
  refine Hc.out.mono ?_
  rintro e w2 ⟨o, hok, rfl, hr, hk⟩
  have c0 := hk.blk b0 hS.1
  have c1 := hk.blk b1 hS.2.1
  have c2 := hk.blk b2 hS.2.2
  have d0 : w2.cell? ⟨w.heap.size, 0, none⟩ = some (.string wh) := c0.cell 0
  have d1 : w2.cell? ⟨w.heap.size + 1, 0, none⟩ = some .nilIface := c1.cell 0
  have d2 : w2.cell? ⟨w.heap.size + 1 + 1, 0, none⟩ = some (.bool false) := c2.cell 0
  have f1 : w2.frozen? ⟨w.heap.size + 1, 0, none⟩ = false := c1.free 0
  have f2 : w2.frozen? ⟨w.heap.size + 1 + 1, 0, none⟩ = false := c2.free 0
  have s0 := c0.lt
  have s1 := c1.lt
  have s2 := c2.lt
  have KW : Chg β S B w w2 := (Chg.of_keeps K0).trans hk
  have hch : ∀ w3, Keeps [w.heap.size + 1, w.heap.size + 1 + 1] w2 w3 → Chg β [43, 4] [] w2 w3 := fun w3 k => Chg.of _ k (fun b hb => by
    rcases List.mem_cons.1 hb with rfl | hb
    · exact ⟨by omega, .inr ⟨_, _, _, c1, by simp⟩⟩
    · rw [List.mem_singleton.1 hb]
      exact ⟨by omega, .inr ⟨_, _, _, c2, by simp⟩⟩)
  have hchm : ∀ w3, Keeps [w.heap.size + 1, w.heap.size + 1 + 1] w2 w3 → Chg β S B w w3 := fun w3 k => KW.fresh k (fun b hb => by simp at hb; omega)
  have Hch := Lib.hid hch
  have Hchm := Lib.hid hchm
  have Hr := Lib.hid hr
  have HK := Lib.hid hk
  clear hr hk hch hchm
  cases o with
  | fine =>
    simp only [Came.ending]
    go_wp2
    have k1 : Keeps [w.heap.size + 1, w.heap.size + 1 + 1] w2 ((w2.setCell ⟨w.heap.size + 1 + 1, 0, none⟩ (.bool true)).setCell ⟨w.heap.size + 1, 0, none⟩ .nilIface) := ((Keeps.refl _ _).setCell (.inl (by simp)) _).setCell (.inl (by simp)) _
    have e1 := (c1.far (p := ⟨w.heap.size + 1 + 1, 0, none⟩) (by simp) (.bool true)).set 0 .nilIface
    have e2 := (c2.set 0 (.bool true)).far (p := ⟨w.heap.size + 1, 0, none⟩) (by simp) .nilIface
    refine leaves_cons (f := 173) (args := #[ptr w.heap.size, ptr (w.heap.size + 1), ptr (w.heap.size + 1 + 1)]) (by simp) (by simp [go_sem]) ?_
    refine (runC_idle _ _ _ _ e2).mono ?_
    rintro e u' w3 ⟨rfl, rfl, hk3⟩
    have r1 : w3.cell? ⟨w.heap.size + 1, 0, none⟩ = some .nilIface := (hk3.blk e1 (by simp)).cell 0
    simp [Leaves, settle, results, Tryz.results120, go_sem, r1]
    exact ⟨.fine, .inl ⟨rfl, rfl⟩, HR.out _ _ _ Hr.out (Hch.out _ (k1.trans_nil hk3)), Hchm.out _ (k1.trans_nil hk3)⟩
  | told u v =>
    simp only [Came.ending]
    go_wp2
    have k1 : Keeps [w.heap.size + 1, w.heap.size + 1 + 1] w2 (((w2.setCell ⟨w.heap.size + 1 + 1, 0, none⟩ (.bool true)).setCell ⟨w.heap.size + 1, 0, none⟩ (.iface 126 (ptr w2.heap.size))).alloc (.cells #[.string wh, .iface u v, .nilIface] 128)) := (((Keeps.refl _ _).setCell (.inl (by simp)) _).setCell (.inl (by simp)) _).alloc _
    have e1 := ((c1.far (p := ⟨w.heap.size + 1 + 1, 0, none⟩) (by simp) (.bool true)).set 0 (.iface 126 (ptr w2.heap.size))).alloc (.cells #[.string wh, .iface u v, .nilIface] 128)
    have e2 := ((c2.set 0 (.bool true)).far (p := ⟨w.heap.size + 1, 0, none⟩) (by simp) (.iface 126 (ptr w2.heap.size))).alloc (.cells #[.string wh, .iface u v, .nilIface] 128)
    have e3 : FaultAt (((w2.setCell ⟨w.heap.size + 1 + 1, 0, none⟩ (.bool true)).setCell ⟨w.heap.size + 1, 0, none⟩ (.iface 126 (ptr w2.heap.size))).alloc (.cells #[.string wh, .iface u v, .nilIface] 128)) w2.heap.size wh (.iface u v) .nilIface :=
      Blk.new' _ _ (by simp)
    refine leaves_cons (f := 173) (args := #[ptr w.heap.size, ptr (w.heap.size + 1), ptr (w.heap.size + 1 + 1)]) (by simp) (by simp [go_sem]) ?_
    refine (runC_idle _ _ _ _ e2).mono ?_
    rintro e u' w3 ⟨rfl, rfl, hk3⟩
    have r1 : w3.cell? ⟨w.heap.size + 1, 0, none⟩ = some (.iface 126 (ptr w2.heap.size)) := (hk3.blk e1 (by simp)).cell 0
    simp [Leaves, settle, results, Tryz.results120, go_sem, r1]
    exact ⟨.told u v, .inr ⟨nofun, _, rfl, hk3.blk e3 (by simp)⟩, HR.out _ _ _ Hr.out (Hch.out _ (k1.trans_nil hk3)), Hchm.out _ (k1.trans_nil hk3)⟩
  | struck u v =>
    simp only [Came.ending]
    go_wp2
    refine leaves_cons (f := 173) (args := #[ptr w.heap.size, ptr (w.heap.size + 1), ptr (w.heap.size + 1 + 1)]) (by simp) (by simp [go_sem]) ?_
    refine (runC_panic _ _ _ wh u v [] _ hok c0 c1 c2).mono ?_
    rintro e u' w3 ⟨rfl, rfl, b, hb, hF, he, hk3⟩
    have r1 : w3.cell? ⟨w.heap.size + 1, 0, none⟩ = some (.iface 126 (ptr b)) := he.cell 0
    simp [Leaves, settle, results, Tryz.results120, go_sem, r1]
    exact ⟨.struck u v, .inr ⟨nofun, b, rfl, hF⟩, HR.out _ _ _ Hr.out (Hch.out _ (hk3.mono (by simp))), Hchm.out _ (hk3.mono (by simp))⟩
end Go.Proofs.YtkngjgblfappoaaGreatDoor
