/-
  hook.Observe: an observer, called.
-/
import Derived.Test.YtkngjgblfappoaaGreatDoorRun
import Derived.Test.YtkngjgblfappoaaGreatDoorSlGVa
import Derived.Deep.RegionWith
namespace Go.Proofs.YtkngjgblfappoaaGreatDoor
open Go.RowKit (Below intOf Hid)

/-- A change, as a value: its table, its row, the values before and behind. -/
structure Chv where
  tb : ByteArray
  id : Int
  a : Option Addr
  an : Nat
  ac : Nat
  b : Option Addr
  bn : Nat
  bc : Nat
def Chv.cells (c : Chv) : Array Value := #[.string c.tb, .int .i64 c.id, .slice c.a c.an c.ac, .slice c.b c.bn c.bc]

set_option maxHeartbeats 800000 in
theorem observeC (fb cb : Nat) (G : FuncId) (first cap : Array Value) (c : Chv) (w : World) (hf : Blk w fb 156 #[.func (.func G) first cap]) (hcb : Blk w cb 71 c.cells) (hent : ∀ args w, (callFunc G args).run Tryz.prog w = .ok (.enter G args) w)
    (Q : Ending → World → Prop) (hc : Calls Tryz.prog G (first ++ #[.agg c.cells] ++ cap) w Q) (hQ : ∀ e w', Q e w' → ∃ o : Came, e = o.ending) :
    Calls Tryz.prog 121 #[ptr fb, ptr cb] w Q := by
  have f0 : w.cell? ⟨fb, 0, none⟩ = some (.func (.func G) first cap) := hf.cell 0
  have c0 : w.cell? ⟨cb, 0, none⟩ = some (.string c.tb) := hcb.cell 0
  have c1 : w.cell? ⟨cb, 1, none⟩ = some (.int .i64 c.id) := hcb.cell 1
  have c2 : w.cell? ⟨cb, 2, none⟩ = some (.slice c.a c.an c.ac) := hcb.cell 2
  have c3 : w.cell? ⟨cb, 3, none⟩ = some (.slice c.b c.bn c.bc) := hcb.cell 3
  unfold Chv.cells at hc
  have Hc := Lib.hid hc
  have HQ := Lib.hid hQ
  clear hc hQ
  go_enter Tryz.func121, Tryz.ntmps121
  go_wp2_with fail
  refine Hc.out.mono ?_
  rintro e w2 hq
  obtain ⟨o, rfl⟩ := HQ.out _ _ hq
  have Hq := Lib.hid hq
  clear hq
  cases o with
  | fine => simp only [Came.ending] at *; go_wp2; exact Hq.out
  | told u v => simp only [Came.ending] at *; go_wp2; exact Hq.out
  | struck u v =>
    simp only [Came.ending] at *
    go_wp2
    exact ⟨rfl, Hq.out⟩

theorem copyVals (A : Option Addr) (n c : Nat) (xs : List Value) (w : World) (hr : Rc w 4 A n xs) (hn : n ≤ 100000) :
    Calls Tryz.prog 57 #[.slice A n c] w fun e w' => ∃ A' c', e = .returned (.slice A' n c') ∧ w'.ownsRow w.heap.size 125 4 (.slice A' n c') n xs ∧ Keeps [] w w' := by
  go_enter Tryz.func57, Tryz.ntmps57
  go_wp2_with (go_at_call 100; refine (cloneVa A n c xs _ hr hn).mono ?_; rintro e w1 ⟨A', c', rfl, ho, hk⟩)
  go_ret
  exact ⟨A', c', rfl, ho, hk⟩

theorem entObserveC (args : Array Value) (w : World) : (callFunc 121 args).run Tryz.prog w = .ok (.enter 121 args) w := by kernel_rfl
theorem eqObs (fn : Fn) (first cap : Array Value) (w : World) : (binOp .eql 156 (.func fn first cap) .nilFunc).run Tryz.prog w = .ok (.bool false) w := by kernel_rfl

set_option maxRecDepth 100000 in
set_option maxHeartbeats 1600000 in
theorem observe {β : Nat} {S : List TypeId} {B : List Nat} (G : FuncId) (first cap : Array Value) (c : Chv) (xs ys : List Value) (w : World) (R : Came → World → Prop) (hent : ∀ args w, (callFunc G args).run Tryz.prog w = .ok (.enter G args) w) (hβ : β ≤ w.heap.size)
    (hS : 9 ∉ S ∧ 43 ∉ S ∧ 4 ∉ S) (hx : Rc w 4 c.a c.an xs) (hy : Rc w 4 c.b c.bn ys) (han : c.an ≤ 100000) (hbn : c.bn ≤ 100000)
    (hc : ∀ w1 a ac b bc, Keeps [] w w1 → Rd w1 125 4 a c.an xs → Rd w1 125 4 b c.bn ys → Calls Tryz.prog G (first ++ #[.agg (Chv.cells ⟨c.tb, c.id, a, c.an, ac, b, c.bn, bc⟩)] ++ cap) w1 fun e w2 => ∃ o : Came, o.ok ∧ e = o.ending ∧ R o w2 ∧ Chg β S B w1 w2)
    (hR : ∀ o w2 w3, R o w2 → Chg β [43, 4] [] w2 w3 → R o w3) :
    Calls Tryz.prog 75 #[.func (.func G) first cap, .agg c.cells] w fun e w' => ∃ o : Came, RunP ⟨#[]⟩ o e w' ∧ R o w' ∧ Chg β S B w w' := by
  have hmf : ∀ (fn : Fn) (first cap : Array Value) (w : World), (Instr.makeFunc fn first cap).run Tryz.prog w = .ok (.func fn first cap) w := fun _ _ _ _ => rfl
  have heq := eqObs
  obtain ⟨tb, id, a, an, ac, b, bn, bc⟩ := c
  simp only [Chv.cells] at *
  have K0 : Keeps [] w ((w.alloc (.cells #[.func (.func G) first cap] 156)).alloc (.cells #[.string tb, .int .i64 id, .slice a an ac, .slice b bn bc] 71)) := ((Keeps.refl _ _).alloc _).alloc _
  have b0 : Blk ((w.alloc (.cells #[.func (.func G) first cap] 156)).alloc (.cells #[.string tb, .int .i64 id, .slice a an ac, .slice b bn bc] 71)) w.heap.size 156 #[.func (.func G) first cap] := (Blk.new _ _ _).alloc _
  have b1 : Blk ((w.alloc (.cells #[.func (.func G) first cap] 156)).alloc (.cells #[.string tb, .int .i64 id, .slice a an ac, .slice b bn bc] 71)) (w.heap.size + 1) 71 #[.string tb, .int .i64 id, .slice a an ac, .slice b bn bc] := Blk.new' _ _ (by simp)
  have hx1 := hx.keep K0 (by simp)
  have hy1 := hy.keep K0 (by simp)
  have Hc := Lib.hid hc
  have HR := Lib.hid hR
  clear hc hR
  go_enter Tryz.func75, Tryz.ntmps75
  go_wp2_with fail
  generalize (w.alloc (.cells #[.func (.func G) first cap] 156)).alloc (.cells #[.string tb, .int .i64 id, .slice a an ac, .slice b bn bc] 71) = w1 at *
  have c0 : w1.cell? ⟨w.heap.size, 0, none⟩ = some (.func (.func G) first cap) := b0.cell 0
  have c2 : w1.cell? ⟨w.heap.size + 1, 2, none⟩ = some (.slice a an ac) := b1.cell 2
  have c3 : w1.cell? ⟨w.heap.size + 1, 3, none⟩ = some (.slice b bn bc) := b1.cell 3
  go_region_with (first
    | (go_at_call_of 57 (Value.slice a an ac)
       refine (copyVals a an ac xs _ hx1.drew han).mono ?_
       rintro e w2 ⟨A1, k1, rfl, ho1, hk1⟩
       have hk1 := hk1.of_drew
       have b2 := hk1.blk b1 (by simp)
       have hy2 := hy1.keep hk1 (by simp)
       have d2 : w2.cell? ⟨w.heap.size + 1, 2, none⟩ = some (.slice a an ac) := b2.cell 2
       have d3 : w2.cell? ⟨w.heap.size + 1, 3, none⟩ = some (.slice b bn bc) := b2.cell 3)
    | (go_at_call_of 57 (Value.slice b bn bc)
       refine (copyVals b bn bc ys _ hy2 hbn).mono ?_
       rintro e w3 ⟨A2, k2, rfl, ho2, hk2⟩
       have b3 := hk2.blk b2 (by simp)
       have e2 : w3.cell? ⟨w.heap.size + 1, 2, none⟩ = some (.slice a an ac) := b3.cell 2
       have e3 : w3.cell? ⟨w.heap.size + 1, 3, none⟩ = some (.slice b bn bc) := b3.cell 3
       have g2 : w3.frozen? ⟨w.heap.size + 1, 2, none⟩ = false := b3.free 2
       have g3 : w3.frozen? ⟨w.heap.size + 1, 3, none⟩ = false := b3.free 3))
  all_goals
    have hrx : Rd w3 125 4 A1 an xs := (own_rd ho1 hx1.2.1).keep hk2 (by simp)
    have hry : Rd w3 125 4 A2 bn ys := own_rd ho2 hy1.2.1
    have k4 : Keeps [w.heap.size + 1] w3 ((w3.setCell ⟨w.heap.size + 1, 2, none⟩ (.slice A1 an k1)).setCell ⟨w.heap.size + 1, 3, none⟩ (.slice A2 bn k2)) := ((Keeps.refl _ _).setCell (.inl (by simp)) _).setCell (.inl (by simp)) _
    have K4 : Keeps [] w ((w3.setCell ⟨w.heap.size + 1, 2, none⟩ (.slice A1 an k1)).setCell ⟨w.heap.size + 1, 3, none⟩ (.slice A2 bn k2)) := ((K0.trans_nil hk1).trans_nil hk2).trans k4 (fun b hb => .inr (by simp at hb; omega))
    have b4 : Blk ((w3.setCell ⟨w.heap.size + 1, 2, none⟩ (.slice A1 an k1)).setCell ⟨w.heap.size + 1, 3, none⟩ (.slice A2 bn k2)) (w.heap.size + 1) 71 (Chv.cells ⟨tb, id, A1, an, k1, A2, bn, k2⟩) := (b3.set 2 _).set 3 _
    have o4 : Blk ((w3.setCell ⟨w.heap.size + 1, 2, none⟩ (.slice A1 an k1)).setCell ⟨w.heap.size + 1, 3, none⟩ (.slice A2 bn k2)) w.heap.size 156 #[.func (.func G) first cap] := k4.blk (hk2.blk (hk1.blk b0 (by simp)) (by simp)) (by simp)
    have hnt : ∀ b, b ∈ [w.heap.size + 1] → NoTag w3 b [125] := by intro b hb'; rw [List.mem_singleton.1 hb']; exact b3.noTag (by decide)
    have rx4 := hrx.keep k4 hnt
    have ry4 := hry.keep k4 hnt
    have hs4 := K4.size
    generalize (w3.setCell ⟨w.heap.size + 1, 2, none⟩ (.slice A1 an k1)).setCell ⟨w.heap.size + 1, 3, none⟩ (.slice A2 bn k2) = w4 at *
    have hrun := run_any (β := β) (S := S) (B := B) ⟨#[]⟩ 121 #[] #[ptr w.heap.size, ptr (w.heap.size + 1)] w4 R entObserveC (by omega) hS (fun w5 k5 => by
      have hq := Hc.out w5 A1 k1 A2 k2 (K4.trans_nil k5) (rx4.keep k5 (by simp)) (ry4.keep k5 (by simp))
      exact observeC w.heap.size (w.heap.size + 1) G first cap ⟨tb, id, A1, an, k1, A2, bn, k2⟩ w5 (k5.blk o4 (by simp)) (k5.blk b4 (by simp)) hent _ hq (fun e w' h => by obtain ⟨o, _, h, _⟩ := h; exact ⟨o, h⟩)) HR.out
    have Hrun := Lib.hid hrun
    clear hrun hent
    go_wp2_with fail
    refine Hrun.out.mono ?_
    rintro e w6 ⟨o, hP, hr, hC⟩
    have Hr := Lib.hid hr
    have hfin : Chg β S B w w6 := (Chg.of_keeps K4).trans hC
    have Hfin := Lib.hid hfin
    clear hr hC hfin
    rcases hP with ⟨rfl, rfl⟩ | ⟨hne, b, rfl, hF⟩
    · go_wp2
      go_ret
      exact ⟨.fine, .inl ⟨rfl, rfl⟩, Hr.out, Hfin.out⟩
    · have Hne := Lib.hid hne
      clear hne
      go_wp2
      go_ret
      exact ⟨o, .inr ⟨Hne.out, b, rfl, hF⟩, Hr.out, Hfin.out⟩
end Go.Proofs.YtkngjgblfappoaaGreatDoor
