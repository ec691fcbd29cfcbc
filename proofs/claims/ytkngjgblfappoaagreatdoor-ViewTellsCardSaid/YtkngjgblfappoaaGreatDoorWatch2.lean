/-
  view: watches: Remove.
-/
import Derived.Test.YtkngjgblfappoaaGreatDoorWatch
namespace Go.Proofs.YtkngjgblfappoaaGreatDoor
open Go.RowKit (Below intOf Hid)
variable {β : Nat}

/-- What Remove makes of the observers. -/
def Removed (l : List Obv) (v : Int) (ok : Bool) (l' : List Obv) : Prop :=
  (ok = false ∧ l' = l ∧ ∀ o, o ∈ l → (o.2 : Int) ≠ v) ∨ (ok = true ∧ ∃ (k : Nat) (o : Obv), l[k]? = some o ∧ (o.2 : Int) = v ∧ l' = l.eraseIdx k)

set_option maxRecDepth 100000 in
set_option maxHeartbeats 1600000 in
theorem watchRemove (b : Nat) (l : List Obv) (last : Nat) (v : Int) (w : World) (h : WatchAt β w b l last) (hβ : β ≤ w.heap.size) (hN : l.length ≤ 1000) :
    Calls Tryz.prog 29 #[ptr b, .int .i64 v] w fun e w' => ∃ ok l', e = .returned (.bool ok) ∧ Removed l v ok l' ∧ WatchAt β w' b l' last ∧ Chg β [155] [] w w' := by
  have hmf : ∀ (fn : Fn) (first cap : Array Value) (w : World), (Instr.makeFunc fn first cap).run Tryz.prog w = .ok (.func fn first cap) w := fun _ _ _ _ => rfl
  obtain ⟨h0, hf, A, n, c, hl, hb, ho⟩ := h
  have hbs := hb.lt
  have hn : n ≤ 1000 := by rw [← hl.out]; exact hN
  clear hN
  have c0 : w.cell? ⟨b, 0, none⟩ = some (.slice A n c) := hb.cell 0
  have hrd := own_rd ho (obCells_one hf)
  have hix := indexFuncOb A n c l v w hrd hl.out (by omega)
  go_enter Tryz.func29, Tryz.ntmps29
  go_wp2_with fail
  refine hix.mono ?_
  rintro e w1 ⟨r, rfl, hidx, k1⟩
  clear hix
  have hb1 := k1.blk hb (by simp)
  have hbs1 := hb1.lt
  have hrd1 := hrd.keep k1 (by simp)
  have ho1 := own_keep ho k1 (by simp)
  have d0 : w1.cell? ⟨b, 0, none⟩ = some (.slice A n c) := hb1.cell 0
  have hs1 := k1.size
  rcases hidx with ⟨rfl, hno⟩ | ⟨k, o, rfl, hk, hv⟩
  · have Hno := Lib.hid hno
    clear hno
    go_wp2
    go_ret
    exact ⟨false, l, rfl, .inl ⟨rfl, rfl, Hno.out⟩, ⟨h0, hf, A, n, c, hl, hb1, ho1⟩, Chg.of_keeps k1⟩
  · have hkn : k < n := by rw [← hl.out]; exact (List.getElem?_eq_some_iff.1 hk).1
    have Hk := Lib.hid hk
    have Hv := Lib.hid hv
    clear hk hv
    have q0 : decide ((k : Int) < 0) = false := by simp
    have q1 : (0 : Int) ≤ k := by omega
    have s1 : IntKind.i64.wrap ((k : Int) + 1) = (k : Int) + 1 := IntWalk.i64_in _ (by omega)
    obtain ⟨T, hT⟩ : ∃ T, T + 1 = n := ⟨n - 1, by omega⟩
    have HT := Lib.hid hT
    clear hT
    go_wp2_with (first
      | (go_at_call 71
         refine (cloneOb A n c (obCells l) _ hrd1.rc (by omega)).mono ?_
         rintro e w2 ⟨A2, c2, rfl, ho2, hk2⟩
         have hb2 := hk2.blk hb1 (by simp)
         have hs2 := hk2.size)
      | (go_at_call 74
         refine (deleteOb w1.heap.size A2 n c2 k T (obCells l) _ ho2 (obCells_one hf) (by omega) hkn HT.out).mono ?_
         rintro e w3 ⟨A3, c3, rfl, ho3, hk3⟩
         have hne : b ∉ obs (.slice A2 n c2) := fun hm => by have := own_base ho2 hm; omega
         have hb3 := hk3.blk hb2 hne
         have x0 : w3.cell? ⟨b, 0, none⟩ = some (.slice A n c) := hb3.cell 0
         have y0 : w3.frozen? ⟨b, 0, none⟩ = false := hb3.free 0))
    go_ret
    have K3 : Keeps [] w w3 := (k1.trans_nil hk2).trans hk3 (fun b hb => .inr (by have := own_base ho2 hb; omega))
    have k4 : Keeps [b] w3 (w3.setCell ⟨b, 0, none⟩ (.slice A3 T c3)) := (Keeps.refl _ _).setCell (.inl (by simp)) _
    have hlk : k < l.length := by rw [hl.out]; exact hkn
    rw [obCells_era hlk] at ho3
    refine ⟨true, l.eraseIdx k, rfl, .inr ⟨rfl, k, o, Hk.out, Hv.out, rfl⟩, ⟨h0, fun o ho => hf o (List.mem_of_mem_eraseIdx ho), A3, T, c3, ?_, hb3.set 0 _, own_far (own_mono ho3 (by omega)) hb3 (by decide) k4⟩, (Chg.of_keeps K3).trans (chg_cells hb3 k4 (by simp) h0)⟩
    unfold Hid
    rw [List.length_eraseIdx, if_pos hlk, hl.out]
    have := HT.out
    omega
end Go.Proofs.YtkngjgblfappoaaGreatDoor
