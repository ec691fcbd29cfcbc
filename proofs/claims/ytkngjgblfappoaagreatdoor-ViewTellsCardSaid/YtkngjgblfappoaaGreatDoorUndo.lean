/-
  undo: the log: New, Add.
-/
import Derived.Test.YtkngjgblfappoaaGreatDoorMem4
import Derived.Test.YtkngjgblfappoaaGreatDoorProg
namespace Go.Proofs.YtkngjgblfappoaaGreatDoor
open Go.RowKit (Below intOf Hid)
variable {β : Nat}

theorem infoFn : (Tryz.prog.info? 1).map (fun i => (i.zero, i.size, i.bytes)) = some (some .nilFunc, 1, 8) := by kernel_rfl

/-- A log in memory: what undoes what was done. -/
def LogAt (β : Nat) (w : World) (lg : Nat) (vs : List Value) : Prop := β ≤ lg ∧ ∃ A c, Blk w lg 121 #[.slice A vs.length c] ∧ w.ownsRow β 1 1 (.slice A vs.length c) vs.length vs
theorem LogAt.chg {S : List TypeId} {B : List Nat} {w w' : World} {lg : Nat} {vs : List Value} (h : LogAt β w lg vs) (k : Chg β S B w w') (h1 : 121 ∉ S) (h2 : 1 ∉ S) : LogAt β w' lg vs := by
  obtain ⟨h0, A, c, hb, ho⟩ := h
  exact ⟨h0, A, c, k.blk hb h1, k.own ho h2⟩

theorem logNew (w : World) (hβ : β ≤ w.heap.size) : Calls Tryz.prog 11 #[] w fun e w' => ∃ lg, e = .returned (ptr lg) ∧ LogAt β w' lg [] ∧ Keeps [] w w' ∧ w.heap.size ≤ lg := by
  go_enter Tryz.func11, Tryz.ntmps11
  go_wp2
  go_ret
  exact ⟨_, rfl, ⟨hβ, none, 0, Blk.new _ _ _, World.ownsRow_nil _ _ _ _⟩, (Keeps.refl _ _).alloc _, Nat.le_refl _⟩

set_option maxRecDepth 100000 in
set_option maxHeartbeats 800000 in
theorem logAdd (lg : Nat) (vs : List Value) (fn : Fn) (fi ca : Array Value) (w : World) (h : LogAt β w lg vs) (hN : vs.length ≤ 1000000) :
    Calls Tryz.prog 61 #[ptr lg, .func fn fi ca] w fun e w' => e = .returned (.tuple #[]) ∧ LogAt β w' lg (vs ++ [.func fn fi ca]) ∧ Chg β [121, 1] [] w w' := by
  obtain ⟨i0, hi0, hz0, hz1, hz2⟩ := info_parts infoFn
  obtain ⟨h0, A, c, hb, ho⟩ := h
  have hbs := hb.lt
  generalize hn : vs.length = n at *
  have c0 : w.cell? ⟨lg, 0, none⟩ = some (.slice A n c) := hb.cell 0
  have f0 : w.frozen? ⟨lg, 0, none⟩ = false := hb.free 0
  have Hn := Lib.hid hn
  clear hn
  go_enter Tryz.func61, Tryz.ntmps61
  go_wp2_with (at_builtin; refine wpList_append_rd _ rfl (.tmp 8) (.tmp 10) _ rfl β 1 i0 _ 1 8 Tryz.underlying119 hi0 hz0 hz1 hz2 rfl (by omega) (.slice A n c) n vs rfl (ho.alloc _) (some ⟨w.heap.size, 0, none⟩) 1 1 [.func fn fi ca] rfl (own_rd (own_new (base := 0) (k := 1) (Nat.zero_le _) (by decide) (by simp)) (fun u hu => by rw [List.mem_singleton.1 hu]; rfl)) (by unfold maxLen; omega) (by omega) (by simp; omega) ?_; intro v1 w1 hown hg _; have k1 : Keeps (obs (.slice A n c)) w w1 := ((Keeps.refl _ w).alloc _).trans (keeps_grown hg) (fun b hb => .inl hb); have hbn : lg ∉ obs (.slice A n c) := (fun hm => own_noTag ho (S := [121]) (by decide) hm _ _ _ hb (by simp)); have hb1 := k1.blk hb hbn; have c1 : w1.cell? ⟨lg, 0, none⟩ = some (.slice A n c) := hb1.cell 0; have f1 : w1.frozen? ⟨lg, 0, none⟩ = false := hb1.free 0; obtain ⟨A', c', rfl, _, _⟩ := own_form hown)
  go_end0
  have hl : (vs ++ [Value.func fn fi ca]).length = n + 1 := by rw [List.length_append, Hn.out]; rfl
  have k2 : Keeps [lg] w1 (w1.setCell ⟨lg, 0, none⟩ (.slice A' (n + 1) c')) := (Keeps.refl _ _).setCell (.inl (by simp)) _
  refine ⟨rfl, ⟨h0, A', c', ?_, ?_⟩, ?_⟩
  · rw [hl]; exact hb1.set 0 _
  · rw [hl]; exact own_far hown hb1 (by decide) k2
  · exact (chg_row ho k1 (by simp)).trans (chg_cells hb1 k2 (by simp) h0)
end Go.Proofs.YtkngjgblfappoaaGreatDoor
