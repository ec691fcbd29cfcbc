/-
  slices.Clone at one element type: what they answer, and what they leave of memory.
-/
import Derived.Test.YtkngjgblfappoaaGreatDoorRc
import Derived.Test.YtkngjgblfappoaaGreatDoorPlain
import Derived.Test.YtkngjgblfappoaaGreatDoorProg
namespace Go.Proofs.YtkngjgblfappoaaGreatDoor
open Go.RowKit (Below intOf Hid)

theorem infoOb : (Tryz.prog.info? 159).map (fun i => (i.zero, i.size, i.bytes)) = some (some (.agg #[.nilFunc, .int .i64 0]), 2, 16) := by kernel_rfl
theorem zeroOb (w : World) : (zeroValue 159).run Tryz.prog w = .ok (.agg #[.nilFunc, .int .i64 0]) w := by kernel_rfl

set_option maxHeartbeats 400000 in
theorem cloneOb (A : Option Addr) (n c : Nat) (xs : List Value) (w : World) (hr : Rc w 2 A n xs) (hn : n ≤ 100000) :
    Calls Tryz.prog 71 #[.slice A n c] w fun e w' => ∃ A' c', e = .returned (.slice A' n c') ∧ w'.ownsRow w.heap.size 159 2 (.slice A' n c') n xs ∧ Keeps [] w w' := by
  obtain ⟨i0, hi0, hz0, hz1, hz2⟩ := info_parts infoOb
  have q1 : ∀ (w : World) (a : Option Addr) (n c n' c' : Nat), (binOp .eql 153 (.slice a n c) (.slice none n' c')).run Tryz.prog w = .ok (.bool a.isNone) w :=
    fun w a n c n' c' => Lib.run_eql_slice_nil w _ _ a n c n' c' Tryz.underlying153
  rcases A with _ | ad
  · have h0 : n = 0 := by
      rcases Nat.eq_zero_or_pos n with h | h
      · exact h
      · obtain ⟨_, _, e, _⟩ := hr.2.2 h; cases e
    subst h0
    have hx : xs = [] := List.eq_nil_of_length_eq_zero (by simpa using hr.1)
    subst hx
    go_enter Tryz.func71, Tryz.ntmps71
    go_wp2
    go_ret
    exact ⟨none, 0, rfl, World.ownsRow_nil _ _ _ _, Keeps.refl _ _⟩
  · go_enter Tryz.func71, Tryz.ntmps71
    go_wp2_with (at_builtin; refine wpList_append_rc _ rfl (.tmp 5) (.tmp 6) _ rfl w.heap.size 159 i0 _ 2 16 Tryz.underlying153 hi0 hz0 hz1 hz2 rfl (by omega) (.slice (some ⟨w.heap.size, 0, none⟩) 0 0) 0 [] rfl (own_new (m := 0) (Nat.le_refl _) (by decide) (by simp)) (some ad) n c xs rfl (hr.alloc _) (by unfold maxLen; omega) (by omega) (by simp) ?_; intro v1 w1 hown hg _)
    go_ret
    simp only [Nat.zero_add, List.nil_append] at hown
    obtain ⟨A', c', rfl, _, _⟩ := own_form hown
    refine ⟨A', c', rfl, hown, ((Keeps.refl [] w).alloc _).grown hg (fun b hb => .inr ?_)⟩
    have e : w.heap.size = b := by simpa [Value.ownBlock] using hb
    omega

end Go.Proofs.YtkngjgblfappoaaGreatDoor
