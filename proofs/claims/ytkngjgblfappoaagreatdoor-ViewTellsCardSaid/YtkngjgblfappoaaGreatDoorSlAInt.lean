/-
  slices.Clone and cut at one element type: what they answer, and what they leave of memory.
-/
import Derived.Test.YtkngjgblfappoaaGreatDoorMem2
import Derived.Test.YtkngjgblfappoaaGreatDoorPlain
import Derived.Test.YtkngjgblfappoaaGreatDoorProg
namespace Go.Proofs.YtkngjgblfappoaaGreatDoor
open Go.RowKit (Below intOf Hid)

theorem infoInt : (Tryz.prog.info? 2).map (fun i => (i.zero, i.size, i.bytes)) = some (some (.int .i64 0), 1, 8) := by kernel_rfl
theorem zeroInt (w : World) : (zeroValue 2).run Tryz.prog w = .ok (.int .i64 0) w := by kernel_rfl

set_option maxHeartbeats 400000 in
theorem cloneInt (A : Option Addr) (n c : Nat) (xs : List Value) (w : World) (hr : Rd w 2 1 A n xs) (hn : n ≤ 100000) :
    Calls Tryz.prog 142 #[.slice A n c] w fun e w' => ∃ A' c', e = .returned (.slice A' n c') ∧ w'.ownsRow w.heap.size 2 1 (.slice A' n c') n xs ∧ Keeps [] w w' := by
  obtain ⟨i0, hi0, hz0, hz1, hz2⟩ := info_parts infoInt
  have q1 : ∀ (w : World) (a : Option Addr) (n c n' c' : Nat), (binOp .eql 74 (.slice a n c) (.slice none n' c')).run Tryz.prog w = .ok (.bool a.isNone) w :=
    fun w a n c n' c' => Lib.run_eql_slice_nil w _ _ a n c n' c' Tryz.underlying74
  rcases A with _ | ad
  · have h0 : n = 0 := by
      rcases Nat.eq_zero_or_pos n with h | h
      · exact h
      · obtain ⟨_, _, _, e, _⟩ := hr.2.2 h; cases e
    subst h0
    have hx : xs = [] := List.eq_nil_of_length_eq_zero (by simpa using hr.1)
    subst hx
    go_enter Tryz.func142, Tryz.ntmps142
    go_wp2
    go_ret
    exact ⟨none, 0, rfl, World.ownsRow_nil _ _ _ _, Keeps.refl _ _⟩
  · go_enter Tryz.func142, Tryz.ntmps142
    go_wp2_with (at_builtin; refine wpList_append_rd _ rfl (.tmp 5) (.tmp 6) _ rfl w.heap.size 2 i0 _ 1 8 Tryz.underlying74 hi0 hz0 hz1 hz2 rfl (by omega) (.slice (some ⟨w.heap.size, 0, none⟩) 0 0) 0 [] rfl (own_new (m := 0) (Nat.le_refl _) (by decide) (by simp)) (some ad) n c xs rfl (hr.alloc _) (by unfold maxLen; omega) (by omega) (by simp) ?_; intro v1 w1 hown hg _)
    go_ret
    simp only [Nat.zero_add, List.nil_append] at hown
    obtain ⟨A', c', rfl, _, _⟩ := own_form hown
    refine ⟨A', c', rfl, hown, ((Keeps.refl [] w).alloc _).grown hg (fun b hb => .inr ?_)⟩
    have e : w.heap.size = b := by simpa [Value.ownBlock] using hb
    omega

set_option maxRecDepth 100000 in
set_option maxHeartbeats 400000 in
theorem growInt (m : Nat) (w : World) (hm : m ≤ 100000) :
    Calls Tryz.prog 292 #[.slice none 0 0, .int .i64 m] w fun e w' => ∃ A' c', e = .returned (.slice A' 0 c') ∧ w'.ownsRow w.heap.size 2 1 (.slice A' 0 c') 0 [] ∧ Keeps [] w w' := by
  obtain ⟨i0, hi0, hz0, hz1, hz2⟩ := info_parts infoInt
  rcases Nat.eq_zero_or_pos m with h0 | h0
  · subst h0
    go_enter Tryz.func292, Tryz.ntmps292
    go_wp2
    go_ret
    exact ⟨none, 0, rfl, World.ownsRow_nil _ _ _ _, Keeps.refl _ _⟩
  · have hm1 : (0 : Int) < m := by omega
    go_enter Tryz.func292, Tryz.ntmps292
    go_wp2_with (at_builtin; refine wpList_append_zeros _ rfl (.tmp 20) (.tmp 21) _ 3 rfl 2 i0 _ 1 8 .i64 Tryz.underlying74 Tryz.underlying3 hi0 hz0 hz1 hz2 rfl (by omega) none 0 0 m .i64 [] rfl rfl 2 (Rd.nil _ _ _ _) (by omega) (by omega) (by unfold maxLen; omega) (by omega) m (Nat.zero_add m) ?_; intro g cap cur w1 hgs hg hcap hmax hcl _ hk)
    go_ret
    exact ⟨some ⟨g, 0, none⟩, cap, rfl, own_of_blk hgs hg (Nat.zero_le _) hmax hcl (by simp), hk⟩

set_option maxRecDepth 100000 in
set_option maxHeartbeats 800000 in
theorem concatInt (g c : Nat) (A1 A2 : Option Addr) (n1 c1 n2 c2 : Nat) (xs ys : List Value) (w : World) (hg : Blk w g 74 #[.slice A1 n1 c1, .slice A2 n2 c2])
    (h1 : Rd w 2 1 A1 n1 xs) (h2 : Rd w 2 1 A2 n2 ys) (b1 : n1 ≤ 10000) (b2 : n2 ≤ 10000) :
    Calls Tryz.prog 282 #[.slice (some ⟨g, 0, none⟩) 2 c] w fun e w' => ∃ A' c', e = .returned (.slice A' (n1 + n2) c') ∧ w'.ownsRow w.heap.size 2 1 (.slice A' (n1 + n2) c') (n1 + n2) (xs ++ ys) ∧ Keeps [] w w' := by
  obtain ⟨i0, hi0, hz0, hz1, hz2⟩ := info_parts infoInt
  have e0 : w.cell? ⟨g, 0, none⟩ = some (.slice A1 n1 c1) := hg.cell 0
  have e1 : w.cell? ⟨g, 1, none⟩ = some (.slice A2 n2 c2) := hg.cell 1
  go_enter Tryz.func282, Tryz.ntmps282
  go_wp2
  refine wp_loop_rounds 3 ?_
  rw [rounds_succ]
  go_wp2
  rw [rounds_succ]
  go_wp2
  rw [rounds_succ]
  go_wp2_with (go_at_call 292; refine (growInt (n1 + n2) _ (by omega)).mono ?_; rintro e w1 ⟨A0, c0, rfl, hown0, hk0⟩)
  have e0' : w1.cell? ⟨g, 0, none⟩ = some (.slice A1 n1 c1) := (hk0.blk hg (by simp)).cell 0
  refine wp_loop_rounds 3 ?_
  rw [rounds_succ]
  go_wp2_with (at_builtin; refine wpList_append_rd _ rfl (.tmp 31) (.tmp 32) _ rfl w.heap.size 2 i0 _ 1 8 Tryz.underlying74 hi0 hz0 hz1 hz2 rfl (by omega) (.slice A0 0 c0) 0 [] rfl hown0 A1 n1 c1 xs rfl (h1.keep hk0 (by simp)) (by unfold maxLen; omega) (by omega) hk0.size ?_; intro v2 w2 hown2 hg2 _)
  have hk2 : Keeps [] w w2 := hk0.grown hg2 (fun b hb => .inr (hown0.lt b hb).1)
  have e1' : w2.cell? ⟨g, 1, none⟩ = some (.slice A2 n2 c2) := (hk2.blk hg (by simp)).cell 1
  obtain ⟨A3, c3, rfl, _, _⟩ := own_form hown2
  rw [rounds_succ]
  go_wp2_with (at_builtin; refine wpList_append_rd _ rfl (.tmp 31) (.tmp 32) _ rfl w.heap.size 2 i0 _ 1 8 Tryz.underlying74 hi0 hz0 hz1 hz2 rfl (by omega) (.slice A3 (0 + n1) c3) (0 + n1) ([] ++ xs) rfl hown2 A2 n2 c2 ys rfl (h2.keep hk2 (by simp)) (by unfold maxLen; omega) (by omega) hk2.size ?_; intro v4 w4 hown4 hg4 _)
  have hk4 : Keeps [] w w4 := hk2.grown hg4 (fun b hb => .inr (hown2.lt b hb).1)
  rw [rounds_succ]
  go_wp2
  go_ret
  simp only [Nat.zero_add, List.nil_append] at hown4
  obtain ⟨A5, c5, rfl, _, _⟩ := own_form hown4
  exact ⟨A5, c5, rfl, hown4, hk4⟩

theorem sizeOfInt (w : World) : (sizeOf 2).run Tryz.prog w = .ok 1 w := by kernel_rfl
theorem overlapsInt (ga gb oa ob la ca lb cb : Nat) (w : World) (Ta Tb : TypeId) (ka kb : Array Value) (ha : Blk w ga Ta ka) (hb : Blk w gb Tb kb) (hne : ga ≠ gb) (h0 : kb.size ≠ 0) :
    (callFunc 201 #[.slice (some ⟨ga, oa, none⟩) la ca, .slice (some ⟨gb, ob, none⟩) lb cb]).run Tryz.prog w = .ok (.value (.bool false)) w := by
  have hsa : w.shape? ga = some (Ta, ka.size) := by unfold Blk at ha; simp [World.shape?, ha]
  have hsb : w.shape? gb = some (Tb, kb.size) := by unfold Blk at hb; simp [World.shape?, hb]
  rw [run_callFunc_extern Tryz.func201 (by kernel_rfl) (by kernel_rfl) (by kernel_rfl) (e := Extern.SlicesOverlaps.overlaps #[74, 74] #[4]) (by kernel_rfl),
    Lib.run_overlaps_apart w 74 4 2 Tryz.underlying74 1 sizeOfInt ⟨ga, oa, none⟩ ⟨gb, ob, none⟩ la ca lb cb hne Ta Tb ka.size kb.size hsa hsb h0 (ha.free _) (ha.free _)]
  rfl
end Go.Proofs.YtkngjgblfappoaaGreatDoor
