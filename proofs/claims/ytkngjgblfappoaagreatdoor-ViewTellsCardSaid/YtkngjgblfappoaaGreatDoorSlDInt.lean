/-
  slices.Delete of one element out of a row of the call's own.
-/
import Derived.Test.YtkngjgblfappoaaGreatDoorSlAInt
import Derived.Deep.RegionHeld3
import Derived.IntWalk
namespace Go.Proofs.YtkngjgblfappoaaGreatDoor
open Go.RowKit (Below intOf Hid)

set_option maxRecDepth 100000 in
set_option maxHeartbeats 800000 in
theorem deleteInt (B : Nat) (A : Option Addr) (n c i T : Nat) (xs : List Value) (w : World) (hown : w.ownsRow B 2 1 (.slice A n c) n xs) (hx : Cells1 xs) (hn : n ≤ 10000) (hi : i < n) (hT : T + 1 = n) :
    Calls Tryz.prog 251 #[.slice A n c, .int .i64 i, .int .i64 ((i : Int) + 1)] w fun e w' => ∃ A' c', e = .returned (.slice A' T c') ∧
      w'.ownsRow B 2 1 (.slice A' T c') T (xs.take (i) ++ xs.drop ((i + 1))) ∧ Keeps (obs (.slice A n c)) w w' := by
  obtain ⟨i0, hi0, hz0, hz1, hz2⟩ := info_parts infoInt
  obtain ⟨g, cap, cur, hvv, hg, hb, hnc, hmax, hcl, htk⟩ := own_blk hown (by omega)
  injection hvv with hA _ hcap
  subst hA
  subst hcap
  have hr : Rd w 2 1 (some ⟨g, 0, none⟩) n xs := own_rd hown hx
  have ht : Rd w 2 1 (some ⟨g, 0, none⟩) i (xs.take (i)) := by simpa using hr.take (Nat.le_of_lt hi)
  have hd : Rd w 2 1 (some ⟨g, (i + 1), none⟩) (n - (i + 1)) (xs.drop ((i + 1))) := by simpa [add_lit] using hr.dropAdd (show i + 1 ≤ n by omega)
  have hcl' : (c : Int) ≤ 9223372036854775807 := by simp only [maxLen] at hmax; omega
  have a1 : (0 : Int) ≤ i := by omega
  have a2 : (i : Int) ≤ c := by omega
  have a3 : (i : Int) ≤ n := by omega
  have a4 : (0 : Int) ≤ (i : Int) + 1 := by omega
  have a5 : (i : Int) + 1 ≤ n := by omega
  have a6 : (i : Int) + 1 ≤ c := by omega
  have a7 : ((i : Int) + 1).toNat = i + 1 := by omega
  have a8 : (i : Int) ≤ (i : Int) + 1 := by omega
  have a9 : (n : Int) ≤ c := by omega
  have b1 : (T : Int) ≤ n := by omega
  have b2 : ¬ c = T := by omega
  have b3 : (0 : Int) ≤ T := by omega
  have b4 : (T : Int) ≤ c := by omega
  have HT := Lib.hid hT
  rcases (show c = i + 1 ∨ i + 1 < c by omega) with hc | hc
  · obtain rfl : n = c := by omega
    obtain rfl : T = i := by omega
    rw [show ((T : Int) + 1) = (n : Int) from by omega]
    clear hc hT a4 a5 a6 a7 a8
    go_enter Tryz.func251, Tryz.ntmps251
    go_wp2_with fail
    go_region_held3 (fun _ => True) (trivial)
      ((refine step_append_room_rd _ rfl (.tmp 22) (.tmp 25) _ rfl 2 i0 1 Tryz.underlying74 hi0 hz1 g T n rfl cur hb.drew ⟨g, 0, none⟩ 0 0 rfl (xs.drop ((T + 1))) (by rw [List.drop_eq_nil_of_le (by rw [hr.1]; have := HT.out; omega)]; exact Rd.nil _ _ _ _) (by omega) (by rw [hcl]; omega) T (by have := HT.out; omega) ?_; intro w1 hg1 hk1))
    have hk1' : Keeps [g] w w1 := hk1.of_drew
    have hl1 : (splice cur (T * 1) (xs.drop ((T + 1)))).length = n * 1 := by rw [length_splice _ _ _ (by rw [hd.1, hcl]; omega)]; exact hcl
    go_wp2_with (refine wpList_clear_blk _ rfl (.tmp 31) _ rfl 2 (.int .i64 0) 1 Tryz.underlying74 zeroInt rfl (by simp [Value.cells, Value.oneCell']) (by omega) (some ⟨g, T, none⟩) (n - T) (n - T) rfl g (T) _ 2 hg1 (fun _ => rfl) (by rw [hl1]; omega) ?_; intro w2 zs hz hg2 hk2)
    go_ret
    have ht2 := HT.out
    refine ⟨some ⟨g, 0, none⟩, n, rfl, own_of_blk hg hg2 (by omega) hmax ?_ ?_, by rw [obs_some]; exact hk1'.trans hk2 (fun b hb' => .inl hb')⟩
    · rw [length_splice _ _ _ (by rw [hl1, hz]; omega), hl1]
    · rw [splice_take_le _ _ _ _ (by omega) (by rw [hl1]; omega)]
      refine splice_take_end cur (xs.take (T)) _ _ _ (by rw [ht.1]) (by rw [ht.1, hd.1]; omega) ?_
      rw [← htk, List.take_take]
      congr 1
      omega
  · have hcn : ¬ c = i + 1 := by omega
    clear hT
    go_enter Tryz.func251, Tryz.ntmps251
    go_wp2_with fail
    go_region_held3 (fun _ => True) (trivial)
      ((refine step_append_room_rd _ rfl (.tmp 22) (.tmp 25) _ rfl 2 i0 1 Tryz.underlying74 hi0 hz1 g i c rfl cur hb.drew ⟨g, (i + 1), none⟩ (n - (i + 1)) (c - (i + 1)) rfl (xs.drop ((i + 1))) hd.drew (by omega) (by rw [hcl]; omega) T (by have := HT.out; omega) ?_; intro w1 hg1 hk1))
    have hk1' : Keeps [g] w w1 := hk1.of_drew
    have hl1 : (splice cur (i * 1) (xs.drop ((i + 1)))).length = c * 1 := by rw [length_splice _ _ _ (by rw [hd.1, hcl]; omega)]; exact hcl
    go_wp2_with (refine wpList_clear_blk _ rfl (.tmp 31) _ rfl 2 (.int .i64 0) 1 Tryz.underlying74 zeroInt rfl (by simp [Value.cells, Value.oneCell']) (by omega) (some ⟨g, T, none⟩) (n - T) (c - T) rfl g (T) _ 2 hg1 (fun _ => rfl) (by rw [hl1]; omega) ?_; intro w2 zs hz hg2 hk2)
    go_ret
    have ht2 := HT.out
    refine ⟨some ⟨g, 0, none⟩, c, rfl, own_of_blk hg hg2 (by omega) hmax ?_ ?_, by rw [obs_some]; exact hk1'.trans hk2 (fun b hb' => .inl hb')⟩
    · rw [length_splice _ _ _ (by rw [hl1, hz]; omega), hl1]
    · rw [splice_take_le _ _ _ _ (by omega) (by rw [hl1]; omega)]
      refine splice_take_end cur (xs.take (i)) _ _ _ (by rw [ht.1]) (by rw [ht.1, hd.1]; omega) ?_
      rw [← htk, List.take_take]
      congr 1
      omega
end Go.Proofs.YtkngjgblfappoaaGreatDoor
