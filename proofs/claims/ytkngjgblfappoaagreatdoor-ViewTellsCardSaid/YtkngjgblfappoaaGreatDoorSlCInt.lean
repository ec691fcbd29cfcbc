/-
  slices.Insert of one element into a row of the call's own.
-/
import Derived.Test.YtkngjgblfappoaaGreatDoorSlAInt
import Derived.Deep.RegionHeld3
import Derived.IntWalk
namespace Go.Proofs.YtkngjgblfappoaaGreatDoor
open Go.RowKit (Below intOf Hid)

set_option maxRecDepth 100000 in
set_option maxHeartbeats 400000 in
theorem insert_endInt (B : Nat) (A : Option Addr) (n c : Nat) (xs : List Value) (gv cv : Nat) (ys : List Value) (w : World) (hown : w.ownsRow B 2 1 (.slice A n c) n xs) (hB : B ≤ w.heap.size)
    (hv : Rd w 2 1 (some ⟨gv, 0, none⟩) 1 ys) (hn : n ≤ 10000) :
    Calls Tryz.prog 156 #[.slice A n c, .int .i64 n, .slice (some ⟨gv, 0, none⟩) 1 cv] w fun e w' => ∃ A' c', e = .returned (.slice A' (n + 1) c') ∧ w'.ownsRow B 2 1 (.slice A' (n + 1) c') (n + 1) (xs ++ ys) ∧ Keeps (obs (.slice A n c)) w w' := by
  obtain ⟨i0, hi0, hz0, hz1, hz2⟩ := info_parts infoInt
  have hc := (own_len hown).2
  have hci : (n : Int) ≤ c := by omega
  rcases Nat.lt_or_ge n c with hlt | hge
  · have hne : ¬ c = n := by omega
    go_enter Tryz.func156, Tryz.ntmps156
    go_wp2_with (at_builtin; refine wpList_append_rd _ rfl (.tmp 23) (.tmp 24) _ rfl B 2 i0 _ 1 8 Tryz.underlying74 hi0 hz0 hz1 hz2 rfl (by omega) (.slice A n c) n xs rfl hown (some ⟨gv, 0, none⟩) 1 cv ys rfl hv (by unfold maxLen; omega) (by omega) hB ?_; intro v1 w1 hown1 hg1 _)
    go_ret
    obtain ⟨A', c', rfl, _, _⟩ := own_form hown1
    exact ⟨A', c', rfl, hown1, keeps_grown hg1⟩
  · obtain rfl : c = n := by omega
    go_enter Tryz.func156, Tryz.ntmps156
    go_wp2_with (at_builtin; refine wpList_append_rd _ rfl (.tmp 23) (.tmp 24) _ rfl B 2 i0 _ 1 8 Tryz.underlying74 hi0 hz0 hz1 hz2 rfl (by omega) (.slice A c c) c xs rfl hown (some ⟨gv, 0, none⟩) 1 cv ys rfl hv (by unfold maxLen; omega) (by omega) hB ?_; intro v1 w1 hown1 hg1 _)
    go_ret
    obtain ⟨A', c', rfl, _, _⟩ := own_form hown1
    exact ⟨A', c', rfl, hown1, keeps_grown hg1⟩

set_option maxRecDepth 100000 in
set_option maxHeartbeats 800000 in
theorem insert_growInt (B : Nat) (A : Option Addr) (n c i : Nat) (xs : List Value) (gv cv : Nat) (ys : List Value) (w : World) (hown : w.ownsRow B 2 1 (.slice A n c) n xs) (_hB : B ≤ w.heap.size) (hx : Cells1 xs)
    (hv : Rd w 2 1 (some ⟨gv, 0, none⟩) 1 ys) (hn : n ≤ 10000) (hi : i < n) (hfull : c < n + 1) :
    Calls Tryz.prog 156 #[.slice A n c, .int .i64 i, .slice (some ⟨gv, 0, none⟩) 1 cv] w fun e w' => ∃ A' c', e = .returned (.slice A' (n + 1) c') ∧
      w'.ownsRow B 2 1 (.slice A' (n + 1) c') (n + 1) (xs.take (i) ++ ys ++ xs.drop (i)) ∧ Keeps (obs (.slice A n c)) w w' := by
  obtain ⟨i0, hi0, hz0, hz1, hz2⟩ := info_parts infoInt
  have hc := (own_len hown).2
  obtain ⟨g, cap, cur, hvv, hg, hb, _, _, hcl, htk⟩ := own_blk hown (by omega)
  injection hvv with hA _ hcap
  subst hA
  subst hcap
  obtain rfl : c = n := by omega
  have hr : Rd w 2 1 (some ⟨g, 0, none⟩) c xs := own_rd hown hx
  have ht : Rd w 2 1 (some ⟨g, 0, none⟩) i (xs.take (i)) := by simpa using hr.take (Nat.le_of_lt hi)
  have hd : Rd w 2 1 (some ⟨g, i, none⟩) (c - i) (xs.drop (i)) := by simpa [add_lit] using hr.dropAdd (Nat.le_of_lt hi)
  have hne : ¬ c = i := by omega
  have hi0' : (0 : Int) ≤ i := by omega
  have hic : (i : Int) < c := by omega
  have hic' : (i : Int) ≤ c := by omega
  go_enter Tryz.func156, Tryz.ntmps156
  have hgv : gv < w.heap.size := by obtain ⟨_, _, e, h, _⟩ := hv.addr (by omega); injection e with e; injection e with e; omega
  have hgl := hb.lt
  have hb4 : (i : Int) ≤ c + 1 := by omega
  go_wp2_with (first
    | (at_builtin
       refine wpList_append_zeros _ rfl (.tmp 34) (.tmp 39) _ 3 rfl 2 i0 _ 1 8 .i64 Tryz.underlying74 Tryz.underlying3 hi0 hz0 hz1 hz2 rfl (by omega) (some ⟨g, 0, none⟩) i c (c + 1 - i) .i64 (xs.take (i)) rfl (congrArg (Value.int .i64) (show ((c : Int) + 1 - i) = ((c + 1 - i : Nat) : Int) by omega)) 2 ht (by omega) (by omega) (by unfold maxLen; omega) (by omega) (c + 1) (by omega) ?_
       intro g2 cap2 cur2 w1 hgs2 hg2 hcap2 hmax2 hcl2 htk2 hk2
       have hne2 : ¬ cap2 = i := by omega
       have hne3 : ¬ cap2 = i + 1 := by omega
       have hb2 : (i : Int) ≤ cap2 := by omega
       have hb3 : (i : Int) + 1 ≤ cap2 := by omega)
    | (refine wpList_copy_rd _ rfl (.tmp 43) (.tmp 44) _ _ rfl 2 i0 1 Tryz.underlying74 hi0 hz1 (some ⟨g2, i, none⟩) (some ⟨gv, 0, none⟩) (c + 1 - i) (cap2 - i) 1 cv rfl rfl 2 1 (Nat.min_eq_left (by omega)) ys (hv.keep hk2 (by simp)) g2 (i) cur2 2 hg2 (fun _ => rfl) (by omega) ?_
       intro w2 hg3 hk3))
  have hl3 : (splice cur2 (i) ys).length = cap2 * 1 := by rw [length_splice _ _ _ (by rw [hv.1]; omega)]; exact hcl2
  have hd3 : Rd w2 2 1 (some ⟨g, i, none⟩) (c - i) (xs.drop (i)) := (hd.keep hk2 (by simp)).far hk3 (fun b _ hb' => by injection hb' with hb'; injection hb' with hb' _; simp; omega)
  have s1 : IntKind.i64.wrap ((i : Int) + 1) = (i : Int) + 1 := IntWalk.i64_in _ (by omega)
  have s2 : (0 : Int) ≤ (i : Int) + 1 := by omega
  have s3 : ((i : Int) + 1).toNat = i + 1 := by omega
  go_region_held3 (fun _ => True) (trivial)
    ((go_loud (refine step_copy_rd _ rfl (.tmp 50) (.tmp 53) _ _ rfl 2 i0 1 Tryz.underlying74 hi0 hz1 (some ⟨g2, (i + 1), none⟩) (some ⟨g, i, none⟩) (c - i) (cap2 - (i + 1)) (c - i) (c - i) rfl rfl 2 (c - i) (Nat.min_self _) (xs.drop (i)) hd3.drew g2 ((i + 1)) (splice cur2 (i) ys) 2 hg3.drew (fun _ => rfl) (by rw [hl3]; omega) ?_); intro w3 hg4 hk4))
  go_wp2
  go_ret
  refine ⟨some ⟨g2, 0, none⟩, cap2, rfl, own_of_blk (by omega) hg4 (by omega) hmax2 ?_ ?_, ?_⟩
  · rw [length_splice _ _ _ (by rw [hl3, hd3.1]; omega), hl3]
  · refine splice_ins cur2 (xs.take (i)) ys (xs.drop (i)) _ _ _ ?_ ?_ ?_ (by simpa using htk2)
    · rw [ht.1]; omega
    · rw [ht.1, hv.1]; omega
    · rw [ht.1, hv.1, hd.1]; omega
  · exact (((hk2.trans_nil (Keeps.refl _ _)).mono (by simp)).trans hk3 (fun b hb' => by simp at hb'; omega)).drew.trans hk4 (fun b hb' => by simp at hb'; omega)

set_option maxRecDepth 100000 in
set_option maxHeartbeats 800000 in
theorem insert_roomInt (B : Nat) (A : Option Addr) (n c i : Nat) (xs : List Value) (gv cv : Nat) (ys : List Value) (w : World) (hown : w.ownsRow B 2 1 (.slice A n c) n xs) (hx : Cells1 xs)
    (hv : Rd w 2 1 (some ⟨gv, 0, none⟩) 1 ys) (hgvA : gv ∉ obs (.slice A n c)) (hn : n ≤ 10000) (hi : i < n) (hroom : n + 1 ≤ c) :
    Calls Tryz.prog 156 #[.slice A n c, .int .i64 i, .slice (some ⟨gv, 0, none⟩) 1 cv] w fun e w' => ∃ A' c', e = .returned (.slice A' (n + 1) c') ∧
      w'.ownsRow B 2 1 (.slice A' (n + 1) c') (n + 1) (xs.take (i) ++ ys ++ xs.drop (i)) ∧ Keeps (obs (.slice A n c)) w w' := by
  obtain ⟨i0, hi0, hz0, hz1, hz2⟩ := info_parts infoInt
  obtain ⟨g, cap, cur, hvv, hg, hb, _, hmax, hcl, htk⟩ := own_blk hown (by omega)
  injection hvv with hA _ hcap
  subst hA
  subst hcap
  simp only [obs_some, List.mem_singleton] at hgvA
  have hr : Rd w 2 1 (some ⟨g, 0, none⟩) n xs := own_rd hown hx
  have ht : Rd w 2 1 (some ⟨g, 0, none⟩) i (xs.take (i)) := by simpa using hr.take (Nat.le_of_lt hi)
  have hd : Rd w 2 1 (some ⟨g, i, none⟩) (n - i) (xs.drop (i)) := by simpa [add_lit] using hr.dropAdd (Nat.le_of_lt hi)
  obtain ⟨curv, hbv, _⟩ := hv.blk (by omega)
  have hov := fun lb cb => overlapsInt gv g 0 ((i + 1)) 1 cv lb cb w 2 2 _ _ hbv hb hgvA (by rw [List.size_toArray, hcl]; omega)
  have hne : ¬ c = i := by omega
  have hne1 : ¬ c = i + 1 := by omega
  have hi0' : (0 : Int) ≤ i := by omega
  have hic : (i : Int) < n := by omega
  have hic' : (i : Int) ≤ n := by omega
  have hic2 : (i : Int) + 1 ≤ n + 1 := by omega
  have hic3 : (i : Int) ≤ n + 1 := by omega
  have hnc : (n : Int) + 1 ≤ c := by omega
  have hcl' : (c : Int) ≤ 9223372036854775807 := by simp only [maxLen] at hmax; omega
  go_enter Tryz.func156, Tryz.ntmps156
  go_wp2_with fail
  have s1 : IntKind.i64.wrap ((i : Int) + 1) = (i : Int) + 1 := IntWalk.i64_in _ (by omega)
  have s2 : (0 : Int) ≤ (i : Int) + 1 := by omega
  have s3 : ((i : Int) + 1).toNat = i + 1 := by omega
  have hd' := hd.drew
  have hbd := hb.drew
  go_region_held3 (fun _ => True) (trivial)
    ((refine step_copy_rd _ rfl (.tmp 73) (.tmp 76) _ _ rfl 2 i0 1 Tryz.underlying74 hi0 hz1 (some ⟨g, (i + 1), none⟩) (some ⟨g, i, none⟩) (n - i) (c - (i + 1)) (n + 1 - i) (c - i) rfl rfl 2 (n - i) (Nat.min_eq_right (by omega)) (xs.drop (i)) hd' g ((i + 1)) cur 2 hbd (fun _ => rfl) (by rw [hcl]; omega) ?_; intro w1 hg1 hk1))
  have hk1' : Keeps [g] w w1 := hk1.of_drew
  have hv1 : Rd w1 2 1 (some ⟨gv, 0, none⟩) 1 ys := hv.far hk1' (fun b _ hb' => by injection hb' with hb'; injection hb' with hb' _; subst hb'; simpa using hgvA)
  have hl1 : (splice cur ((i + 1)) (xs.drop (i))).length = c * 1 := by rw [length_splice _ _ _ (by rw [hd.1, hcl]; omega)]; exact hcl
  go_wp2_with (refine wpList_copy_rd _ rfl (.tmp 80) (.tmp 81) _ _ rfl 2 i0 1 Tryz.underlying74 hi0 hz1 (some ⟨g, i, none⟩) (some ⟨gv, 0, none⟩) (n + 1 - i) (c - i) 1 cv rfl rfl 2 1 (Nat.min_eq_left (by omega)) ys hv1 g (i) _ 2 hg1 (fun _ => rfl) (by rw [hl1]; omega) ?_; intro w2 hg2 hk2)
  go_ret
  refine ⟨some ⟨g, 0, none⟩, c, rfl, own_of_blk hg hg2 hroom hmax ?_ ?_, ?_⟩
  · rw [length_splice _ _ _ (by rw [hl1, hv.1]; omega), hl1]
  · refine splice_ins2 cur (xs.take (i)) ys (xs.drop (i)) ((xs.drop (i)).take 1) _ _ _ ?_ ?_ ?_ ?_ ?_
    · rw [ht.1]; omega
    · rw [ht.1, hv.1]; omega
    · rw [ht.1, hv.1, hd.1]; omega
    · rw [← htk, List.take_take, List.drop_take, List.take_take, Nat.min_eq_left (by omega), Nat.min_eq_left (by omega), ← List.take_add]
    · rw [List.length_take, hd.1, hv.1]; omega
  · rw [obs_some]
    exact hk1'.trans hk2 (fun b hb' => .inl hb')

theorem insertInt (B : Nat) (A : Option Addr) (n c i : Nat) (xs : List Value) (gv cv : Nat) (ys : List Value) (w : World) (hown : w.ownsRow B 2 1 (.slice A n c) n xs) (hB : B ≤ w.heap.size) (hx : Cells1 xs)
    (hv : Rd w 2 1 (some ⟨gv, 0, none⟩) 1 ys) (hgvA : gv ∉ obs (.slice A n c)) (hn : n ≤ 10000) (hi : i ≤ n) :
    Calls Tryz.prog 156 #[.slice A n c, .int .i64 i, .slice (some ⟨gv, 0, none⟩) 1 cv] w fun e w' => ∃ A' c', e = .returned (.slice A' (n + 1) c') ∧
      w'.ownsRow B 2 1 (.slice A' (n + 1) c') (n + 1) (xs.take (i) ++ ys ++ xs.drop (i)) ∧ Keeps (obs (.slice A n c)) w w' := by
  rcases Nat.lt_or_ge i n with h | h
  · rcases Nat.lt_or_ge c (n + 1) with h2 | h2
    · exact insert_growInt B A n c i xs gv cv ys w hown hB hx hv hn h h2
    · exact insert_roomInt B A n c i xs gv cv ys w hown hx hv hgvA hn h h2
  · obtain rfl : i = n := by omega
    have e1 : xs.take (i) = xs := List.take_of_length_le (by have := hown.1; omega)
    have e2 : xs.drop (i) = [] := List.drop_eq_nil_of_le (by have := hown.1; omega)
    rw [e1, e2, List.append_nil]
    exact insert_endInt B A i c xs gv cv ys w hown hB hv hn
end Go.Proofs.YtkngjgblfappoaaGreatDoor
