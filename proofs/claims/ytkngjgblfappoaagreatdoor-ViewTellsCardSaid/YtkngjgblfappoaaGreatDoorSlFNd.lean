/-
  slices.Replace of a piece of a row of the call's own.
-/
import Derived.Test.YtkngjgblfappoaaGreatDoorSlANd
import Derived.Deep.RegionHeld3
import Derived.IntWalk
import Derived.WalkSpells
namespace Go.Proofs.YtkngjgblfappoaaGreatDoor
open Go.RowKit (Below intOf Hid)

/-- What slices.Replace answers. -/
def ReplNd (B : Nat) (A : Option Addr) (n c i j T : Nat) (xs ys : List Value) (w : World) (e : Ending) (w' : World) : Prop := ∃ A' c', e = .returned (.slice A' T c') ∧
  w'.ownsRow B 248 1 (.slice A' T c') T (xs.take (i) ++ ys ++ xs.drop (j)) ∧ Keeps (obs (.slice A n c)) w w'

set_option maxRecDepth 100000 in
set_option maxHeartbeats 1600000 in
theorem replace_end_smallNd (B : Nat) (A : Option Addr) (n c i m T : Nat) (xs : List Value) (gv cv : Nat) (ys : List Value) (w : World) (hown : w.ownsRow B 248 1 (.slice A n c) n xs) (hx : Cells1 xs)
    (hv : Rd w 248 1 (some ⟨gv, 0, none⟩) m ys) (hgvA : gv ∉ obs (.slice A n c)) (hn : n ≤ 10000) (hi : i < n) (hT : i + m = T) (hsm : T < n) :
    Calls Tryz.prog 246 #[.slice A n c, .int .i64 i, .int .i64 n, .slice (some ⟨gv, 0, none⟩) m cv] w (ReplNd B A n c i n T xs ys w) := by
  obtain ⟨i0, hi0, hz0, hz1, hz2⟩ := info_parts infoNd
  obtain ⟨g, cap, cur, hvv, hg, hb, hnc, hmax, hcl, htk⟩ := own_blk hown (by omega)
  injection hvv with hA _ hcap
  subst hA
  subst hcap
  simp only [obs_some, List.mem_singleton] at hgvA
  have hr : Rd w 248 1 (some ⟨g, 0, none⟩) n xs := own_rd hown hx
  have ht : Rd w 248 1 (some ⟨g, 0, none⟩) i (xs.take (i)) := by simpa using hr.take (Nat.le_of_lt hi)
  have hcl' : (c : Int) ≤ 9223372036854775807 := by simp only [maxLen] at hmax; omega
  have a1 : (0 : Int) ≤ i := by omega
  have a2 : (i : Int) ≤ c := by omega
  have a3 : (i : Int) ≤ n := by omega
  have a4 : (n : Int) ≤ c := by omega
  have a5 : (i : Int) < n := by omega
  have b1 : (T : Int) ≤ n := by omega
  have b2 : ¬ c = T := by omega
  have b3 : (0 : Int) ≤ T := by omega
  have b4 : (T : Int) < n := by omega
  have HT := Lib.hid hT
  clear hT
  go_enter Tryz.func246, Tryz.ntmps246
  go_wp2_with (first
    | (at_builtin; refine wpList_append_room_rd _ rfl (.tmp 32) (.tmp 33) _ rfl 248 i0 1 Tryz.underlying323 hi0 hz1 g i c rfl cur hb ⟨gv, 0, none⟩ m cv rfl ys hv (by have := HT.out; omega) (by rw [hcl]; have := HT.out; omega) T HT.out ?_; intro w1 hg1 hk1)
    | (refine wpList_clear_blk _ rfl (.tmp 43) _ rfl 248 (.pointer none) 1 Tryz.underlying323 zeroNd rfl (by simp [Value.cells, Value.oneCell']) (by omega) (some ⟨g, T, none⟩) (n - T) (c - T) rfl g (T) _ 248 hg1 (fun _ => rfl) (by rw [length_splice _ _ _ (by rw [hv.1, hcl]; have := HT.out; omega), hcl]; omega) ?_; intro w2 zs hz hg2 hk2))
  go_ret
  have hT := HT.out
  have hl1 : (splice cur (i * 1) ys).length = c * 1 := by rw [length_splice _ _ _ (by rw [hv.1, hcl]; omega)]; exact hcl
  have hdn : xs.drop (n) = [] := List.drop_eq_nil_of_le (by rw [hr.1]; omega)
  refine ⟨some ⟨g, 0, none⟩, c, rfl, own_of_blk hg hg2 (by omega) hmax ?_ ?_, by rw [obs_some]; exact hk1.trans hk2 (fun b hb' => .inl hb')⟩
  · rw [length_splice _ _ _ (by rw [hl1, hz]; omega), hl1]
  · rw [splice_take_le _ _ _ _ (by omega) (by rw [hl1]; omega), hdn, List.append_nil]
    refine splice_take_end cur (xs.take (i)) _ _ _ (by rw [ht.1]) (by rw [ht.1, hv.1]; omega) ?_
    rw [← htk, List.take_take]
    congr 1
    omega

set_option maxRecDepth 100000 in
set_option maxHeartbeats 1600000 in
theorem replace_end_bigNd (B : Nat) (A : Option Addr) (n c i m T : Nat) (xs : List Value) (gv cv : Nat) (ys : List Value) (w : World) (hown : w.ownsRow B 248 1 (.slice A n c) n xs) (hB : B ≤ w.heap.size) (hx : Cells1 xs)
    (hv : Rd w 248 1 (some ⟨gv, 0, none⟩) m ys) (hn : n ≤ 10000) (hm : m ≤ 10000) (hi : i < n) (hT : i + m = T) (hsm : n ≤ T) :
    Calls Tryz.prog 246 #[.slice A n c, .int .i64 i, .int .i64 n, .slice (some ⟨gv, 0, none⟩) m cv] w (ReplNd B A n c i n T xs ys w) := by
  obtain ⟨i0, hi0, hz0, hz1, hz2⟩ := info_parts infoNd
  obtain ⟨g, cap, cur, hvv, hg, hb, hnc, hmax, hcl, htk⟩ := own_blk hown (by omega)
  injection hvv with hA _ hcap
  subst hA
  subst hcap
  have hr : Rd w 248 1 (some ⟨g, 0, none⟩) n xs := own_rd hown hx
  have ht : Rd w 248 1 (some ⟨g, 0, none⟩) i (xs.take (i)) := by simpa using hr.take (Nat.le_of_lt hi)
  have hot : w.ownsRow B 248 1 (.slice (some ⟨g, 0, none⟩) i c) i (xs.take (i)) := own_of_blk hg hb (by omega) hmax hcl (by rw [← htk, List.take_take]; congr 1; omega)
  have hcl' : (c : Int) ≤ 9223372036854775807 := by simp only [maxLen] at hmax; omega
  have a1 : (0 : Int) ≤ i := by omega
  have a2 : (i : Int) ≤ c := by omega
  have a3 : (i : Int) ≤ n := by omega
  have a4 : (n : Int) ≤ c := by omega
  have a5 : (i : Int) < n := by omega
  have HT := Lib.hid hT
  have a6 : (n : Int) ≤ (i : Int) + m := by omega
  clear hT
  go_enter Tryz.func246, Tryz.ntmps246
  go_wp2_with (at_builtin; refine wpList_append_rd _ rfl (.tmp 32) (.tmp 33) _ rfl B 248 i0 _ 1 8 Tryz.underlying323 hi0 hz0 hz1 hz2 rfl (by omega) (.slice (some ⟨g, 0, none⟩) i c) i _ rfl hot (some ⟨gv, 0, none⟩) m cv ys rfl hv (by unfold maxLen; omega) (by omega) hB ?_; intro v1 w1 hown1 hg1 _; obtain ⟨A', c', rfl, _, _⟩ := own_form hown1)
  go_ret
  have hT := HT.out
  have hdn : xs.drop (n) = [] := List.drop_eq_nil_of_le (by rw [hr.1]; omega)
  subst hT
  refine ⟨A', c', rfl, ?_, keeps_grown hg1⟩
  rw [hdn, List.append_nil]
  exact hown1

set_option maxRecDepth 100000 in
set_option maxHeartbeats 1600000 in
theorem replace_growNd (B : Nat) (A : Option Addr) (n c i j m T : Nat) (xs : List Value) (gv cv : Nat) (ys : List Value) (w : World) (hown : w.ownsRow B 248 1 (.slice A n c) n xs) (hx : Cells1 xs)
    (hv : Rd w 248 1 (some ⟨gv, 0, none⟩) m ys) (hn : n ≤ 10000) (hm0 : 0 < m) (hm : m ≤ 10000) (hi : i < j) (hj : j < n) (hT : i + m + (n - j) = T) (hg : c < T) :
    Calls Tryz.prog 246 #[.slice A n c, .int .i64 i, .int .i64 j, .slice (some ⟨gv, 0, none⟩) m cv] w (ReplNd B A n c i j T xs ys w) := by
  obtain ⟨i0, hi0, hz0, hz1, hz2⟩ := info_parts infoNd
  obtain ⟨g, cap, cur, hvv, hg, hb, hnc, hmax, hcl, htk⟩ := own_blk hown (by omega)
  injection hvv with hA _ hcap
  subst hA
  subst hcap
  have hTc : (c : Int) < T := by omega
  have hr : Rd w 248 1 (some ⟨g, 0, none⟩) n xs := own_rd hown hx
  have ht : Rd w 248 1 (some ⟨g, 0, none⟩) i (xs.take (i)) := by simpa using hr.take (show i ≤ n by omega)
  have hd : Rd w 248 1 (some ⟨g, j, none⟩) (n - j) (xs.drop (j)) := by simpa [add_lit] using hr.dropAdd (show j ≤ n by omega)
  have hcl' : (c : Int) ≤ 9223372036854775807 := by simp only [maxLen] at hmax; omega
  have a1 : (0 : Int) ≤ i := by omega
  have a2 : (i : Int) ≤ c := by omega
  have a3 : (i : Int) ≤ n := by omega
  have a4 : (n : Int) ≤ c := by omega
  have a5 : (i : Int) < j := by omega
  have a6 : (j : Int) < n := by omega
  have a7 : (j : Int) ≤ n := by omega
  have a8 : (j : Int) ≤ c := by omega
  have a9 : (0 : Int) ≤ j := by omega
  have c1 : ¬ c = i := by omega
  have c2 : ¬ c = j := by omega
  have c3 : (i : Int) ≤ j := by omega
  have s1 : IntKind.i64.wrap ((i : Int) + m) = (i : Int) + m := IntWalk.i64_in _ (by omega)
  have s2 : (0 : Int) ≤ (i : Int) + m := by omega
  have s3 : ((i : Int) + m).toNat = i + m := by omega
  have sT : (i : Int) + m + ((n - j : Nat) : Int) = (T : Int) := by omega
  have s4 : IntKind.i64.wrap (T : Int) = (T : Int) := IntWalk.i64_in _ (by omega)
  have hgl := hb.lt
  have HT := Lib.hid hT
  clear hT
  go_enter Tryz.func246, Tryz.ntmps246
  go_wp2_with fail
  go_quiet (fail)
  have hrq := hr.drewN nq
  have hdq := hd.drewN nq
  have htq := ht.drewN nq
  have hvq := hv.drewN nq
  clear sT s4
  have d1 : (i : Int) ≤ T := by have := HT.out; omega
  have d2 : (i : Int) + m ≤ T := by have := HT.out; omega
  have d3 : (T : Int) ≤ 100000 := by have := HT.out; omega
  go_wp2_with (first
    | (at_builtin
       refine wpList_append_zeros _ rfl (.tmp 63) (.tmp 66) _ 3 rfl 248 i0 _ 1 8 .i64 Tryz.underlying323 Tryz.underlying3 hi0 hz0 hz1 hz2 rfl (by omega) (some ⟨g, 0, none⟩) i c (T - i) .i64 (xs.take (i)) rfl (congrArg (Value.int .i64) (show ((T : Int) - i) = ((T - i : Nat) : Int) by omega)) 248 htq (by have := HT.out; omega) (by omega) (by unfold maxLen; have := HT.out; omega) (by have := HT.out; omega) T (by have := HT.out; omega) ?_
       intro g2 cap2 cur2 w1 hgs2 hg2 hcap2 hmax2 hcl2 htk2 hk2
       have hne2 : ¬ cap2 = i := by have := HT.out; omega
       have hne3 : ¬ cap2 = i + m := by have := HT.out; omega
       have hb2 : (i : Int) ≤ cap2 := by omega
       have hb3 : (i : Int) + m ≤ cap2 := by omega
       have hb4 : (T : Int) ≤ cap2 := by omega)
    | (refine wpList_copy_rd _ rfl (.tmp 70) (.tmp 71) _ _ rfl 248 i0 1 Tryz.underlying323 hi0 hz1 (some ⟨g2, i, none⟩) (some ⟨gv, 0, none⟩) (T - i) (cap2 - i) m cv rfl rfl 248 m (Nat.min_eq_left (by have := HT.out; omega)) ys (hvq.keep hk2 (by simp)) g2 (i) cur2 248 hg2 (fun _ => rfl) (by have := HT.out; omega) ?_
       intro w2 hg3 hk3))
  have hT := HT.out
  have hl3 : (splice cur2 (i) ys).length = cap2 * 1 := by rw [length_splice _ _ _ (by rw [hv.1]; omega)]; exact hcl2
  have hgv : g < g2 := by have : (w.drewN nq).heap.size = w.heap.size := rfl; omega
  have hd3 : Rd w2 248 1 (some ⟨g, j, none⟩) (n - j) (xs.drop (j)) := (hdq.keep hk2 (by simp)).far hk3 (fun b _ hb' => by injection hb' with hb'; injection hb' with hb' _; simp; omega)
  clear hT
  go_region_held3 (fun _ => True) (trivial)
    ((refine step_copy_rd _ rfl (.tmp 78) (.tmp 81) _ _ rfl 248 i0 1 Tryz.underlying323 hi0 hz1 (some ⟨g2, (i + m), none⟩) (some ⟨g, j, none⟩) (T - (i + m)) (cap2 - (i + m)) (n - j) (c - j) rfl rfl 248 (n - j) (Nat.min_eq_left (by have := HT.out; omega)) (xs.drop (j)) hd3.drew g2 ((i + m)) (splice cur2 (i) ys) 248 hg3.drew (fun _ => rfl) (by have := HT.out; rw [hl3]; omega) ?_; intro w3 hg4 hk4))
  go_wp2
  go_ret
  have hT := HT.out
  refine ⟨some ⟨g2, 0, none⟩, cap2, rfl, own_of_blk (by have : (w.drewN nq).heap.size = w.heap.size := rfl; omega) hg4 (by omega) hmax2 ?_ ?_, ?_⟩
  · rw [length_splice _ _ _ (by rw [hl3, hd3.1]; omega), hl3]
  · refine splice_ins cur2 (xs.take (i)) ys (xs.drop (j)) _ _ _ ?_ ?_ ?_ (by simpa using htk2)
    · rw [ht.1]; omega
    · rw [ht.1, hv.1]; omega
    · rw [ht.1, hv.1, hd.1]; omega
  · exact (((Keeps.of_drewN (hk2.mono (M' := [g]) (by simp))).trans hk3 (fun b hb' => by have : (w.drewN nq).heap.size = w.heap.size := rfl; simp at hb'; omega)).drew).trans hk4 (fun b hb' => by have : (w.drewN nq).heap.size = w.heap.size := rfl; simp at hb'; omega)

set_option maxRecDepth 100000 in
set_option maxHeartbeats 1600000 in
theorem replace_fitNd (B : Nat) (A : Option Addr) (n c i j m T : Nat) (xs : List Value) (gv cv : Nat) (ys : List Value) (w : World) (hown : w.ownsRow B 248 1 (.slice A n c) n xs) (hx : Cells1 xs)
    (hv : Rd w 248 1 (some ⟨gv, 0, none⟩) m ys) (hn : n ≤ 10000) (hm0 : 0 < m) (hm : m ≤ 10000) (hi : i < j) (hj : j < n) (hT : i + m + (n - j) = T) (hgvA : gv ∉ obs (.slice A n c)) (hTc : T ≤ c) (him : i + m ≤ j) :
    Calls Tryz.prog 246 #[.slice A n c, .int .i64 i, .int .i64 j, .slice (some ⟨gv, 0, none⟩) m cv] w (ReplNd B A n c i j T xs ys w) := by
  obtain ⟨i0, hi0, hz0, hz1, hz2⟩ := info_parts infoNd
  obtain ⟨g, cap, cur, hvv, hg, hb, hnc, hmax, hcl, htk⟩ := own_blk hown (by omega)
  injection hvv with hA _ hcap
  subst hA
  subst hcap
  have hTc' : (T : Int) ≤ c := by omega
  have him' : (i : Int) + m ≤ j := by omega
  simp only [obs_some, List.mem_singleton] at hgvA
  have hr : Rd w 248 1 (some ⟨g, 0, none⟩) n xs := own_rd hown hx
  have ht : Rd w 248 1 (some ⟨g, 0, none⟩) i (xs.take (i)) := by simpa using hr.take (show i ≤ n by omega)
  have hd : Rd w 248 1 (some ⟨g, j, none⟩) (n - j) (xs.drop (j)) := by simpa [add_lit] using hr.dropAdd (show j ≤ n by omega)
  have hcl' : (c : Int) ≤ 9223372036854775807 := by simp only [maxLen] at hmax; omega
  have a1 : (0 : Int) ≤ i := by omega
  have a2 : (i : Int) ≤ c := by omega
  have a3 : (i : Int) ≤ n := by omega
  have a4 : (n : Int) ≤ c := by omega
  have a5 : (i : Int) < j := by omega
  have a6 : (j : Int) < n := by omega
  have a7 : (j : Int) ≤ n := by omega
  have a8 : (j : Int) ≤ c := by omega
  have a9 : (0 : Int) ≤ j := by omega
  have c1 : ¬ c = i := by omega
  have c2 : ¬ c = j := by omega
  have c3 : (i : Int) ≤ j := by omega
  have s1 : IntKind.i64.wrap ((i : Int) + m) = (i : Int) + m := IntWalk.i64_in _ (by omega)
  have s2 : (0 : Int) ≤ (i : Int) + m := by omega
  have s3 : ((i : Int) + m).toNat = i + m := by omega
  have sT : (i : Int) + m + ((n - j : Nat) : Int) = (T : Int) := by omega
  have s4 : IntKind.i64.wrap (T : Int) = (T : Int) := IntWalk.i64_in _ (by omega)
  have hgl := hb.lt
  have HT := Lib.hid hT
  clear hT
  go_enter Tryz.func246, Tryz.ntmps246
  go_wp2_with fail
  go_quiet (fail)
  have hdq := hd.drewN nq
  have hvq := hv.drewN nq
  have hbq := hb.drewN nq
  clear sT s4
  have d1 : (i : Int) ≤ T := by have := HT.out; omega
  have d2 : (i : Int) + m ≤ T := by have := HT.out; omega
  have d3 : (T : Int) ≤ 100000 := by have := HT.out; omega
  have d4 : (0 : Int) ≤ T := by omega
  have c3' : ¬ c = i + m := by have := HT.out; omega
  have d5 : (T : Int) ≤ n := by have := HT.out; omega
  go_wp2_with (refine wpList_copy_rd _ rfl (.tmp 95) (.tmp 96) _ _ rfl 248 i0 1 Tryz.underlying323 hi0 hz1 (some ⟨g, i, none⟩) (some ⟨gv, 0, none⟩) (T - i) (c - i) m cv rfl rfl 248 m (Nat.min_eq_left (by have := HT.out; omega)) ys hvq g (i) cur 248 hbq (fun _ => rfl) (by have := HT.out; rw [hcl]; omega) ?_; intro w1 hg1 hk1)
  have hT := HT.out
  have hl1 : (splice cur (i) ys).length = c * 1 := by rw [length_splice _ _ _ (by rw [hv.1, hcl]; omega)]; exact hcl
  have hd1 : Rd w1 248 1 (some ⟨g, j, none⟩) (n - j) (xs.drop (j)) := by
    refine rd_of_blk hg1 ?_ hd.1 hd.2.1
    rw [splice_drop _ _ _ _ (by rw [hv.1]; omega) (by rw [hv.1, hcl]; omega), ← htk, List.drop_take]
    congr 1
    omega
  clear hT
  go_region_held3 (fun _ => True) (trivial)
    ((refine step_copy_rd _ rfl (.tmp 103) (.tmp 106) _ _ rfl 248 i0 1 Tryz.underlying323 hi0 hz1 (some ⟨g, (i + m), none⟩) (some ⟨g, j, none⟩) (T - (i + m)) (c - (i + m)) (n - j) (c - j) rfl rfl 248 (n - j) (Nat.min_eq_left (by have := HT.out; omega)) (xs.drop (j)) hd1.drew g ((i + m)) (splice cur (i) ys) 248 hg1.drew (fun _ => rfl) (by have := HT.out; rw [hl1]; omega) ?_; intro w2 hg2 hk2))
  have hl2 : (splice (splice cur (i) ys) ((i + m)) (xs.drop (j))).length = c * 1 := by have := HT.out; rw [length_splice _ _ _ (by rw [hl1, hd.1]; omega)]; exact hl1
  have hK2 : Keeps [g] w w2 := (Keeps.of_drewN hk1).trans hk2.of_drew (fun b hb' => .inl hb')
  have hfin : ∀ L : List Value, L.length = c * 1 → L.take (T) = (splice (splice cur (i) ys) ((i + m)) (xs.drop (j))).take (T) → L.take (T * 1) = xs.take (i) ++ ys ++ xs.drop (j) := by
    intro L _ h
    have hT := HT.out
    have e : L.take (T * 1) = L.take (T) := by congr 1; omega
    rw [e, h]
    refine splice_ins cur (xs.take (i)) ys (xs.drop (j)) _ _ _ ?_ ?_ ?_ ?_
    · rw [ht.1]; omega
    · rw [ht.1, hv.1]; omega
    · rw [ht.1, hv.1, hd.1]; omega
    · rw [← htk, List.take_take]; congr 1; omega
  rcases (show c = T ∨ T < c by omega) with hcT | hcT
  · have hT := HT.out
    have hnT : n = T := by omega
    subst hnT
    subst hcT
    clear hT
    go_wp2_with (refine wpList_clear_blk _ rfl (.tmp 110) _ rfl 248 (.pointer none) 1 Tryz.underlying323 zeroNd rfl (by simp [Value.cells, Value.oneCell']) (by omega) (some ⟨g, 0, none⟩) 0 0 rfl g 0 _ 248 hg2 (fun _ => rfl) (by omega) ?_; intro w3 zs hz hg3 hk3)
    go_ret
    have hz0 : zs = [] := List.eq_nil_of_length_eq_zero (by simpa using hz)
    subst hz0
    rw [splice_nil] at hg3
    exact ⟨some ⟨g, 0, none⟩, c, rfl, own_of_blk hg hg3 (Nat.le_refl _) hmax hl2 (hfin _ hl2 rfl), by rw [obs_some]; exact hK2.trans hk3 (fun b hb' => .inl hb')⟩
  · have d6 : ¬ c = T := by omega
    go_wp2_with (refine wpList_clear_blk _ rfl (.tmp 110) _ rfl 248 (.pointer none) 1 Tryz.underlying323 zeroNd rfl (by simp [Value.cells, Value.oneCell']) (by omega) (some ⟨g, T, none⟩) (n - T) (c - T) rfl g (T) _ 248 hg2 (fun _ => rfl) (by rw [hl2]; omega) ?_; intro w3 zs hz hg3 hk3)
    go_ret
    have hl3 := length_splice (splice (splice cur (i) ys) ((i + m)) (xs.drop (j))) (T) zs (by rw [hl2, hz]; omega)
    exact ⟨some ⟨g, 0, none⟩, c, rfl, own_of_blk hg hg3 (by omega) hmax (by rw [hl3, hl2]) (hfin _ (by rw [hl3, hl2]) (splice_take_le _ _ _ _ (by omega) (by rw [hl2]; omega))), by rw [obs_some]; exact hK2.trans hk3 (fun b hb' => .inl hb')⟩

set_option maxRecDepth 100000 in
set_option maxHeartbeats 1600000 in
theorem replace_expNd (B : Nat) (A : Option Addr) (n c i j m T : Nat) (xs : List Value) (gv cv : Nat) (ys : List Value) (w : World) (hown : w.ownsRow B 248 1 (.slice A n c) n xs) (hx : Cells1 xs)
    (hv : Rd w 248 1 (some ⟨gv, 0, none⟩) m ys) (hn : n ≤ 10000) (hm0 : 0 < m) (hm : m ≤ 10000) (hi : i < j) (hj : j < n) (hT : i + m + (n - j) = T) (hgvA : gv ∉ obs (.slice A n c)) (hTc : T ≤ c) (him : j < i + m) :
    Calls Tryz.prog 246 #[.slice A n c, .int .i64 i, .int .i64 j, .slice (some ⟨gv, 0, none⟩) m cv] w (ReplNd B A n c i j T xs ys w) := by
  obtain ⟨i0, hi0, hz0, hz1, hz2⟩ := info_parts infoNd
  obtain ⟨g, cap, cur, hvv, hg, hb, hnc, hmax, hcl, htk⟩ := own_blk hown (by omega)
  injection hvv with hA _ hcap
  subst hA
  subst hcap
  have hTc' : (T : Int) ≤ c := by omega
  have him' : (j : Int) < (i : Int) + m := by omega
  simp only [obs_some, List.mem_singleton] at hgvA
  have hr : Rd w 248 1 (some ⟨g, 0, none⟩) n xs := own_rd hown hx
  have ht : Rd w 248 1 (some ⟨g, 0, none⟩) i (xs.take (i)) := by simpa using hr.take (show i ≤ n by omega)
  have hd : Rd w 248 1 (some ⟨g, j, none⟩) (n - j) (xs.drop (j)) := by simpa [add_lit] using hr.dropAdd (show j ≤ n by omega)
  have hcl' : (c : Int) ≤ 9223372036854775807 := by simp only [maxLen] at hmax; omega
  have a1 : (0 : Int) ≤ i := by omega
  have a2 : (i : Int) ≤ c := by omega
  have a3 : (i : Int) ≤ n := by omega
  have a4 : (n : Int) ≤ c := by omega
  have a5 : (i : Int) < j := by omega
  have a6 : (j : Int) < n := by omega
  have a7 : (j : Int) ≤ n := by omega
  have a8 : (j : Int) ≤ c := by omega
  have a9 : (0 : Int) ≤ j := by omega
  have c1 : ¬ c = i := by omega
  have c2 : ¬ c = j := by omega
  have c3 : (i : Int) ≤ j := by omega
  have s1 : IntKind.i64.wrap ((i : Int) + m) = (i : Int) + m := IntWalk.i64_in _ (by omega)
  have s2 : (0 : Int) ≤ (i : Int) + m := by omega
  have s3 : ((i : Int) + m).toNat = i + m := by omega
  have sT : (i : Int) + m + ((n - j : Nat) : Int) = (T : Int) := by omega
  have s4 : IntKind.i64.wrap (T : Int) = (T : Int) := IntWalk.i64_in _ (by omega)
  have hgl := hb.lt
  obtain ⟨curv, hbv, hcv⟩ := hv.blk hm0
  have HT := Lib.hid hT
  clear hT
  go_enter Tryz.func246, Tryz.ntmps246
  go_wp2_with fail
  go_quiet (fail)
  have hov := fun la ca => overlapsNd g gv ((i + m)) 0 la ca m cv (w.drewN nq) 248 248 _ _ (hb.drewN nq) (hbv.drewN nq) (fun e => hgvA e.symm) (hcv (by omega))
  have hdq := hd.drewN nq
  have hvq := hv.drewN nq
  have hbq := hb.drewN nq
  clear sT s4
  have d1 : (i : Int) ≤ T := by have := HT.out; omega
  have d2 : (i : Int) + m ≤ T := by have := HT.out; omega
  have d3 : (T : Int) ≤ 100000 := by have := HT.out; omega
  have d4 : (0 : Int) ≤ T := by omega
  have c3' : ¬ c = i + m := by have := HT.out; omega
  go_wp2_with fail
  go_region_held3 (fun _ => True) (trivial)
    ((refine step_copy_rd _ rfl (.tmp 126) (.tmp 129) _ _ rfl 248 i0 1 Tryz.underlying323 hi0 hz1 (some ⟨g, (i + m), none⟩) (some ⟨g, j, none⟩) (T - (i + m)) (c - (i + m)) (n - j) (c - j) rfl rfl 248 (n - j) (Nat.min_eq_left (by have := HT.out; omega)) (xs.drop (j)) hdq.drew g ((i + m)) cur 248 hbq.drew (fun _ => rfl) (by have := HT.out; rw [hcl]; omega) ?_; intro w1 hg1 hk1))
  have hk1' : Keeps [g] (w.drewN nq) w1 := hk1.of_drew
  have hv1 : Rd w1 248 1 (some ⟨gv, 0, none⟩) m ys := hvq.far hk1' (fun b _ hb' => by injection hb' with hb'; injection hb' with hb' _; subst hb'; simpa using hgvA)
  have hl1 : (splice cur ((i + m)) (xs.drop (j))).length = c * 1 := by have := HT.out; rw [length_splice _ _ _ (by rw [hd.1, hcl]; omega)]; exact hcl
  go_wp2_with (refine wpList_copy_rd _ rfl (.tmp 133) (.tmp 134) _ _ rfl 248 i0 1 Tryz.underlying323 hi0 hz1 (some ⟨g, i, none⟩) (some ⟨gv, 0, none⟩) (T - i) (c - i) m cv rfl rfl 248 m (Nat.min_eq_left (by have := HT.out; omega)) ys hv1 g (i) _ 248 hg1 (fun _ => rfl) (by have := HT.out; rw [hl1]; omega) ?_; intro w2 hg2 hk2)
  go_ret
  have hT := HT.out
  refine ⟨some ⟨g, 0, none⟩, c, rfl, own_of_blk hg hg2 hTc hmax ?_ ?_, by rw [obs_some]; exact (Keeps.of_drewN hk1').trans hk2 (fun b hb' => .inl hb')⟩
  · rw [length_splice _ _ _ (by rw [hl1, hv.1]; omega), hl1]
  · refine splice_ins2 cur (xs.take (i)) ys (xs.drop (j)) ((cur.take ((i + m))).drop (i)) _ _ _ ?_ ?_ ?_ ?_ ?_
    · rw [ht.1]; omega
    · rw [ht.1, hv.1]; omega
    · rw [ht.1, hv.1, hd.1]; omega
    · have e : xs.take (i) = (cur.take ((i + m))).take (i) := by
        rw [← htk, List.take_take, List.take_take]
        congr 1
        omega
      rw [e, List.take_append_drop]
    · rw [List.length_drop, List.length_take, hcl, hv.1]; omega

theorem replaceNd (B : Nat) (A : Option Addr) (n c i j m T : Nat) (xs : List Value) (gv cv : Nat) (ys : List Value) (w : World) (hown : w.ownsRow B 248 1 (.slice A n c) n xs) (hB : B ≤ w.heap.size) (hx : Cells1 xs)
    (hv : Rd w 248 1 (some ⟨gv, 0, none⟩) m ys) (hgvA : gv ∉ obs (.slice A n c)) (hn : n ≤ 10000) (hm0 : 0 < m) (hm : m ≤ 10000) (hi : i < j) (hj : j ≤ n) (hT : i + m + (n - j) = T) :
    Calls Tryz.prog 246 #[.slice A n c, .int .i64 i, .int .i64 j, .slice (some ⟨gv, 0, none⟩) m cv] w (ReplNd B A n c i j T xs ys w) := by
  rcases Nat.lt_or_ge j n with h | h
  · rcases Nat.lt_or_ge c T with h2 | h2
    · exact replace_growNd B A n c i j m T xs gv cv ys w hown hx hv hn hm0 hm hi h hT h2
    · rcases Nat.lt_or_ge j (i + m) with h3 | h3
      · exact replace_expNd B A n c i j m T xs gv cv ys w hown hx hv hn hm0 hm hi h hT hgvA h2 h3
      · exact replace_fitNd B A n c i j m T xs gv cv ys w hown hx hv hn hm0 hm hi h hT hgvA h2 h3
  · obtain rfl : j = n := by omega
    rcases Nat.lt_or_ge T j with h2 | h2
    · exact replace_end_smallNd B A j c i m T xs gv cv ys w hown hx hv hgvA hn hi (by omega) h2
    · exact replace_end_bigNd B A j c i m T xs gv cv ys w hown hB hx hv hn hm hi (by omega) h2
end Go.Proofs.YtkngjgblfappoaaGreatDoor
