/-
  The counted tree: leaves: a list of elements cut to nodes.
-/
import Derived.Test.YtkngjgblfappoaaGreatDoorTreeATI
namespace Go.Proofs.YtkngjgblfappoaaGreatDoor
open Go.RowKit (Below intOf Hid)

theorem cut_takeTI (l : List Int) (i : Nat) : (LTI.cells l).take (i) = LTI.cells (l.take i) := by
  have := LTI.cells_take l i
  simpa [LTI] using this
theorem cut_dropTI (l : List Int) (i : Nat) : (LTI.cells l).drop (i) = LTI.cells (l.drop i) := by
  have := LTI.cells_drop l i
  simpa [LTI] using this

set_option maxRecDepth 100000 in
set_option maxHeartbeats 1600000 in
theorem leaves_smallTI (t : Nat) (root : Value) (A : Option Addr) (n c : Nat) (l : List Int) (w : World) (hd : HdTI w t root) (hr : Rd w 2 1 A n (LTI.cells l)) (hl : l.length = n) (hc : n ≤ c) {F : Nat → Prop} (hF : InF F A n) (h8 : n ≤ 8) :
    Calls Tryz.prog 243 #[ptr t, .slice A n c] w fun e w' => ∃ A' c', e = .returned (.slice A' 1 c') ∧ OwnTI (OrNew F w) w' w.heap.size 0 A' 1 c' [l] ∧ HdTI w' t root ∧ Keeps [t] w w' := by
  obtain ⟨i0, hi0, hz0, hz1, hz2⟩ := info_parts infoNd
  have htags := hd.noTags
  have htl := hd.lt
  go_enter Tryz.func243, Tryz.ntmps243
  go_wp2_with (go_at_call 273; refine (cut_smallInt _ _ _ _ h8).mono ?_; rintro e w1 ⟨rfl, hb1, hk1⟩)
  generalize hg : w.heap.size = g at hb1 ⊢
  have Hg := Lib.hid hg
  clear hg
  have hgt : t ≠ g := by have := Hg.out; omega
  have hd1 : HdTI w1 t root := hd.keep hk1 (by simp)
  have e0 : w1.cell? ⟨g, 0, none⟩ = some (.slice A n c) := hb1.cell 0
  refine wp_loop_rounds 2 ?_
  rw [rounds_succ]
  go_wp2_with (first
    | (go_at_call 206; refine (leafRawTI t root A n c _ hd1).mono ?_; rintro e w2 ⟨p, rfl, hp2, hn2, hd2, hk2⟩)
    | (at_builtin
       refine wpList_append_rd _ rfl (.tmp 15) (.tmp 19) _ rfl g 248 i0 _ 1 8 Tryz.underlying323 hi0 hz0 hz1 hz2 rfl (by omega) (.slice none 0 0) 0 [] rfl (World.ownsRow_nil _ _ _ _) (some ⟨w2.heap.size, 0, none⟩) 1 1 [ptr p] rfl (own_rd (own_new (base := 0) (k := 1) (Nat.zero_le _) (by decide) (by simp)) (Cells1.ptrs [p])) (by decide) (by decide) (by have := Hg.out; have := hk1.size; have := hk2.size; simp; omega) ?_
       intro v3 w3 hown3 hg3 _))
  rw [rounds_succ]
  go_wp2
  go_ret
  have hg := Hg.out
  have hk3 : Keeps [] w2 w3 := ((Keeps.refl [] w2).alloc _).grown hg3 (fun b hb => by simp [Value.ownBlock] at hb)
  obtain ⟨A', c', rfl, _, _⟩ := own_form hown3
  have hk13 : Keeps [t] w w3 := ((hk1.mono (by simp)).trans hk2 (fun b hb => .inl hb)).trans_nil hk3
  exact ⟨A', c', rfl, ⟨[p], by rw [hg]; simpa using hown3, rfl, All2.one (node_leafTI (hk3.blk hn2 (by simp)) (hr.keep hk13 (fun b hb => (htags b hb).sub (by simp [LTI]))) hl hc (.inr (by have := hk1.size; omega)) (hF.imp fun _ h => .inl h))⟩, hd2.keep hk3 (by simp), hk13⟩

set_option maxRecDepth 100000 in
set_option maxHeartbeats 1600000 in
theorem leaves_bigTI (t : Nat) (root : Value) (A : Option Addr) (n c : Nat) (l : List Int) (w : World) (hd : HdTI w t root) (hr : Rd w 2 1 A n (LTI.cells l)) (hl : l.length = n) (hc : n ≤ c) (h8 : 8 < n) (hn : n ≤ 10000) {F : Nat → Prop} :
    Calls Tryz.prog 243 #[ptr t, .slice A n c] w fun e w' => ∃ A' c', e = .returned (.slice A' 2 c') ∧ OwnTI (OrNew F w) w' w.heap.size 0 A' 2 c' [l.take (n / 2), l.drop (n / 2)] ∧ HdTI w' t root ∧ Keeps [t] w w' := by
  obtain ⟨i0, hi0, hz0, hz1, hz2⟩ := info_parts infoNd
  have htags := hd.noTags
  have htl := hd.lt
  go_enter Tryz.func243, Tryz.ntmps243
  go_wp2_with (go_at_call 273; refine (cut_bigInt _ _ _ _ _ hr h8 hn hc).mono ?_; rintro e w1 ⟨g, A1, c1, A2, c2, rfl, hg, hb1, hr1, hr2, hc1, hc2, hk1, hA1', hA2'⟩)
  have hA1 : InF (fun b => w.heap.size ≤ b) A1 (n / 2) := hA1'
  have hA2 : InF (fun b => w.heap.size ≤ b) A2 (n - n / 2) := hA2'
  clear hA1' hA2'
  rw [cut_takeTI] at hr1
  rw [cut_dropTI] at hr2
  have hl1 : (l.take (n / 2)).length = n / 2 := by rw [List.length_take]; omega
  have hl2 : (l.drop (n / 2)).length = n - n / 2 := by rw [List.length_drop]; omega
  have Hl1 := Lib.hid hl1
  have Hl2 := Lib.hid hl2
  have Hr1 := Lib.hid hr1
  have Hr2 := Lib.hid hr2
  clear hl hl1 hl2 hr1 hr2
  have hgt : t ≠ g := by omega
  have hd1 : HdTI w1 t root := hd.keep hk1 (by simp)
  have htags1 := hd1.noTags
  have e0 : w1.cell? ⟨g, 0, none⟩ = some (.slice A1 (n / 2) c1) := hb1.cell 0
  refine wp_loop_rounds 3 ?_
  rw [rounds_succ]
  go_wp2_with (first
    | (go_at_call 206; refine (leafRawTI t root A1 (n / 2) c1 _ hd1).mono ?_; rintro e w2 ⟨p, rfl, hp2, hn2, hd2, hk2⟩)
    | (at_builtin
       refine wpList_append_rd _ rfl (.tmp 15) (.tmp 19) _ rfl w2.heap.size 248 i0 _ 1 8 Tryz.underlying323 hi0 hz0 hz1 hz2 rfl (by omega) (.slice none 0 0) 0 [] rfl (World.ownsRow_nil _ _ _ _) (some ⟨w2.heap.size, 0, none⟩) 1 1 [ptr p] rfl (own_rd (own_new (base := 0) (k := 1) (Nat.zero_le _) (by decide) (by simp)) (Cells1.ptrs [p])) (by decide) (by decide) (by simp) ?_
       intro v3 w3 hown3 hg3 _))
  have hk3 : Keeps [] w2 w3 := ((Keeps.refl [] w2).alloc _).grown hg3 (fun b hb => by simp [Value.ownBlock] at hb)
  obtain ⟨A3, c3, rfl, hc3, _⟩ := own_form hown3
  have hk13 : Keeps [t] w1 w3 := hk2.trans_nil hk3
  have hd3 : HdTI w3 t root := hd2.keep hk3 (by simp)
  have e1 : w3.cell? ⟨g, 1, none⟩ = some (.slice A2 (n - n / 2) c2) := (hk13.blk hb1 (by simp; omega)).cell 1
  have s1 := hk1.size
  have s2 := hk2.size
  have s3 := hk3.size
  rw [rounds_succ]
  go_wp2_with (first
    | (go_at_call 206; refine (leafRawTI t root A2 (n - n / 2) c2 _ hd3).mono ?_; rintro e w4 ⟨p2, rfl, hp4, hn4, hd4, hk4⟩; have hown4 := own_keep hown3 hk4 (fun b hb h => by rw [List.mem_singleton.1 hb] at h; have := (hown3.lt _ h).1; omega); have s4 := hk4.size)
    | (at_builtin
       refine wpList_append_rd _ rfl (.tmp 15) (.tmp 19) _ rfl w2.heap.size 248 i0 _ 1 8 Tryz.underlying323 hi0 hz0 hz1 hz2 rfl (by omega) (.slice A3 1 c3) 1 ([] ++ [ptr p]) rfl (hown4.alloc _) (some ⟨w4.heap.size, 0, none⟩) 1 1 [ptr p2] rfl (own_rd (own_new (base := 0) (k := 1) (Nat.zero_le _) (by decide) (by simp)) (Cells1.ptrs [p2])) (by decide) (by decide) (by simp; omega) ?_
       intro v5 w5 hown5 hg5 _))
  have hk5 : Keeps (obs (.slice A3 1 c3)) w4 w5 := ((Keeps.refl _ w4).alloc _).grown hg5 (fun b hb => .inl (by simp [obs, hb]))
  have hob : ∀ b, b ∈ obs (.slice A3 1 c3) → w2.heap.size ≤ b ∧ b < w3.heap.size := fun b hb => own_base hown3 hb
  rw [rounds_succ]
  go_wp2
  go_ret
  obtain ⟨A', c', rfl, _, _⟩ := own_form hown5
  have K25 : Keeps [t] w2 w5 := (hk3.mono (M' := [t]) (by simp)).trans hk4 (fun b hb => .inl hb) |>.trans hk5 (fun b hb => .inr (hob b hb).1)
  have K15 : Keeps [t] w1 w5 := hk2.trans K25 (fun b hb => .inl hb)
  have K05 : Keeps [t] w w5 := (hk1.mono (by simp)).trans K15 (fun b hb => .inl hb)
  have hp5 : Blk w5 p 333 #[.slice A1 (n / 2) c1, .slice none 0 0, .int .i64 (n / 2 : Nat)] := K25.blk hn2 (by simp; omega)
  have hq5 : Blk w5 p2 333 #[.slice A2 (n - n / 2) c2, .slice none 0 0, .int .i64 (n - n / 2 : Nat)] := hk5.blk hn4 (fun h => by have := (hob _ h).2; omega)
  refine ⟨A', c', rfl, ⟨[p, p2], ?_, rfl, (All2.one (node_leafTI hp5 (Hr1.out.keep K15 (fun b hb => (htags1 b hb).sub (by simp [LTI]))) Hl1.out hc1 (.inr (by omega)) (hA1.imp fun _ h => .inr h))).append (All2.one (node_leafTI hq5 (Hr2.out.keep K15 (fun b hb => (htags1 b hb).sub (by simp [LTI]))) Hl2.out hc2 (.inr (by omega)) (hA2.imp fun _ h => .inr h)))⟩, ?_, K05⟩
  · exact own_weaken hown5 (by omega)
  · exact hd4.keep hk5 (fun h => by have := (hob _ h).1; omega)

theorem leavesTI (t : Nat) (root : Value) (A : Option Addr) (n c : Nat) (l : List Int) (w : World) (hd : HdTI w t root) (hr : Rd w 2 1 A n (LTI.cells l)) (hl : l.length = n) (hc : n ≤ c) {F : Nat → Prop} (hF : InF F A n) (hn : n ≤ 10000) :
    Calls Tryz.prog 243 #[ptr t, .slice A n c] w fun e w' => ∃ A' m c', e = .returned (.slice A' m c') ∧ OwnTI (OrNew F w) w' w.heap.size 0 A' m c' (Tr.halves l) ∧ HdTI w' t root ∧ Keeps [t] w w' := by
  by_cases h8 : n ≤ 8
  · rw [Tr.halves_small (by omega)]
    refine (leaves_smallTI t root A n c l w hd hr hl hc hF h8).mono ?_
    rintro e w' ⟨A', c', h⟩
    exact ⟨A', 1, c', h⟩
  · rw [Tr.halves_big (by omega), hl]
    refine (leaves_bigTI t root A n c l w hd hr hl hc (by omega) hn (F := F)).mono ?_
    rintro e w' ⟨A', c', h⟩
    exact ⟨A', 2, c', h⟩
end Go.Proofs.YtkngjgblfappoaaGreatDoor
