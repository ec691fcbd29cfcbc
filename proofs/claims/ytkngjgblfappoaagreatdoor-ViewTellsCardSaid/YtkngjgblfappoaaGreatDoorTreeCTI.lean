/-
  The counted tree: inners: a list of nodes cut to nodes above them.
-/
import Derived.Test.YtkngjgblfappoaaGreatDoorTreeBTI
namespace Go.Proofs.YtkngjgblfappoaaGreatDoor
open Go.RowKit (Below intOf Hid)

set_option maxRecDepth 100000 in
set_option maxHeartbeats 1600000 in
theorem inners_smallTI (t : Nat) (root : Value) (A : Option Addr) (n c h : Nat) (ps : List Nat) (l : List (Tr Int h)) (w : World) (hd : HdTI w t root) (hr : Rd w 248 1 A n (ps.map ptr)) {F : Nat → Prop} (ha : All2 (NodeIn LTI F w h) ps l) (hl : l.length = n) (hc : n ≤ c) (hB : (l.flatMap (Tr.flat h)).length ≤ 1000000) (hF : InF F A n) (h8 : n ≤ 8) :
    Calls Tryz.prog 245 #[ptr t, .slice A n c] w fun e w' => ∃ A' c', e = .returned (.slice A' 1 c') ∧ OwnTI (OrNew F w) w' w.heap.size (h + 1) A' 1 c' [l] ∧ HdTI w' t root ∧ Keeps [t] w w' := by
  obtain ⟨i0, hi0, hz0, hz1, hz2⟩ := info_parts infoNd
  have htags := hd.noTags
  have htl := hd.lt
  go_enter Tryz.func245, Tryz.ntmps245
  go_wp2_with (go_at_call 274; refine (cut_smallNd _ _ _ _ h8).mono ?_; rintro e w1 ⟨rfl, hb1, hk1⟩)
  generalize hg : w.heap.size = g at hb1 ⊢
  have Hg := Lib.hid hg
  clear hg
  have hgt : t ≠ g := by have := Hg.out; omega
  have hd1 : HdTI w1 t root := hd.keep hk1 (by simp)
  have e0 : w1.cell? ⟨g, 0, none⟩ = some (.slice A n c) := hb1.cell 0
  refine wp_loop_rounds 2 ?_
  rw [rounds_succ]
  go_wp2_with (first
    | (go_at_call 208; refine (innerRawTI t root A n c h ps l _ hd1 (hr.keep hk1 (by simp)) (ha.keep hk1 (by simp)) hl (by omega) hB).mono ?_; rintro e w2 ⟨p, rfl, hp2, hn2, hd2, hk2⟩)
    | (at_builtin
       refine wpList_append_rd _ rfl (.tmp 15) (.tmp 19) _ rfl g 248 i0 _ 1 8 Tryz.underlying323 hi0 hz0 hz1 hz2 rfl (by omega) (.slice none 0 0) 0 [] rfl (World.ownsRow_nil _ _ _ _) (some ⟨w2.heap.size, 0, none⟩) 1 1 [ptr p] rfl (own_rd (own_new (base := 0) (k := 1) (Nat.zero_le _) (by decide) (by simp)) (Cells1.ptrs [p])) (by decide) (by decide) (by have := Hg.out; have := hk1.size; have := hk2.size; simp; omega) ?_
       intro v3 w3 hown3 hg3 _))
  rw [rounds_succ]
  go_wp2
  go_ret
  have hg := Hg.out
  have hk3 : Keeps [] w2 w3 := ((Keeps.refl [] w2).alloc _).grown hg3 (fun b hb => by simp [Value.ownBlock] at hb)
  obtain ⟨A', c', rfl, _, _⟩ := own_form hown3
  have hk13 : Keeps [t] w w3 := ((hk1.mono (by simp)).trans hk2 (fun b hb => .inl hb)).trans_nil hk3
  exact ⟨A', c', rfl, ⟨[p], by rw [hg]; simpa using hown3, rfl, All2.one (node_innerTI (hk3.blk hn2 (by simp)) (hr.keep hk13 (fun b hb => (htags b hb).sub (by simp [LTI]))) hl hc ((ha.keep hk13 htags).wider fun _ h => .inl h) (.inr (by have := hk1.size; omega)) (hF.imp fun _ h => .inl h))⟩, hd2.keep hk3 (by simp), hk13⟩

set_option maxRecDepth 100000 in
set_option maxHeartbeats 1600000 in
theorem inners_bigTI (t : Nat) (root : Value) (A : Option Addr) (n c h : Nat) (ps : List Nat) (l : List (Tr Int h)) (w : World) (hd : HdTI w t root) (hr : Rd w 248 1 A n (ps.map ptr)) {F : Nat → Prop} (ha : All2 (NodeIn LTI F w h) ps l) (hl : l.length = n) (hc : n ≤ c) (hB : (l.flatMap (Tr.flat h)).length ≤ 1000000) (h8 : 8 < n) (hn : n ≤ 10000) :
    Calls Tryz.prog 245 #[ptr t, .slice A n c] w fun e w' => ∃ A' c', e = .returned (.slice A' 2 c') ∧ OwnTI (OrNew F w) w' w.heap.size (h + 1) A' 2 c' [l.take (n / 2), l.drop (n / 2)] ∧ HdTI w' t root ∧ Keeps [t] w w' := by
  obtain ⟨i0, hi0, hz0, hz1, hz2⟩ := info_parts infoNd
  have htags := hd.noTags
  have htl := hd.lt
  go_enter Tryz.func245, Tryz.ntmps245
  go_wp2_with (go_at_call 274; refine (cut_bigNd _ _ _ _ _ hr h8 hn hc).mono ?_; rintro e w1 ⟨g, A1, c1, A2, c2, rfl, hg, hb1, hr1, hr2, hc1, hc2, hk1, hA1', hA2'⟩)
  have hA1 : InF (fun b => w.heap.size ≤ b) A1 (n / 2) := hA1'
  have hA2 : InF (fun b => w.heap.size ≤ b) A2 (n - n / 2) := hA2'
  clear hA1' hA2'
  rw [← List.map_take] at hr1
  rw [← List.map_drop] at hr2
  have ha1 := ha.take (n / 2)
  have ha2 := ha.drop (n / 2)
  have hB1 : ((l.take (n / 2)).flatMap (Tr.flat h)).length ≤ 1000000 := by
    have e := congrArg List.length (congrArg (List.flatMap (Tr.flat h)) (List.take_append_drop (n / 2) l))
    rw [List.flatMap_append, List.length_append] at e
    omega
  have hB2 : ((l.drop (n / 2)).flatMap (Tr.flat h)).length ≤ 1000000 := by
    have e := congrArg List.length (congrArg (List.flatMap (Tr.flat h)) (List.take_append_drop (n / 2) l))
    rw [List.flatMap_append, List.length_append] at e
    omega
  have hl1 : (l.take (n / 2)).length = n / 2 := by rw [List.length_take]; omega
  have hl2 : (l.drop (n / 2)).length = n - n / 2 := by rw [List.length_drop]; omega
  have Hl1 := Lib.hid hl1
  have Hl2 := Lib.hid hl2
  have Hr1 := Lib.hid hr1
  have Hr2 := Lib.hid hr2
  have Ha1 := Lib.hid ha1
  have Ha2 := Lib.hid ha2
  have HB1 := Lib.hid hB1
  have HB2 := Lib.hid hB2
  clear hl hl1 hl2 hr1 hr2 ha1 ha2 hB1 hB2 hB ha
  have hgt : t ≠ g := by omega
  have hd1 : HdTI w1 t root := hd.keep hk1 (by simp)
  have htags1 := hd1.noTags
  have e0 : w1.cell? ⟨g, 0, none⟩ = some (.slice A1 (n / 2) c1) := hb1.cell 0
  refine wp_loop_rounds 3 ?_
  rw [rounds_succ]
  go_wp2_with (first
    | (go_at_call 208; refine (innerRawTI t root A1 (n / 2) c1 h (ps.take (n / 2)) (l.take (n / 2)) _ hd1 Hr1.out (Ha1.out.keep hk1 (by simp)) Hl1.out (by omega) HB1.out).mono ?_; rintro e w2 ⟨p, rfl, hp2, hn2, hd2, hk2⟩)
    | (at_builtin
       refine wpList_append_rd _ rfl (.tmp 15) (.tmp 19) _ rfl w2.heap.size 248 i0 _ 1 8 Tryz.underlying323 hi0 hz0 hz1 hz2 rfl (by omega) (.slice none 0 0) 0 [] rfl (World.ownsRow_nil _ _ _ _) (some ⟨w2.heap.size, 0, none⟩) 1 1 [ptr p] rfl (own_rd (own_new (base := 0) (k := 1) (Nat.zero_le _) (by decide) (by simp)) (Cells1.ptrs [p])) (by decide) (by decide) (by simp) ?_
       intro v3 w3 hown3 hg3 _))
  have hk3 : Keeps [] w2 w3 := ((Keeps.refl [] w2).alloc _).grown hg3 (fun b hb => by simp [Value.ownBlock] at hb)
  obtain ⟨A3, c3, rfl, hc3, _⟩ := own_form hown3
  have hk13 : Keeps [t] w1 w3 := hk2.trans_nil hk3
  have hd3 : HdTI w3 t root := hd2.keep hk3 (by simp)
  have e1 : w3.cell? ⟨g, 1, none⟩ = some (.slice A2 (n - n / 2) c2) := (hk13.blk hb1 (by simp; omega)).cell 1
  have s1 := hk1.size
  have s2 := hk2.size
  have s3 := hk3.size
  rw [rounds_succ]
  go_wp2_with (first
    | (go_at_call 208; refine (innerRawTI t root A2 (n - n / 2) c2 h (ps.drop (n / 2)) (l.drop (n / 2)) _ hd3 (Hr2.out.keep hk13 (fun b hb => (htags1 b hb).sub (by simp [LTI]))) ((Ha2.out.keep hk1 (by simp)).keep hk13 htags1) Hl2.out (by omega) HB2.out).mono ?_; rintro e w4 ⟨p2, rfl, hp4, hn4, hd4, hk4⟩; have hown4 := own_keep hown3 hk4 (fun b hb h => by rw [List.mem_singleton.1 hb] at h; have := (hown3.lt _ h).1; omega); have s4 := hk4.size)
    | (at_builtin
       refine wpList_append_rd _ rfl (.tmp 15) (.tmp 19) _ rfl w2.heap.size 248 i0 _ 1 8 Tryz.underlying323 hi0 hz0 hz1 hz2 rfl (by omega) (.slice A3 1 c3) 1 ([] ++ [ptr p]) rfl (hown4.alloc _) (some ⟨w4.heap.size, 0, none⟩) 1 1 [ptr p2] rfl (own_rd (own_new (base := 0) (k := 1) (Nat.zero_le _) (by decide) (by simp)) (Cells1.ptrs [p2])) (by decide) (by decide) (by simp; omega) ?_
       intro v5 w5 hown5 hg5 _))
  have hk5 : Keeps (obs (.slice A3 1 c3)) w4 w5 := ((Keeps.refl _ w4).alloc _).grown hg5 (fun b hb => .inl (by simp [obs, hb]))
  have hob : ∀ b, b ∈ obs (.slice A3 1 c3) → w2.heap.size ≤ b ∧ b < w3.heap.size := fun b hb => own_base hown3 hb
  rw [rounds_succ]
  go_wp2
  go_ret
  obtain ⟨A', c', rfl, _, _⟩ := own_form hown5
  have K25 : Keeps [t] w2 w5 := (hk3.mono (M' := [t]) (by simp)).trans hk4 (fun b hb => .inl hb) |>.trans hk5 (fun b hb => .inr (hob b hb).1)
  have K15 : Keeps [t] w1 w5 := hk2.trans K25 (fun b hb => .inl hb)
  have K05 : Keeps [t] w w5 := (hk1.mono (by simp)).trans K15 (fun b hb => .inl hb)
  have hp5 : Blk w5 p 333 #[.slice none 0 0, .slice A1 (n / 2) c1, .int .i64 (cntTI (l.take (n / 2)) (n / 2))] := K25.blk hn2 (by simp; omega)
  have hq5 : Blk w5 p2 333 #[.slice none 0 0, .slice A2 (n - n / 2) c2, .int .i64 (cntTI (l.drop (n / 2)) (n - n / 2))] := hk5.blk hn4 (fun h => by have := (hob _ h).2; omega)
  refine ⟨A', c', rfl, ⟨[p, p2], ?_, rfl, (All2.one (node_innerTI hp5 (Hr1.out.keep K15 (fun b hb => (htags1 b hb).sub (by simp [LTI]))) Hl1.out hc1 ((Ha1.out.keep K05 htags).wider fun _ h => .inl h) (.inr (by omega)) (hA1.imp fun _ h => .inr h))).append (All2.one (node_innerTI hq5 (Hr2.out.keep K15 (fun b hb => (htags1 b hb).sub (by simp [LTI]))) Hl2.out hc2 ((Ha2.out.keep K05 htags).wider fun _ h => .inl h) (.inr (by omega)) (hA2.imp fun _ h => .inr h)))⟩, ?_, K05⟩
  · exact own_weaken hown5 (by omega)
  · exact hd4.keep hk5 (fun h => by have := (hob _ h).1; omega)

theorem innersTI (t : Nat) (root : Value) (A : Option Addr) (n c h : Nat) (ps : List Nat) (l : List (Tr Int h)) (w : World) (hd : HdTI w t root) (hr : Rd w 248 1 A n (ps.map ptr)) {F : Nat → Prop} (ha : All2 (NodeIn LTI F w h) ps l) (hl : l.length = n) (hc : n ≤ c) (hB : (l.flatMap (Tr.flat h)).length ≤ 1000000) (hF : InF F A n) (hn : n ≤ 10000) :
    Calls Tryz.prog 245 #[ptr t, .slice A n c] w fun e w' => ∃ A' m c', e = .returned (.slice A' m c') ∧ OwnTI (OrNew F w) w' w.heap.size (h + 1) A' m c' (Tr.halves l) ∧ HdTI w' t root ∧ Keeps [t] w w' := by
  by_cases h8 : n ≤ 8
  · rw [Tr.halves_small (by omega)]
    refine (inners_smallTI t root A n c h ps l w hd hr ha hl hc hB hF h8).mono ?_
    rintro e w' ⟨A', c', hh⟩
    exact ⟨A', 1, c', hh⟩
  · rw [Tr.halves_big (by omega), hl]
    refine (inners_bigTI t root A n c h ps l w hd hr ha hl hc hB (by omega) hn).mono ?_
    rintro e w' ⟨A', c', hh⟩
    exact ⟨A', 2, c', hh⟩
end Go.Proofs.YtkngjgblfappoaaGreatDoor
