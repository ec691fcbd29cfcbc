/-
  The counted tree: size, joined, erased.
-/
import Derived.Test.YtkngjgblfappoaaGreatDoorTreeDTI
import Derived.Test.YtkngjgblfappoaaGreatDoorMem3
import Derived.Test.YtkngjgblfappoaaGreatDoorSlDInt
import Derived.Test.YtkngjgblfappoaaGreatDoorSlFNd
namespace Go.Proofs.YtkngjgblfappoaaGreatDoor
open Go.RowKit (Below intOf Hid)

set_option maxHeartbeats 400000 in
theorem sizeTI (p h : Nat) (tr : Tr Int h) (w : World) {F : Nat → Prop} (hn : NodeIn LTI F w h p tr) (h8 : Tr.size h tr ≤ 8) :
    Calls Tryz.prog 252 #[ptr p] w fun e w' => e = .returned (.int .i64 (Tr.size h tr)) ∧ Keeps [] w w' := by
  cases h with
  | zero =>
    obtain ⟨A, c, hb, hr, hc, _, _⟩ := hn
    have hs : Tr.size 0 tr = (Tr.els tr).length := rfl
    rw [hs] at h8 ⊢
    generalize (Tr.els tr).length = n at *
    have c0 : w.cell? ⟨p, 0, none⟩ = some (.slice A n c) := hb.cell 0
    have c1 : w.cell? ⟨p, 1, none⟩ = some (.slice none 0 0) := hb.cell 1
    have e1 : IntKind.i64.wrap (n : Int) = n := IntWalk.i64_in _ (by omega)
    go_enter Tryz.func252, Tryz.ntmps252
    go_wp2_with fail
    go_quiet (fail)
    go_wp2
    go_ret
    exact ⟨by simp, (Keeps.refl _ _).drewN _⟩
  | succ h =>
    obtain ⟨A, c, ps, hb, hr, hc, _, _, _⟩ := hn
    have hs : Tr.size (h + 1) tr = (Tr.kids tr).length := rfl
    rw [hs] at h8 ⊢
    generalize (Tr.kids tr).length = n at *
    have c0 : w.cell? ⟨p, 0, none⟩ = some (.slice none 0 0) := hb.cell 0
    have c1 : w.cell? ⟨p, 1, none⟩ = some (.slice A n c) := hb.cell 1
    have e1 : IntKind.i64.wrap (n : Int) = n := IntWalk.i64_in _ (by omega)
    go_enter Tryz.func252, Tryz.ntmps252
    go_wp2_with fail
    go_quiet (fail)
    go_wp2
    go_ret
    exact ⟨by simp, (Keeps.refl _ _).drewN _⟩

/-- What joined answers. -/
def JoinedTI (F : Nat → Prop) (h : Nat) (a b : Tr Int h) (t : Nat) (root : Value) (w : World) (e : Ending) (w' : World) : Prop :=
  ∃ A m c, e = .returned (.slice A m c) ∧ OwnTI (OrNew F w) w' w.heap.size h A m c (Tr.join h a b) ∧ HdTI w' t root ∧ Keeps [t] w w'

theorem joinSTI {t pa pb ia ib : Nat} {u v : Value} {w : World} (ha : t ≠ pa) (hb : t ≠ pb) (ca : w.cell? ⟨pa, ia, none⟩ = some u) (cb : w.cell? ⟨pb, ib, none⟩ = some v) {w' : World} (k : Keeps [t] w w') :
    w'.cell? ⟨pa, ia, none⟩ = some u ∧ w'.cell? ⟨pb, ib, none⟩ = some v ∧ Keeps [t] w w' := ⟨k.cell ca (by simp; omega), k.cell cb (by simp; omega), k⟩

set_option maxRecDepth 100000 in
set_option maxHeartbeats 1600000 in
theorem joined_leafTI (pa pb : Nat) (a b : Tr Int 0) (t : Nat) (root : Value) (F : Nat → Prop) (w : World) (hd : HdTI w t root) (ha : NodeIn LTI F w 0 pa a) (hb : NodeIn LTI F w 0 pb b) (ha8 : (Tr.els a).length ≤ 8) (hb8 : (Tr.els b).length ≤ 8) :
    Calls Tryz.prog 253 #[ptr t, ptr pa, ptr pb] w (JoinedTI F 0 a b t root w) := by
  have htags := hd.noTags
  obtain ⟨A1, c1, hb1, hr1, hc1, _, _⟩ := ha
  obtain ⟨A2, c2, hb2, hr2, hc2, _, _⟩ := hb
  generalize hl1 : (Tr.els a).length = n1 at *
  generalize hl2 : (Tr.els b).length = n2 at *
  have ca : w.cell? ⟨pa, 0, none⟩ = some (.slice A1 n1 c1) := hb1.cell 0
  have ck : w.cell? ⟨pa, 1, none⟩ = some (.slice none 0 0) := hb1.cell 1
  have cb : w.cell? ⟨pb, 0, none⟩ = some (.slice A2 n2 c2) := hb2.cell 0
  have Hl1 := Lib.hid hl1
  have Hl2 := Lib.hid hl2
  have Hr1 := Lib.hid hr1
  have Hr2 := Lib.hid hr2
  have hta : t ≠ pa := by rintro rfl; exact (htags _ (by simp)) _ _ _ hb1 (by simp [LTI])
  have htb : t ≠ pb := by rintro rfl; exact (htags _ (by simp)) _ _ _ hb2 (by simp [LTI])
  clear hl1 hl2 hr1 hr2 htags
  go_enter Tryz.func253, Tryz.ntmps253
  go_wp2_with fail
  go_region_held3 (fun w' => w'.cell? ⟨pa, 0, none⟩ = some (.slice A1 n1 c1) ∧ w'.cell? ⟨pb, 0, none⟩ = some (.slice A2 n2 c2) ∧ Keeps [t] w w')
    (first
      | exact joinSTI hta htb ca cb (Keeps.refl _ _).drew
      | exact joinSTI hta htb ca cb ((Keeps.refl _ _).alloc _).drew
      | exact joinSTI hta htb ca cb K03
      | exact joinSTI hta htb ca cb (K01.mono (by simp)))
    (first
      | (go_at_call 282
         refine (concatInt w.heap.size 2 A1 A2 n1 c1 n2 c2 (LTI.cells (Tr.els a)) (LTI.cells (Tr.els b)) _ (Blk.new _ _ _).drew (Hr1.out.alloc _).drew (Hr2.out.alloc _).drew (by omega) (by omega)).mono ?_
         rintro e w1 ⟨A3, c3, rfl, hown1, hk1⟩
         have K01 : Keeps [] w w1 := ((Keeps.refl [] w).alloc _).drew.trans_nil hk1)
      | (go_at_call 243
         rw [← LTI.cells_append] at hown1
         refine (leavesTI t root A3 (n1 + n2) c3 (Tr.els a ++ Tr.els b) _ (hd.keep K01 (by simp)) (own_rd hown1 (LTI.cells1 _)) (by rw [List.length_append, Hl1.out, Hl2.out]) (own_len hown1).2 (F := OrNew F w) (InF.of_own hown1 fun b hb => .inr (by have : w.heap.size ≤ (w.alloc (.cells #[.slice A1 n1 c1, .slice A2 n2 c2] 74)).drew.heap.size := ((Keeps.refl [] w).alloc _).drew.size; omega)) (by omega)).mono ?_
         rintro e w3 ⟨A4, m4, c4, rfl, hown3, hd3, hk3⟩
         have K03 : Keeps [t] w w3 := (K01.mono (by simp)).trans hk3 (fun b hb => .inl hb)))
  go_wp2
  go_ret
  obtain ⟨ps, o1, o2, o3⟩ := hown3
  have s1 := K01.size
  refine ⟨A4, m4, c4, rfl, ⟨ps, own_weaken o1 s1, o2, o3.wider ?_⟩, hd3, K03⟩
  intro b hb
  rcases hb with (h | h) | h
  · exact .inl h
  · exact .inr h
  · exact .inr (by omega)

set_option maxRecDepth 100000 in
set_option maxHeartbeats 1600000 in
theorem joined_innerTI (h pa pb : Nat) (a b : Tr Int (h + 1)) (t : Nat) (root : Value) (F : Nat → Prop) (w : World) (hd : HdTI w t root) (ha : NodeIn LTI F w (h + 1) pa a) (hb : NodeIn LTI F w (h + 1) pb b) (ha0 : 0 < (Tr.kids a).length) (ha8 : (Tr.kids a).length ≤ 8) (hb8 : (Tr.kids b).length ≤ 8)
    (hB : ((Tr.kids a ++ Tr.kids b).flatMap (Tr.flat h)).length ≤ 1000000) :
    Calls Tryz.prog 253 #[ptr t, ptr pa, ptr pb] w (JoinedTI F (h + 1) a b t root w) := by
  have htags := hd.noTags
  obtain ⟨A1, c1, ps1, hb1, hr1, hc1, hn1, _, _⟩ := ha
  obtain ⟨A2, c2, ps2, hb2, hr2, hc2, hn2, _, _⟩ := hb
  generalize hl1 : (Tr.kids a).length = n1 at *
  generalize hl2 : (Tr.kids b).length = n2 at *
  have ca : w.cell? ⟨pa, 1, none⟩ = some (.slice A1 n1 c1) := hb1.cell 1
  have cb : w.cell? ⟨pb, 1, none⟩ = some (.slice A2 n2 c2) := hb2.cell 1
  have Hl1 := Lib.hid hl1
  have Hl2 := Lib.hid hl2
  have Hr1 := Lib.hid hr1
  have Hr2 := Lib.hid hr2
  have Hn1 := Lib.hid hn1
  have Hn2 := Lib.hid hn2
  have HB := Lib.hid hB
  have hta : t ≠ pa := by rintro rfl; exact (htags _ (by simp)) _ _ _ hb1 (by simp [LTI])
  have htb : t ≠ pb := by rintro rfl; exact (htags _ (by simp)) _ _ _ hb2 (by simp [LTI])
  have z0 : (0 : Int) < n1 := by omega
  clear hl1 hl2 hr1 hr2 htags hB hn1 hn2
  go_enter Tryz.func253, Tryz.ntmps253
  go_wp2_with fail
  go_region_held3 (fun w' => w'.cell? ⟨pa, 1, none⟩ = some (.slice A1 n1 c1) ∧ w'.cell? ⟨pb, 1, none⟩ = some (.slice A2 n2 c2) ∧ Keeps [t] w w')
    (first
      | exact joinSTI hta htb ca cb (Keeps.refl _ _).drew
      | exact joinSTI hta htb ca cb ((Keeps.refl _ _).alloc _).drew
      | exact joinSTI hta htb ca cb K03
      | exact joinSTI hta htb ca cb (K01.mono (by simp)))
    (first
      | (go_at_call 281
         refine (concatNd w.heap.size 2 A1 A2 n1 c1 n2 c2 (List.map ptr ps1) (List.map ptr ps2) _ (Blk.new _ _ _).drew (Hr1.out.alloc _).drew (Hr2.out.alloc _).drew (by omega) (by omega)).mono ?_
         rintro e w1 ⟨A3, c3, rfl, hown1, hk1⟩
         have K01 : Keeps [] w w1 := ((Keeps.refl [] w).alloc _).drew.trans_nil hk1)
      | (go_at_call 245
         rw [← List.map_append] at hown1
         refine (innersTI t root A3 (n1 + n2) c3 h (ps1 ++ ps2) (Tr.kids a ++ Tr.kids b) _ (hd.keep K01 (by simp)) (own_rd hown1 (Cells1.ptrs _)) (F := OrNew F w) ((Hn1.out.append Hn2.out).keep K01 (by simp) |>.wider fun _ h => .inl h) (by rw [List.length_append, Hl1.out, Hl2.out]) (own_len hown1).2 HB.out (InF.of_own hown1 fun b hb => .inr (by have : w.heap.size ≤ (w.alloc (.cells #[.slice A1 n1 c1, .slice A2 n2 c2] 323)).drew.heap.size := ((Keeps.refl [] w).alloc _).drew.size; omega)) (by omega)).mono ?_
         rintro e w3 ⟨A4, m4, c4, rfl, hown3, hd3, hk3⟩
         have K03 : Keeps [t] w w3 := (K01.mono (by simp)).trans hk3 (fun b hb => .inl hb)))
  go_wp2
  go_ret
  obtain ⟨ps, o1, o2, o3⟩ := hown3
  have s1 := K01.size
  refine ⟨A4, m4, c4, rfl, ⟨ps, own_weaken o1 s1, o2, o3.wider ?_⟩, hd3, K03⟩
  intro b hb
  rcases hb with (h | h) | h
  · exact .inl h
  · exact .inr h
  · exact .inr (by omega)

theorem joinedTI (h la lb pa pb : Nat) (a b : Tr Int h) (t : Nat) (root : Value) (F : Nat → Prop) (w : World) (hd : HdTI w t root) (ha : NodeIn LTI F w h pa a) (hb : NodeIn LTI F w h pb b) (oa : Tr.Ok la h a) (ob : Tr.Ok lb h b) (h1 : 1 ≤ la)
    (hB : (Tr.flat h a).length + (Tr.flat h b).length ≤ 1000000) :
    Calls Tryz.prog 253 #[ptr t, ptr pa, ptr pb] w (JoinedTI F h a b t root w) := by
  cases h with
  | zero => exact joined_leafTI pa pb a b t root F w hd ha hb oa.2 ob.2
  | succ h => exact joined_innerTI h pa pb a b t root F w hd ha hb (Nat.lt_of_lt_of_le h1 oa.1) oa.2.1 ob.2.1 (by rw [List.flatMap_append, List.length_append]; exact hB)

/-- What erased answers. -/
def ErasedTI (F : Nat → Prop) (lo h : Nat) (tr : Tr Int h) (i t : Nat) (root : Value) (w : World) (e : Ending) (w' : World) : Prop :=
  ∃ q tr', e = .returned (ptr q) ∧ NodeIn LTI (OrNew F w) w' h q tr' ∧ Tr.Era lo h tr i tr' ∧ HdTI w' t root ∧ Keeps [t] w w'

theorem cells_delTI (l : List Int) (i : Nat) : (LTI.cells l).take (i) ++ (LTI.cells l).drop ((i + 1)) = LTI.cells (l.take i ++ l.drop (i + 1)) := by
  rw [cut_takeTI, cut_dropTI, ← LTI.cells_append]

set_option maxRecDepth 100000 in
set_option maxHeartbeats 1600000 in
theorem erased_leafTI (lo p i : Nat) (tr : Tr Int 0) (t : Nat) (root : Value) (F : Nat → Prop) (w : World) (hd : HdTI w t root) (hn : NodeIn LTI F w 0 p tr) (ho : Tr.Ok lo 0 tr) (hi : i < (Tr.els tr).length) :
    Calls Tryz.prog 215 #[ptr t, ptr p, .int .i64 i] w (ErasedTI F lo 0 tr i t root w) := by
  obtain ⟨A, c, hb, hr, hc, _, _⟩ := hn
  have h8 : (Tr.els tr).length ≤ 8 := ho.2
  generalize hl : (Tr.els tr).length = n at *
  obtain ⟨T, hT⟩ : ∃ T, T + 1 = n := ⟨n - 1, by omega⟩
  have Hl := Lib.hid hl
  have Ho := Lib.hid ho
  have HT := Lib.hid hT
  clear hl ho hT
  have htl := hd.lt
  have c0 : w.cell? ⟨p, 0, none⟩ = some (.slice A n c) := hb.cell 0
  have c1 : w.cell? ⟨p, 1, none⟩ = some (.slice none 0 0) := hb.cell 1
  have hx1 : Cells1 (LTI.cells (Tr.els tr)) := LTI.cells1 _
  have si : IntKind.i64.wrap ((i : Int) + 1) = (i : Int) + 1 := IntWalk.i64_in _ (by omega)
  go_enter Tryz.func215, Tryz.ntmps215
  go_wp2_with (first
    | (go_at_call 142; refine (cloneInt A n c _ _ hr (by omega)).mono ?_; rintro e w1 ⟨A1, c1', rfl, hown1, hk1⟩; have s1 := hk1.size)
    | (go_at_call 251
       refine (deleteInt w.heap.size A1 n c1' i T (LTI.cells (Tr.els tr)) _ hown1 hx1 (by omega) hi HT.out).mono ?_
       rintro e w2 ⟨A2, c2, rfl, hown2, hk2⟩
       have s2 := hk2.size
       have hk12 : Keeps [] w w2 := hk1.trans hk2 (fun b hb => .inr (own_base hown1 hb).1)
       rw [cells_delTI] at hown2)
    | (go_at_call 206
       refine (leafRawTI t root A2 T c2 _ (hd.keep hk12 (by simp))).mono ?_
       rintro e w3 ⟨q, rfl, hq, hb3, hd3, hk3⟩))
  go_ret
  have htags := hd.noTags
  have s12 := hk12.size
  have hT := HT.out
  have hl := Hl.out
  refine ⟨q, _, rfl, node_leafTI hb3 ((own_rd hown2 (LTI.cells1 _)).keep hk3 ?_) ?_ (own_len hown2).2 (.inr (by omega)) (InF.of_own hown2 fun b hb => .inr hb), Tr.era_leaf Ho.out (by rw [hl]; exact hi), hd3, (hk12.mono (by simp)).trans hk3 (fun b hb => .inl hb)⟩
  · intro b hb'
    rw [List.mem_singleton.1 hb']
    exact ((hd.keep hk12 (by simp)).noTag).sub (by simp [LTI])
  · simp only [List.length_append, List.length_take, List.length_drop]
    omega
end Go.Proofs.YtkngjgblfappoaaGreatDoor
