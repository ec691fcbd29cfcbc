/-
  The counted tree: inserted: what a node is with one element more.
-/
import Derived.Test.YtkngjgblfappoaaGreatDoorTreeDTI
import Derived.Test.YtkngjgblfappoaaGreatDoorSlCInt
import Derived.Test.YtkngjgblfappoaaGreatDoorSlFNd
namespace Go.Proofs.YtkngjgblfappoaaGreatDoor
open Go.RowKit (Below intOf Hid)

theorem cells_oneTI (x : Int) : LTI.cells [x] = [(.int .i64 x)] := rfl
theorem cells_insTI (l : List Int) (i : Nat) (x : Int) : (LTI.cells l).take (i) ++ [(.int .i64 x)] ++ (LTI.cells l).drop (i) = LTI.cells (l.take i ++ x :: l.drop i) := by
  rw [cut_takeTI, cut_dropTI, ← cells_oneTI, ← LTI.cells_append, ← LTI.cells_append]
  simp

/-- What inserted answers. -/
def InsertedTI (F : Nat → Prop) (lo h : Nat) (tr : Tr Int h) (i : Nat) (x : Int) (t : Nat) (root : Value) (w : World) (e : Ending) (w' : World) : Prop :=
  ∃ A m c ts, e = .returned (.slice A m c) ∧ OwnTI (OrNew F w) w' w.heap.size h A m c ts ∧ Tr.Ins lo h tr i x ts ∧ HdTI w' t root ∧ Keeps [t] w w'

set_option maxRecDepth 100000 in
set_option maxHeartbeats 1600000 in
theorem inserted_leafTI (lo p i : Nat) (tr : Tr Int 0) (x : Int) (t : Nat) (root : Value) (F : Nat → Prop) (w : World) (hd : HdTI w t root) (hn : NodeIn LTI F w 0 p tr) (ho : Tr.Ok lo 0 tr) (hi : i ≤ (Tr.els tr).length) :
    Calls Tryz.prog 207 #[ptr t, ptr p, .int .i64 i, (.int .i64 x)] w (InsertedTI F lo 0 tr i x t root w) := by
  obtain ⟨A, c, hb, hr, hc, _, _⟩ := hn
  have h8 : (Tr.els tr).length ≤ 8 := ho.2
  generalize hl : (Tr.els tr).length = n at *
  have Hl := Lib.hid hl
  have Ho := Lib.hid ho
  clear hl ho
  have htl := hd.lt
  have c0 : w.cell? ⟨p, 0, none⟩ = some (.slice A n c) := hb.cell 0
  have c1 : w.cell? ⟨p, 1, none⟩ = some (.slice none 0 0) := hb.cell 1
  have hx1 : Cells1 (LTI.cells (Tr.els tr)) := LTI.cells1 _
  go_enter Tryz.func207, Tryz.ntmps207
  go_wp2_with (first
    | (go_at_call 142; refine (cloneInt A n c _ _ hr (by omega)).mono ?_; rintro e w1 ⟨A1, c1', rfl, hown1, hk1⟩; have s1 := hk1.size)
    | (go_at_call 156
       refine (insertInt w.heap.size A1 n c1' i (LTI.cells (Tr.els tr)) w1.heap.size 1 [(.int .i64 x)] _ (hown1.alloc _) (by simp; omega) hx1 (own_rd (own_new (base := 0) (k := 1) (Nat.zero_le _) (by decide) (by simp)) (by rw [← cells_oneTI]; exact LTI.cells1 _)) (fun hm => by have := (own_base hown1 hm).2; omega) (by omega) hi).mono ?_
       rintro e w2 ⟨A2, c2, rfl, hown2, hk2⟩
       have s2 := hk2.size
       have hk12 : Keeps [] w w2 := (hk1.alloc _).trans hk2 (fun b hb => .inr (own_base hown1 hb).1))
    | (go_at_call 243
       rw [cells_insTI] at hown2
       refine (leavesTI t root A2 (n + 1) c2 ((Tr.els tr).take i ++ x :: (Tr.els tr).drop i) _ (hd.keep hk12 (by simp)) (own_rd hown2 (LTI.cells1 _)) (by have := Hl.out; simp; omega) (own_len hown2).2 (F := OrNew F w) (InF.of_own hown2 fun b hb => .inr hb) (by omega)).mono ?_
       rintro e w3 ⟨A3, m3, c3, rfl, hown3, hd3, hk3⟩))
  go_ret
  obtain ⟨ps, o1, o2, o3⟩ := hown3
  have s12 := hk12.size
  refine ⟨A3, m3, c3, _, rfl, ⟨ps, own_weaken o1 s12, o2, o3.wider ?_⟩, Tr.ins_leaf Ho.out (by rw [Hl.out]; exact hi) x, hd3, (hk12.mono (by simp)).trans hk3 (fun b hb => .inl hb)⟩
  intro b hb
  rcases hb with (h | h) | h
  · exact .inl h
  · exact .inr h
  · exact .inr (by omega)

theorem ptrs_ins (ps qs : List Nat) (k : Nat) : (List.map ptr ps).take k ++ List.map ptr qs ++ (List.map ptr ps).drop (k + 1) = List.map ptr (ps.take k ++ qs ++ ps.drop (k + 1)) := by
  simp [List.map_take, List.map_drop]
theorem flat_swap {h : Nat} {ks ts : List (Tr Int h)} {k : Nat} {u : Tr Int h} (hu : ks[k]? = some u) (N : Nat) (h1 : (ks.flatMap (Tr.flat h)).length ≤ N) (h2 : (ts.flatMap (Tr.flat h)).length ≤ (Tr.flat h u).length + 1) :
    ((ks.take k ++ ts ++ ks.drop (k + 1)).flatMap (Tr.flat h)).length ≤ N + 1 := by
  rw [Tr.flatMap_at (Tr.flat h) ks k u hu] at h1
  simp only [List.flatMap_append, List.length_append] at h1 ⊢
  omega

/-- What stands while inserted asks: a node's cells, and the tree's struct. -/
structure InsSTI (t : Nat) (root : Value) (w w' : World) : Prop where
  k : Keeps [t] w w'
  d : HdTI w' t root
theorem insSTI {t p g off k q n c : Nat} {root : Value} {w : World} (ht : t ≠ p) (hg : t ≠ g) (c1 : w.cell? ⟨p, 1, none⟩ = some (.slice (some ⟨g, off, none⟩) n c)) (c2 : w.cell? ⟨g, off + k, none⟩ = some (ptr q)) {w' : World} (hS : InsSTI t root w w') :
    w'.cell? ⟨p, 1, none⟩ = some (.slice (some ⟨g, off, none⟩) n c) ∧ w'.cell? ⟨g, off + k, none⟩ = some (ptr q) ∧ InsSTI t root w w' := by
  refine ⟨?_, ?_, hS⟩
  · rw [World.cell?_of_block (w := w) (hS.k.block p (World.block_lt_of_cell? w _ c1) (by simp; omega))]; exact c1
  · rw [World.cell?_of_block (w := w) (hS.k.block g (World.block_lt_of_cell? w _ c2) (by simp; omega))]; exact c2

set_option maxRecDepth 100000 in
set_option maxHeartbeats 3200000 in
theorem inserted_innerTI (h lo p i : Nat) (tr : Tr Int (h + 1)) (x : Int) (t : Nat) (root : Value) (F : Nat → Prop) (w : World) (hd : HdTI w t root) (hn : NodeIn LTI F w (h + 1) p tr) (ho : Tr.Ok lo (h + 1) tr) (h0 : 0 < (Tr.kids tr).length)
    (hi : i ≤ (Tr.flat (h + 1) tr).length) (hB : (Tr.flat (h + 1) tr).length ≤ 900000)
    (ih : Hid (∀ (q j : Nat) (u : Tr Int h) (G : Nat → Prop) (w1 : World), HdTI w1 t root → NodeIn LTI G w1 h q u → Tr.Ok 4 h u → j ≤ (Tr.flat h u).length → (Tr.flat h u).length ≤ 900000 →
      Calls Tryz.prog 207 #[ptr t, ptr q, .int .i64 j, (.int .i64 x)] w1 (InsertedTI G 4 h u j x t root w1))) :
    Calls Tryz.prog 207 #[ptr t, ptr p, .int .i64 i, (.int .i64 x)] w (InsertedTI F lo (h + 1) tr i x t root w) := by
  have h8 : (Tr.kids tr).length ≤ 8 := ho.2.1
  have hdown := downTI p i h tr w hn h0 (by omega) (by omega)
  have htags := hd.noTags
  obtain ⟨A, c, ps, hb, hr, hc, ha, hpF, hAF⟩ := hn
  have hfl : Tr.flat (h + 1) tr = (Tr.kids tr).flatMap (Tr.flat h) := rfl
  have hps : ps.length = (Tr.kids tr).length := ha.1
  generalize hl : (Tr.kids tr).length = n at *
  have htl := hd.lt
  have c1 : w.cell? ⟨p, 1, none⟩ = some (.slice A n c) := hb.cell 1
  obtain ⟨g, off, rfl, hgl, hcell⟩ := hr.addr h0
  have htp : t ≠ p := by rintro rfl; exact (htags _ (by simp)) _ _ _ hb (by simp)
  have htg : t ≠ g := by
    obtain ⟨cur, hg, _⟩ := hr.blk h0
    rintro rfl; exact (htags _ (by simp)) _ _ _ hg (by simp [LTI])
  have Hfl := Lib.hid hfl
  have Hcell := Lib.hid hcell
  have Hps := Lib.hid hps
  have Hl := Lib.hid hl
  have Ho := Lib.hid ho
  have Ha := Lib.hid ha
  have Hr := Lib.hid hr
  have HB := Lib.hid hB
  clear hfl hcell hl ho ha hr htags hB hps
  have hz : ((n : Int) == 0) = false := by simp; omega
  go_enter Tryz.func207, Tryz.ntmps207
  go_wp2_with (go_at_call 244; refine hdown.mono ?_; rintro e w1 ⟨⟨k, j, rfl, hk, hkj, hlast⟩, rfl⟩; rw [Hl.out] at hk)
  obtain ⟨u, hu⟩ : ∃ u, (Tr.kids tr)[k]? = some u := ⟨_, List.getElem?_eq_getElem (by rw [Hl.out]; exact hk)⟩
  obtain ⟨q, hq, hnq⟩ := Ha.out.get hu
  have c2 : w.cell? ⟨g, off + k, none⟩ = some (ptr q) := Hcell.out k _ (by rw [List.getElem?_map, hq]; rfl)
  have hju : j ≤ (Tr.flat h u).length := by
    by_cases hk1 : k + 1 < (Tr.kids tr).length
    · exact Nat.le_of_lt (hlast hk1 u hu)
    · have e1 := cntTI_succ hu
      have e2 := cntTI_all (Tr.kids tr) (k := k + 1) (by omega)
      have e3 := Hfl.out
      rw [e3] at hi
      omega
  have hub : (Tr.flat h u).length ≤ 900000 := by
    have e1 := cntTI_succ hu
    have e2 := cntTI_le (Tr.kids tr) (k + 1)
    have e3 := HB.out
    rw [Hfl.out] at e3
    omega
  have hok : Tr.Ok 4 h u := Ho.out.2.2 u (List.mem_of_getElem? hu)
  have Hu := Lib.hid hu
  have Hq := Lib.hid hq
  have Hnq := Lib.hid hnq
  have Hkj := Lib.hid hkj
  have Hok := Lib.hid hok
  have Hju := Lib.hid hju
  have Hub := Lib.hid hub
  clear hu hq hnq hkj hlast hi hok hju hub
  have k0 : (0 : Int) ≤ k := by omega
  have k1 : (k : Int) < n := by omega
  have sk : IntKind.i64.wrap ((k : Int) + 1) = (k : Int) + 1 := IntWalk.i64_in _ (by omega)
  have HS : InsSTI t root w w := ⟨Keeps.refl _ _, hd⟩
  go_region_held3 (fun w' => w'.cell? ⟨p, 1, none⟩ = some (.slice (some ⟨g, off, none⟩) n c) ∧ w'.cell? ⟨g, off + k, none⟩ = some (ptr q) ∧ InsSTI t root w w')
    (first
      | exact insSTI htp htg c1 c2 ⟨K04, hd4⟩
      | exact insSTI htp htg c1 c2 ⟨K03, hd3⟩
      | exact insSTI htp htg c1 c2 ⟨K02, hd2⟩
      | exact insSTI htp htg c1 c2 ⟨K01, hd1⟩
      | exact insSTI htp htg c1 c2 ⟨(Keeps.refl _ _).drew, hd⟩)
    (first
      | (go_at_call 247
         refine (cloneNd (some ⟨g, off, none⟩) n c _ _ Hr.out.drew (by omega)).mono ?_
         rintro e w1 ⟨A1, c1', rfl, hown1, hk1⟩
         have s1 : w.heap.size ≤ w1.heap.size := hk1.size
         have K01 : Keeps [t] w w1 := (Keeps.of_drew hk1).mono (by simp)
         have hd1 : HdTI w1 t root := hd.keep (Keeps.of_drew hk1) (by simp)
         have hob1 : ∀ b, b ∈ obs (.slice A1 n c1') → w.heap.size ≤ b ∧ b < w1.heap.size := fun b hb => own_base hown1 hb)
      | (go_at_call 207
         refine (ih.out q j u (fun b => F b ∧ b < w.heap.size) _ hd1 (Hnq.out.there.keep (Keeps.of_drew hk1) (by simp)) Hok.out Hju.out Hub.out).mono ?_
         rintro e w2 ⟨A2, m2, c2', ts, rfl, ⟨qs, hown2, hlen2, hall2⟩, hins, hd2, hk2⟩
         have s2 : w1.heap.size ≤ w2.heap.size := hk2.size
         have K02 : Keeps [t] w w2 := K01.trans hk2 (fun b hb => .inl hb)
         have hm2 : 1 ≤ m2 ∧ m2 ≤ 2 := by rcases hins.ok with ⟨a, _⟩ | ⟨a, _⟩ <;> omega
         obtain ⟨gv, cap2, cur2, hA2, hgv, _⟩ := own_blk hown2 (by omega)
         obtain ⟨rfl, hc2⟩ : A2 = some ⟨gv, 0, none⟩ ∧ c2' = cap2 := by injection hA2 with h1 h2 h3; exact ⟨h1, h3⟩
         have hown12 := own_keep hown1 hk2 (fun b hb h => by rw [List.mem_singleton.1 hb] at h; have := (hob1 t (by simp [obs, h])).1; omega)
         have hlq : qs.length = m2 := by rw [hall2.1, hlen2])
      | (go_at_call 246
         refine (replaceNd w.heap.size A1 n c1' k (k + 1) m2 (n - 1 + m2) (List.map ptr ps) gv c2' (List.map ptr qs) _ hown12 (by omega) (Cells1.ptrs _) (own_rd hown2 (Cells1.ptrs _)) (fun hm => by have := (hob1 gv hm).2; omega) (by omega) (by omega) (by omega) (by omega) (by omega) (by omega)).mono ?_
         rintro e w3 ⟨A3, c3, rfl, hown3, hk3⟩
         have s3 : w2.heap.size ≤ w3.heap.size := hk3.size
         have K03 : Keeps [t] w w3 := K02.trans hk3 (fun b hb => .inr (hob1 b hb).1)
         have hd3 : HdTI w3 t root := hd2.keep hk3 (fun h => by have := (hob1 t h).1; omega))
      | (go_at_call 245
         rw [ptrs_ins] at hown3
         refine (innersTI t root A3 (n - 1 + m2) c3 h (ps.take k ++ qs ++ ps.drop (k + 1)) ((Tr.kids tr).take k ++ ts ++ (Tr.kids tr).drop (k + 1)) _ hd3 (own_rd hown3 (Cells1.ptrs _)) (F := OrNew F w) ?_ ?_ (own_len hown3).2 ?_ (InF.of_own hown3 fun b hb => .inr hb) (by omega)).mono ?_
         · refine (((Ha.out.take k).keep K03 hd.noTags).wider fun _ h => .inl h).append ((hall2.keepF hk3 fun b hb => .inr ?_).wider ?_) |>.append (((Ha.out.drop (k + 1)).keep K03 hd.noTags).wider fun _ h => .inl h)
           · intro hf
             have h1 := hob1 b hb
             rcases hf with ⟨_, hf⟩ | hf <;> omega
           · intro b hf
             rcases hf with ⟨hf, _⟩ | hf
             · exact .inl hf
             · exact .inr (by omega)
         · have := Hl.out
           simp only [List.length_append, List.length_take, List.length_drop]
           omega
         · have e := congrArg List.length hins.flat_eq
           have hj := Hju.out
           simp only [List.length_append, List.length_take, List.length_cons, List.length_drop] at e
           have hB := HB.out
           rw [Hfl.out] at hB
           have := flat_swap (ts := ts) Hu.out 900000 hB (by omega)
           omega
         rintro e w4 ⟨A4, m4, c4, rfl, hown4, hd4, hk4⟩
         have K04 : Keeps [t] w w4 := K03.trans hk4 (fun b hb => .inl hb)))
  go_wp2
  go_ret
  obtain ⟨rs, o1, o2, o3⟩ := hown4
  refine ⟨A4, m4, c4, _, rfl, ⟨rs, own_weaken o1 (by omega), o2, o3.wider ?_⟩, Tr.ins_inner Ho.out Hu.out hins Hju.out Hkj.out, hd4, K04⟩
  intro b hb
  rcases hb with (h | h) | h
  · exact .inl h
  · exact .inr h
  · exact .inr (by omega)

theorem insertedTI (x : Int) (t : Nat) (root : Value) : ∀ (h lo p i : Nat) (tr : Tr Int h) (F : Nat → Prop) (w : World), 1 ≤ lo → HdTI w t root → NodeIn LTI F w h p tr → Tr.Ok lo h tr → i ≤ (Tr.flat h tr).length → (Tr.flat h tr).length ≤ 900000 →
    Calls Tryz.prog 207 #[ptr t, ptr p, .int .i64 i, (.int .i64 x)] w (InsertedTI F lo h tr i x t root w)
  | 0, lo, p, i, tr, F, w, _, hd, hn, ho, hi, _ => inserted_leafTI lo p i tr x t root F w hd hn ho hi
  | h + 1, lo, p, i, tr, F, w, hlo, hd, hn, ho, hi, hB => inserted_innerTI h lo p i tr x t root F w hd hn ho (Nat.lt_of_lt_of_le hlo ho.1) hi hB
      (fun q j u G w1 hd1 hn1 ho1 hj hB1 => insertedTI x t root h 4 q j u G w1 (by omega) hd1 hn1 ho1 hj hB1)
end Go.Proofs.YtkngjgblfappoaaGreatDoor
