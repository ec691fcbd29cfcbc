/-
  The counted tree: InsertAt.
-/
import Derived.Test.YtkngjgblfappoaaGreatDoorTreeETI
namespace Go.Proofs.YtkngjgblfappoaaGreatDoor
open Go.RowKit (Below intOf Hid)

theorem OwnTI.open {F : Nat → Prop} {w : World} {B h m c : Nat} {A : Option Addr} {ts : List (Tr Int h)} (ho : OwnTI F w B h A m c ts) (hm : 0 < m) :
    ∃ g qs, A = some ⟨g, 0, none⟩ ∧ B ≤ g ∧ w.ownsRow B 248 1 (.slice A m c) m (List.map ptr qs) ∧ ts.length = m ∧ qs.length = m ∧ All2 (NodeIn LTI F w h) qs ts ∧ ∀ (j q : Nat), qs[j]? = some q → w.cell? ⟨g, j, none⟩ = some (ptr q) := by
  obtain ⟨qs, hown, hlen, hall⟩ := ho
  obtain ⟨g, cap, cur, hv, hg, hb, _, _, hcl, hx⟩ := own_blk hown hm
  have hA : A = some ⟨g, 0, none⟩ := by injection hv
  refine ⟨g, qs, hA, hg, hown, hlen, by rw [hall.1, hlen], hall, fun j q hj => ?_⟩
  rw [hb.cell j]
  have h1 : (List.map ptr qs)[j]? = some (ptr q) := by rw [List.getElem?_map, hj]; rfl
  rw [← hx, List.getElem?_take] at h1
  split at h1
  · simpa using h1
  · cases h1
theorem getD_some {l : List Nat} {i : Nat} (h : i < l.length) : l[i]? = some (l.getD i 0) := by
  rw [List.getD_eq_getElem?_getD, List.getElem?_eq_getElem h]; rfl

theorem HdTI.store {w : World} {t : Nat} {root v : Value} (h : HdTI w t root) : HdTI (w.setCell ⟨t, 0, none⟩ v) t v := by
  obtain ⟨wr, hb⟩ := h; exact ⟨wr, hb.set 0 v⟩

set_option maxRecDepth 100000 in
set_option maxHeartbeats 1600000 in
theorem insertAt_nilTI (t : Nat) (x : Int) (w : World) (hd : HdTI w t (.pointer none)) :
    Calls Tryz.prog 160 #[ptr t, .int .i64 0, (.int .i64 x)] w fun e w' => e = .returned (.int .i64 0) ∧ TreeTI w' t [x] ∧ Keeps [t] w w' := by
  have ht : TreeTI w t [] := treeTI_hd.2 ⟨_, hd, .inl ⟨rfl, rfl⟩⟩
  have r0 := hd.root
  have hb : decide ((0 : Int) < 0) = false := rfl
  go_enter Tryz.func160, Tryz.ntmps160
  go_wp2_with (first
    | (go_at_call 183; refine (lenTI t [] w ht).mono ?_; rintro e w1 ⟨rfl, rfl⟩)
    | (go_at_call 206
       refine (leafRawTI t _ (some ⟨w.heap.size, 0, none⟩) 1 1 _ (hd.keep ((Keeps.refl [] w).alloc _) (by simp))).mono ?_
       rintro e w2 ⟨p, rfl, hp, hn2, hd2, hk2⟩
       have rt2 := hd2.root
       have rf2 := hd2.free 0))
  go_ret
  have hk0 : Keeps [t] w w2 := (((Keeps.refl [] w).alloc _).mono (by simp)).trans hk2 (fun b hb => .inl hb)
  have hks : Keeps [t] w2 (w2.setCell ⟨t, 0, none⟩ (ptr p)) := (Keeps.refl _ _).setCell (.inl (by simp)) _
  have hr2 : Rd w2 2 1 (some ⟨w.heap.size, 0, none⟩) 1 (LTI.cells [x]) := (own_rd (own_new (base := 0) (k := 1) (Nat.zero_le _) (by decide) (by simp)) (LTI.cells1 [x])).keep hk2 (fun b hb => ((hd.keep ((Keeps.refl [] w).alloc _) (by simp)).noTags b hb).sub (by simp [LTI]))
  have hn : NodeAt LTI w2 0 p [x] := node_leafTI hn2 hr2 rfl (Nat.le_refl _) trivial (fun _ _ _ _ => trivial)
  exact ⟨rfl, treeTI_hd.2 ⟨_, hd2.store, .inr ⟨0, p, _, rfl, hn.keep hks hd2.noTags, by simp [Tr.Ok], rfl⟩⟩, hk0.trans hks (fun b hb => .inl hb)⟩

set_option maxRecDepth 100000 in
set_option maxHeartbeats 1600000 in
theorem insertAt_nodeTI (t h p i : Nat) (tr : Tr Int h) (x : Int) (w : World) (hd : HdTI w t (ptr p)) (hn : NodeAt LTI w h p tr) (ho : Tr.Ok (if h = 0 then 1 else 2) h tr) (hi : i ≤ (Tr.flat h tr).length) (hB : (Tr.flat h tr).length ≤ 900000) :
    Calls Tryz.prog 160 #[ptr t, .int .i64 i, (.int .i64 x)] w fun e w' => e = .returned (.int .i64 0) ∧ TreeTI w' t ((Tr.flat h tr).take i ++ x :: (Tr.flat h tr).drop i) ∧ Keeps [t] w w' := by
  have ht : TreeTI w t (Tr.flat h tr) := treeTI_hd.2 ⟨_, hd, .inr ⟨h, p, tr, rfl, hn, ho, rfl⟩⟩
  have hlen := lenTI t _ w ht
  have hins := insertedTI x t (ptr p) h (if h = 0 then 1 else 2) p i tr _ w (by split <;> omega) hd hn ho hi hB
  generalize hl : Tr.flat h tr = l at *
  have Hl := Lib.hid hl
  clear hl ho
  have r0 := hd.root
  have htl := hd.lt
  have i0 : (0 : Int) ≤ i := by omega
  have i1 : (i : Int) ≤ l.length := by omega
  have i2 : decide ((i : Int) < 0) = false := by simp
  have i3 : decide ((l.length : Int) < i) = false := by simp; omega
  have Hins := Lib.hid hins
  clear hins
  go_enter Tryz.func160, Tryz.ntmps160
  go_wp2_with (first
    | (go_at_call 183; refine hlen.mono ?_; rintro e w1 ⟨rfl, rfl⟩))
  refine Hins.out.mono ?_
  rintro e w1 ⟨A, m, c, ts, rfl, hown0, hins, hd1, hk1⟩
  have hm0 : 0 < m := by
    obtain ⟨qs, _, e1, _⟩ := hown0
    rcases hins.ok with ⟨a, _⟩ | ⟨a, _⟩ <;> omega
  obtain ⟨gq, qs, rfl, hgw, hown, hlen1, hlq, hall, hcq⟩ := hown0.open hm0
  have rt1 := hd1.root
  have rf1 := hd1.free 0
  have hs1 := hd1.store (v := ptr (qs.getD 0 0))
  have ht1 := hd1.noTags
  have htl1 := hd1.lt
  have hks : Keeps [t] w1 (w1.setCell ⟨t, 0, none⟩ (ptr (qs.getD 0 0))) := (Keeps.refl _ _).setCell (.inl (by simp)) _
  have rs1 := hs1.root
  have rsf1 := hs1.free 0
  have cq0 : w1.cell? ⟨gq, 0, none⟩ = some (ptr (qs.getD 0 0)) := hcq 0 _ (getD_some (by omega))
  have Hcq := Lib.hid hcq
  have Hi := Lib.hid hins
  have Hlq := Lib.hid hlq
  have Hlen1 := Lib.hid hlen1
  clear hcq hlq hlen1
  have Hok := Lib.hid hins.ok
  clear hins
  have K : Keeps [t] w (w1.setCell ⟨t, 0, none⟩ (ptr (qs.getD 0 0))) := hk1.trans hks (fun b hb => .inl hb)
  have hmm : m = 1 ∨ m = 2 := by
    have := Hlen1.out
    rcases Hok.out with ⟨a, _⟩ | ⟨a, _⟩ <;> omega
  rcases hmm with rfl | rfl
  · go_wp2
    go_ret
    obtain ⟨tr', hts⟩ : ∃ tr', ts = [tr'] := List.length_eq_one_iff.1 Hlen1.out
    subst hts
    obtain ⟨q0, hqs⟩ : ∃ q0, qs = [q0] := List.length_eq_one_iff.1 Hlq.out
    subst hqs
    have hok : Tr.Ok (if h = 0 then 1 else 2) h tr' := by
      rcases Hok.out with ⟨_, b⟩ | ⟨a, _⟩
      · exact b tr' (by simp)
      · simp at a
    have hn1 : NodeAt LTI (w1.setCell ⟨t, 0, none⟩ (ptr q0)) h q0 tr' := ((hall.2 0 q0 tr' rfl rfl).at_).keep hks ht1
    refine ⟨rfl, treeTI_hd.2 ⟨_, hs1, .inr ⟨h, q0, tr', rfl, hn1, hok, ?_⟩⟩, K⟩
    have e := Hi.out.flat_eq
    rw [Hl.out] at e
    rw [← e]
    simp
  · have hsz : (ts.flatMap (Tr.flat h)).length = l.length + 1 := by
      have e := congrArg List.length Hi.out.flat_eq
      rw [Hl.out] at e
      simp only [List.length_append, List.length_take, List.length_cons, List.length_drop] at e
      omega
    have Hsz := Lib.hid hsz
    clear hsz
    go_wp2_with fail
    refine (innerRawTI t _ (some ⟨gq, 0, none⟩) 2 c h qs ts _ hs1 ((own_rd hown (Cells1.ptrs _)).keep hks (fun b hb => (ht1 b hb).sub (by simp [LTI]))) (hall.keep hks ht1) Hlen1.out (by omega) (by rw [Hsz.out]; omega)).mono ?_
    rintro e w3 ⟨p3, rfl, hp3, hb3, hd3, hk3⟩
    have rt3 := hd3.root
    have rf3 := hd3.free 0
    go_wp2
    go_ret
    have hk4 : Keeps [t] w3 (w3.setCell ⟨t, 0, none⟩ (ptr p3)) := (Keeps.refl _ _).setCell (.inl (by simp)) _
    have k14 : Keeps [t] w1 w3 := hks.trans hk3 (fun b hb => .inl hb)
    have hn3 : NodeAt LTI w3 (h + 1) p3 ts := node_innerTI hb3 ((own_rd hown (Cells1.ptrs _)).keep k14 (fun b hb => (ht1 b hb).sub (by simp [LTI]))) Hlen1.out (own_len hown).2 ((hall.keep k14 ht1).wider fun _ _ => trivial) trivial (fun _ _ _ _ => trivial)
    refine ⟨rfl, treeTI_hd.2 ⟨_, hd3.store, .inr ⟨h + 1, p3, ts, rfl, hn3.keep hk4 hd3.noTags, ?_, ?_⟩⟩, (K.trans hk3 (fun b hb => .inl hb)).trans hk4 (fun b hb => .inl hb)⟩
    · have hl2 := Hlen1.out
      have hok : ∀ y ∈ ts, Tr.Ok 4 h y := by
        rcases Hok.out with ⟨a, _⟩ | ⟨_, b⟩
        · omega
        · exact b
      rw [if_neg (by omega)]
      exact ⟨Nat.le_of_eq hl2.symm, by show List.length ts ≤ 8; omega, hok⟩
    · have e := Hi.out.flat_eq
      rw [Hl.out] at e
      rw [← e]
      rfl

theorem insertAtTI (t i : Nat) (l : List Int) (x : Int) (w : World) (ht : TreeTI w t l) (hi : i ≤ l.length) (hB : l.length ≤ 900000) :
    Calls Tryz.prog 160 #[ptr t, .int .i64 i, (.int .i64 x)] w fun e w' => e = .returned (.int .i64 0) ∧ TreeTI w' t (l.take i ++ x :: l.drop i) ∧ Keeps [t] w w' := by
  obtain ⟨root, hd, hr⟩ := treeTI_hd.1 ht
  rcases hr with ⟨rfl, rfl⟩ | ⟨h, p, tr, rfl, hn, ho, rfl⟩
  · obtain rfl : i = 0 := by simpa using hi
    simpa using insertAt_nilTI t x w hd
  · exact insertAt_nodeTI t h p i tr x w hd hn ho hi hB
end Go.Proofs.YtkngjgblfappoaaGreatDoor
