/-
  The counted tree: erased, at an inner node.
-/
import Derived.Test.YtkngjgblfappoaaGreatDoorTreeHTI
import Derived.Test.YtkngjgblfappoaaGreatDoorTreeGTI
import Derived.Lib.MinMax
import Derived.Deep.RegionWith
namespace Go.Proofs.YtkngjgblfappoaaGreatDoor
open Go.RowKit (Below intOf Hid)

theorem ptrs_rep (ps qs : List Nat) (q : Nat) : (List.map ptr ps).take q ++ List.map ptr qs ++ (List.map ptr ps).drop (q + 2) = List.map ptr (ps.take q ++ qs ++ ps.drop (q + 2)) := by
  simp [List.map_take, List.map_drop]

theorem halves_one_two {β : Type} (l : List β) : 1 ≤ (Tr.halves l).length ∧ (Tr.halves l).length ≤ 2 := by
  unfold Tr.halves; split <;> simp
theorem join_one_two {α : Type} : ∀ (h : Nat) (a b : Tr α h), 1 ≤ (Tr.join h a b).length ∧ (Tr.join h a b).length ≤ 2
  | 0, a, b => halves_one_two (Tr.els a ++ Tr.els b)
  | _ + 1, a, b => halves_one_two (Tr.kids a ++ Tr.kids b)
theorem ok_set {α : Type} {h lo : Nat} {ks : List (Tr α h)} (o : Tr.Ok (α := α) lo (h + 1) ks) (k : Nat) {u2 : Tr α h} (hu : Tr.Ok 3 h u2) : ∀ x ∈ ks.set k u2, Tr.Ok 3 h x := by
  intro x hx
  rcases List.mem_or_eq_of_mem_set hx with hm | rfl
  · have h4 := o.2.2 x hm
    exact h4.with (by have := h4.size_ge; omega)
  · exact hu
theorem era_endTI {w W w' : World} {t p h lo i n c : Nat} {root : Value} {F : Nat → Prop} {tr : Tr Int (h + 1)} {A : Option Addr} {ps : List Nat} {ks : List (Tr Int h)} (K : Keeps [t] w W) (hd : HdTI W t root)
    (hown : W.ownsRow w.heap.size 248 1 (.slice A n c) n (List.map ptr ps)) (ha : All2 (NodeIn LTI (OrNew F w) W h) ps ks) (hl : ks.length = n) (hera : Tr.Era lo (h + 1) tr i ks)
    (hp : W.heap.size ≤ p) (hb : Blk w' p 333 #[.slice none 0 0, .slice A n c, .int .i64 (cntTI ks n)]) (hd' : HdTI w' t root) (k' : Keeps [t] W w') :
    ErasedTI F lo (h + 1) tr i t root w (.returned (ptr p)) w' := by
  have htags := hd.noTags
  have s := K.size
  exact ⟨p, ks, rfl, node_innerTI hb ((own_rd hown (Cells1.ptrs _)).keep k' (fun b hb => (htags b hb).sub (by simp [LTI]))) hl (own_len hown).2 (ha.keep k' htags) (.inr (by omega)) (InF.of_own hown fun b hb => .inr hb), hera, hd', K.trans k' (fun b hb => .inl hb)⟩

set_option maxRecDepth 100000 in
set_option maxHeartbeats 3200000 in
theorem erased_innerTI (h lo p i : Nat) (tr : Tr Int (h + 1)) (t : Nat) (root : Value) (F : Nat → Prop) (w : World) (hd : HdTI w t root) (hn : NodeIn LTI F w (h + 1) p tr) (ho : Tr.Ok lo (h + 1) tr) (h0 : 2 ≤ (Tr.kids tr).length)
    (hi : i < (Tr.flat (h + 1) tr).length) (hB : (Tr.flat (h + 1) tr).length ≤ 900000)
    (ih : Hid (∀ (q j : Nat) (u : Tr Int h) (G : Nat → Prop) (w1 : World), HdTI w1 t root → NodeIn LTI G w1 h q u → Tr.Ok 4 h u → j < (Tr.flat h u).length → (Tr.flat h u).length ≤ 900000 →
      Calls Tryz.prog 215 #[ptr t, ptr q, .int .i64 j] w1 (ErasedTI G 4 h u j t root w1))) :
    Calls Tryz.prog 215 #[ptr t, ptr p, .int .i64 i] w (ErasedTI F lo (h + 1) tr i t root w) := by
  have h8 : (Tr.kids tr).length ≤ 8 := ho.2.1
  have hdown := downTI p i h tr w hn (by omega) (by omega) (by omega)
  have htags := hd.noTags
  obtain ⟨A, c, ps, hb, hr, hc, ha, hpF, hAF⟩ := hn
  have hfl : Tr.flat (h + 1) tr = (Tr.kids tr).flatMap (Tr.flat h) := rfl
  have hps : ps.length = (Tr.kids tr).length := ha.1
  generalize hl : (Tr.kids tr).length = n at *
  have htl := hd.lt
  have c1 : w.cell? ⟨p, 1, none⟩ = some (.slice A n c) := hb.cell 1
  obtain ⟨g, off, rfl, hgl, hcell⟩ := hr.addr (by omega)
  have htp : t ≠ p := by rintro rfl; exact (htags _ (by simp)) _ _ _ hb (by simp)
  have htg : t ≠ g := by
    obtain ⟨cur, hg, _⟩ := hr.blk (by omega)
    rintro rfl; exact (htags _ (by simp)) _ _ _ hg (by simp [LTI])
  have Hfl := Lib.hid hfl
  have Hcell := Lib.hid hcell
  have Hps := Lib.hid hps
  have Hl := Lib.hid hl
  have Ho := Lib.hid ho
  have Ha := Lib.hid ha
  have Hr := Lib.hid hr
  have HB := Lib.hid hB
  clear hfl hcell hl ho ha hr htags hB hps
  have hz : ((n : Int) == 0) = false := by simp; omega
  go_enter Tryz.func215, Tryz.ntmps215
  go_wp2_with (go_at_call 244; refine hdown.mono ?_; rintro e w1 ⟨⟨k, j, rfl, hk, hkj, hlast⟩, rfl⟩; rw [Hl.out] at hk)
  obtain ⟨u, hu⟩ : ∃ u, (Tr.kids tr)[k]? = some u := ⟨_, List.getElem?_eq_getElem (by rw [Hl.out]; exact hk)⟩
  obtain ⟨q, hq, hnq⟩ := Ha.out.get hu
  have c2 : w.cell? ⟨g, off + k, none⟩ = some (ptr q) := Hcell.out k _ (by rw [List.getElem?_map, hq]; rfl)
  have hju : j < (Tr.flat h u).length := down_inTI hu (by rw [Hl.out]; exact hk) hkj (by rw [← Hfl.out]; exact hi) hlast
  have hub : (Tr.flat h u).length ≤ 900000 := by
    have e1 := cntTI_succ hu
    have e2 := cntTI_le (Tr.kids tr) (k + 1)
    have e3 := HB.out
    rw [Hfl.out] at e3
    omega
  have hok : Tr.Ok 4 h u := Ho.out.2.2 u (List.mem_of_getElem? hu)
  have Hu := Lib.hid hu
  have Hq := Lib.hid hq
  have Hnq := Lib.hid hnq
  have Hkj := Lib.hid hkj
  have Hok := Lib.hid hok
  have Hju := Lib.hid hju
  have Hub := Lib.hid hub
  clear hu hq hnq hkj hlast hok hju hub
  have k0 : (0 : Int) ≤ k := by omega
  have k1 : (k : Int) < n := by omega
  go_wp2_with (first
      | (go_at_call 247
         refine (cloneNd (some ⟨g, off, none⟩) n c _ _ Hr.out (by omega)).mono ?_
         rintro e w1 ⟨A1, c1', rfl, hown1, hk1⟩
         obtain ⟨g1, cap1, _, hA1, hg1, _⟩ := own_blk hown1 (by omega)
         obtain ⟨rfl, hcc⟩ : A1 = some ⟨g1, 0, none⟩ ∧ c1' = cap1 := by injection hA1 with h1 h2 h3; exact ⟨h1, h3⟩
         clear hcc hA1
         have hg1l := own_base hown1 (b := g1) (by simp [obs_some])
         have s1 : w.heap.size ≤ w1.heap.size := hk1.size
         have d1 : w1.cell? ⟨p, 1, none⟩ = some (.slice (some ⟨g, off, none⟩) n c) := hk1.cell c1 (by simp)
         have d2 : w1.cell? ⟨g, off + k, none⟩ = some (ptr q) := hk1.cell c2 (by simp))
      | (go_at_call 215
         refine (ih.out q j u (fun b => F b ∧ b < w.heap.size) _ (hd.keep hk1 (by simp)) (Hnq.out.there.keep hk1 (by simp)) Hok.out Hju.out Hub.out).mono ?_
         rintro e w2 ⟨q2, u2, rfl, hnq2, hera, hd2, hk2⟩
         have s2 : w1.heap.size ≤ w2.heap.size := hk2.size
         have hgt : g1 ≠ t := by omega
         have hown2 := own_keep hown1 hk2 (fun b hb h => by rw [List.mem_singleton.1 hb] at h; simp [Value.ownBlock] at h; omega)
         obtain ⟨f2, hown3⟩ := own_put hown2 hk (ptr q2)
         rw [ptrs_set] at hown3
         have f3 : w2.cell? ⟨g1, k, none⟩ = some (ptr q) := own_at hown2 (by rw [List.getElem?_map, Hq.out]; rfl)))
  have hgw : g1 < w1.heap.size := hg1l.2
  have K23 : Keeps [g1] w2 (w2.setCell ⟨g1, k, none⟩ (ptr q2)) := (Keeps.refl _ _).setCell (.inl (by simp)) _
  have s23 := K23.size
  generalize w2.setCell ⟨g1, k, none⟩ (ptr q2) = w3 at *
  have htags := hd.noTags
  have K03 : Keeps [t] w w3 := ((hk1.mono (M' := [t]) (by simp)).trans hk2 (fun b hb => .inl hb)).trans K23 (fun b hb => .inr (by simp at hb; omega))
  have hd3 : HdTI w3 t root := hd2.keep K23 (by simp; omega)
  have hnot : ∀ b, b ∈ [g1] → ¬ OrNew (fun b => F b ∧ b < w.heap.size) w1 b := by
    intro b hb hf
    rw [List.mem_singleton.1 hb] at hf
    rcases hf with ⟨_, hf⟩ | hf <;> omega
  have hnq3 := hnq2.keepF K23 (fun b hb => .inr (hnot b hb))
  have hall3 : All2 (NodeIn LTI (OrNew (fun b => F b ∧ b < w.heap.size) w1) w3 h) (ps.set k q2) ((Tr.kids tr).set k u2) := ((Ha.out.there.keep K03 htags).wider (fun b hb => .inl hb)).set hnq3
  have hlen3 : ((Tr.kids tr).set k u2).length = n := by rw [List.length_set]; exact Hl.out
  have htot : (((Tr.kids tr).set k u2).flatMap (Tr.flat h)).length ≤ 900000 := by
    rw [Tr.era_set Hu.out hera Hju.out Hkj.out, List.length_append, List.length_take, List.length_drop]
    have hbk : (Tr.flat (h + 1) (Tr.kids tr)).length ≤ 900000 := HB.out
    omega
  have Hera := Lib.hid hera
  have Htags := Lib.hid htags
  have Hnot := Lib.hid hnot
  have Hall := Lib.hid hall3
  have Hlen := Lib.hid hlen3
  have Htot := Lib.hid htot
  have hsz := sizeTI q2 h u2 w3 hnq3 hera.ok.size_le
  clear hera htags hnot hall3 hlen3 htot hnq3 hnq2 hown2 hown1 hd2 f2 f3 hgt K23
  refine hsz.mono ?_
  rintro e w4 ⟨rfl, hk4⟩
  have s4 := hk4.size
  have s3 := K03.size
  have K04 : Keeps [t] w w4 := K03.trans_nil hk4
  have hd4 : HdTI w4 t root := hd3.keep hk4 (by simp)
  have hown4 := own_keep hown3 hk4 (by simp)
  have hall4 := Hall.out.keep hk4 (by simp)
  have Hall4 := Lib.hid hall4
  clear hall4 Hall hown3 hd3 hsz
  by_cases hz4 : Tr.size h u2 < 4
  · obtain ⟨r, hrk, hr2⟩ : ∃ r, r = min k (n - 2) ∧ r + 2 ≤ n := ⟨_, rfl, by omega⟩
    have hmin : min (k : Int) ((n : Int) - 2) = (r : Int) := by omega
    obtain ⟨a, haa⟩ : ∃ a, ((Tr.kids tr).set k u2)[r]? = some a := ⟨_, List.getElem?_eq_getElem (by rw [Hlen.out]; omega)⟩
    obtain ⟨b, hbb⟩ : ∃ b, ((Tr.kids tr).set k u2)[r + 1]? = some b := ⟨_, List.getElem?_eq_getElem (by rw [Hlen.out]; omega)⟩
    obtain ⟨pa, hpa, hna⟩ := Hall4.out.get haa
    obtain ⟨pb, hpb, hnb⟩ := Hall4.out.get hbb
    have Htags4 := Lib.hid hd4.noTags
    have e1 : w4.cell? ⟨g1, r, none⟩ = some (ptr pa) := own_at hown4 (by rw [List.getElem?_map, hpa]; rfl)
    have e2 : w4.cell? ⟨g1, r + 1, none⟩ = some (ptr pb) := own_at hown4 (by rw [List.getElem?_map, hpb]; rfl)
    have oa := ok_set Ho.out k Hera.out.ok a (List.mem_of_getElem? haa)
    have ob := ok_set Ho.out k Hera.out.ok b (List.mem_of_getElem? hbb)
    have hab : (Tr.flat h a).length + (Tr.flat h b).length ≤ 1000000 := by
      have x1 := cntTI_succ haa
      have x2 := cntTI_succ hbb
      have x3 := cntTI_le ((Tr.kids tr).set k u2) (r + 1 + 1)
      have := Htot.out
      omega
    have hjoin := joinedTI h 3 3 pa pb a b t root (OrNew (fun b => F b ∧ b < w.heap.size) w1) w4.drew (hd4.keep (Keeps.refl [] _).drew (by simp)) (hna.keep (Keeps.refl [] _).drew (by simp)) (hnb.keep (Keeps.refl [] _).drew (by simp)) oa ob (by omega) hab
    have hera2 := Tr.era_join Ho.out Hu.out Hera.out Hju.out Hkj.out (q := r) (by rw [Hl.out]; exact hrk) (by rw [Hl.out]; exact h0) haa hbb
    have hj12 := join_one_two h a b
    have Hera2 := Lib.hid hera2
    have Hj12 := Lib.hid hj12
    have z1 : (Tr.size h u2 : Int) < 4 := by omega
    have z2 : (1 : Int) < n := by omega
    have y1 : IntKind.i64.wrap ((n : Int) - 2) = (n : Int) - 2 := IntWalk.i64_in _ (by omega)
    have y2 : IntKind.i64.wrap ((r : Int) + 2) = (r : Int) + 2 := IntWalk.i64_in _ (by omega)
    have y3 : IntKind.i64.wrap ((r : Int) + 1) = (r : Int) + 1 := IntWalk.i64_in _ (by omega)
    have y4 : ((r : Int) + 1).toNat = r + 1 := by omega
    have y5 : (0 : Int) ≤ (r : Int) + 1 := by omega
    have y6 : (r : Int) + 1 < n := by omega
    have y7 : (r : Int) < n := by omega
    generalize Tr.size h u2 = z at *
    clear hrk hpa hpb haa hbb oa ob hna hnb hera2 hj12
    go_wp2_with fail
    go_region_with (first
      | (go_at_call 253
         refine hjoin.mono ?_
         rintro e w5 ⟨A3, m3, c3, rfl, ⟨qs, hown5, hlen5, hall5⟩, hd5, hk5⟩
         have s5 : w4.heap.size ≤ w5.heap.size := hk5.size
         have K05 : Keeps [t] w w5 := K04.trans (Keeps.of_drew hk5) (fun b hb => .inl hb)
         have hm3 := Hj12.out
         rw [hlen5] at hm3
         obtain ⟨gv, cap2, cur2, hA3, hgv, _⟩ := own_blk hown5 (by omega)
         obtain ⟨rfl, hcc⟩ : A3 = some ⟨gv, 0, none⟩ ∧ c3 = cap2 := by injection hA3 with h1 h2 h3; exact ⟨h1, h3⟩
         clear hcc hA3
         have hgv' : w4.heap.size ≤ gv := hgv
         have hown45 := own_keep hown4 (Keeps.of_drew hk5) (fun b hb h => by rw [List.mem_singleton.1 hb] at h; simp [Value.ownBlock] at h; omega))
      | (go_at_call 246
         refine (replaceNd w.heap.size (some ⟨g1, 0, none⟩) n c1' r (r + 2) m3 (n - 2 + m3) (List.map ptr (ps.set k q2)) gv c3 (List.map ptr qs) _ hown45 (by omega) (Cells1.ptrs _) (own_rd hown5 (Cells1.ptrs _)) (fun hm => by simp [obs_some] at hm; omega) (by omega) (by omega) (by omega) (by omega) (by omega) (by omega)).mono ?_
         rintro e w6 ⟨A6, c6, rfl, hown6, hk6⟩
         have s6 : w5.heap.size ≤ w6.heap.size := hk6.size
         have K06 : Keeps [t] w w6 := K05.trans hk6 (fun b hb => .inr (by simp [obs_some] at hb; omega))
         have hd6 : HdTI w6 t root := hd5.keep hk6 (fun h => by simp [obs_some] at h; omega)))
    all_goals
      rw [ptrs_rep] at hown6
      have hall6 : All2 (NodeIn LTI (OrNew F w) w6 h) ((ps.set k q2).take r ++ qs ++ (ps.set k q2).drop (r + 2)) (((Tr.kids tr).set k u2).take r ++ Tr.join h a b ++ ((Tr.kids tr).set k u2).drop (r + 2)) := by
        have hw : ∀ b, OrNew (OrNew (fun b => F b ∧ b < w.heap.size) w1) w4.drew b → OrNew F w b := by
          intro b hb
          rcases hb with (h | h) | h
          · exact .inl h.1
          · exact .inr (by omega)
          · have h : w4.heap.size ≤ b := h
            exact .inr (by omega)
        have hk : ∀ b, b ∈ obs (.slice (some ⟨g1, 0, none⟩) n c1') → ¬ OrNew (OrNew (fun b => F b ∧ b < w.heap.size) w1) w4.drew b := by
          intro b hb hf
          rw [obs_some] at hb
          rw [List.mem_singleton.1 hb] at hf
          rcases hf with (h | h) | h
          · have := h.2; omega
          · omega
          · have h : w4.heap.size ≤ g1 := h
            omega
        have h5 := (Hall4.out.keep (Keeps.of_drew hk5) Htags4.out).wider (G := OrNew (OrNew (fun b => F b ∧ b < w.heap.size) w1) w4.drew) (fun _ h => .inl h)
        have h6 := h5.keepF hk6 (fun b hb => .inr (hk b hb))
        exact (((h6.take r).append (hall5.keepF hk6 (fun b hb => .inr (hk b hb)))).append (h6.drop (r + 2))).wider hw
      have hlen6 : (((Tr.kids tr).set k u2).take r ++ Tr.join h a b ++ ((Tr.kids tr).set k u2).drop (r + 2)).length = n - 2 + m3 := by
        have := Hlen.out
        simp only [List.length_append, List.length_take, List.length_drop, hlen5]
        omega
      have htot6 : ((((Tr.kids tr).set k u2).take r ++ Tr.join h a b ++ ((Tr.kids tr).set k u2).drop (r + 2)).flatMap (Tr.flat h)).length ≤ 1000000 := by
        have e := Hera2.out.flat_eq
        have e2 : (((Tr.kids tr).set k u2).take r ++ Tr.join h a b ++ ((Tr.kids tr).set k u2).drop (r + 2)).flatMap (Tr.flat h) = (Tr.flat (h + 1) tr).take i ++ (Tr.flat (h + 1) tr).drop (i + 1) := e
        rw [e2, List.length_append, List.length_take, List.length_drop]
        have := HB.out
        omega
      have Hall6 := Lib.hid hall6
      have Hlen6 := Lib.hid hlen6
      have Htot6 := Lib.hid htot6
      have Hlen5 := Lib.hid hlen5
      clear hall6 hlen6 htot6 hlen5
      go_wp2_with (go_at_call 208; refine (innerRawTI t root A6 (n - 2 + m3) c6 h _ _ _ hd6 (own_rd hown6 (Cells1.ptrs _)) Hall6.out Hlen6.out (by omega) Htot6.out).mono ?_; rintro e w7 ⟨p7, rfl, hp7, hb7, hd7, hk7⟩)
      go_ret
      exact era_endTI K06 hd6 hown6 Hall6.out Hlen6.out Hera2.out hp7 hb7 hd7 hk7
  · have z1 : ¬ (Tr.size h u2 : Int) < 4 := by omega
    have hera2 := Tr.era_plain Ho.out Hu.out Hera.out Hju.out Hkj.out (by omega)
    have Hera2 := Lib.hid hera2
    generalize Tr.size h u2 = z at *
    clear hera2
    go_wp2_with (go_at_call 208; refine (innerRawTI t root (some ⟨g1, 0, none⟩) n c1' h (ps.set k q2) ((Tr.kids tr).set k u2) _ hd4 (own_rd hown4 (Cells1.ptrs _)) Hall4.out Hlen.out (by omega) (by have := Htot.out; omega)).mono ?_; rintro e w5 ⟨p5, rfl, hp5, hb5, hd5, hk5⟩)
    go_ret
    refine era_endTI K04 hd4 hown4 (Hall4.out.wider fun b hb => ?_) Hlen.out Hera2.out hp5 hb5 hd5 hk5
    rcases hb with h | h
    · exact .inl h.1
    · exact .inr (by omega)

theorem erasedTI (t : Nat) (root : Value) : ∀ (h lo p i : Nat) (tr : Tr Int h) (F : Nat → Prop) (w : World), (0 < h → 2 ≤ lo) → HdTI w t root → NodeIn LTI F w h p tr → Tr.Ok lo h tr → i < (Tr.flat h tr).length → (Tr.flat h tr).length ≤ 900000 →
    Calls Tryz.prog 215 #[ptr t, ptr p, .int .i64 i] w (ErasedTI F lo h tr i t root w)
  | 0, lo, p, i, tr, F, w, _, hd, hn, ho, hi, _ => erased_leafTI lo p i tr t root F w hd hn ho hi
  | h + 1, lo, p, i, tr, F, w, hlo, hd, hn, ho, hi, hB => erased_innerTI h lo p i tr t root F w hd hn ho (Nat.le_trans (hlo (by omega)) ho.1) hi hB
      (fun q j u G w1 hd1 hn1 ho1 hj hB1 => erasedTI t root h 4 q j u G w1 (fun _ => by omega) hd1 hn1 ho1 hj hB1)
end Go.Proofs.YtkngjgblfappoaaGreatDoor
