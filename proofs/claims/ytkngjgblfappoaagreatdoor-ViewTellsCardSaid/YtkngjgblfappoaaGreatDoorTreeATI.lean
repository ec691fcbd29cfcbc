/-
  The counted tree's makers of nodes: New, Len, leaf, inner, leaves, inners.
-/
import Derived.Test.YtkngjgblfappoaaGreatDoorRep
import Derived.Test.YtkngjgblfappoaaGreatDoorSlBInt
import Derived.Test.YtkngjgblfappoaaGreatDoorSlBNd
namespace Go.Proofs.YtkngjgblfappoaaGreatDoor
open Go.RowKit (Below intOf Hid)

def LTI : Lay Int := { nd := 333, el := 2, pt := 248, k := 1, enc := fun x => [.int .i64 x], len := fun _ => rfl, one := fun _ u hu => by simp at hu; subst hu; rfl }
theorem infoBTI : (Tryz.prog.info? 323).map (fun i => (i.zero, i.size, i.bytes)) = some (some (.slice none 0 0), 1, 24) := by kernel_rfl

/-- A tree's struct: its root, and some count. -/
def HdTI (w : World) (t : Nat) (root : Value) : Prop := ∃ wr, Blk w t 250 #[root, .int .i64 wr]
theorem HdTI.keep {w w' : World} {t : Nat} {root : Value} {M : List Nat} (h : HdTI w t root) (k : Keeps M w w') (hn : t ∉ M) : HdTI w' t root := by
  obtain ⟨wr, hb⟩ := h; exact ⟨wr, k.blk hb hn⟩
theorem HdTI.lt {w : World} {t : Nat} {root : Value} (h : HdTI w t root) : t < w.heap.size := by obtain ⟨wr, hb⟩ := h; exact hb.lt
theorem HdTI.noTag {w : World} {t : Nat} {root : Value} (h : HdTI w t root) : NoTag w t LTI.tags := by
  obtain ⟨wr, hb⟩ := h; exact hb.noTag (by simp [LTI])
theorem HdTI.noTags {w : World} {t : Nat} {root : Value} (h : HdTI w t root) : ∀ b, b ∈ [t] → NoTag w b LTI.tags := by
  intro b hb; rw [List.mem_singleton.1 hb]; exact h.noTag
theorem HdTI.root {w : World} {t : Nat} {root : Value} (h : HdTI w t root) : w.cell? ⟨t, 0, none⟩ = some root := by obtain ⟨wr, hb⟩ := h; exact hb.cell 0
theorem HdTI.free {w : World} {t : Nat} {root : Value} (h : HdTI w t root) (i : Nat) : w.frozen? ⟨t, i, none⟩ = false := by obtain ⟨wr, hb⟩ := h; exact hb.free i
abbrev TreeTI (w : World) (t : Nat) (l : List Int) : Prop := TreeAt LTI 250 w t l
theorem treeTI_hd {w : World} {t : Nat} {l : List Int} : TreeTI w t l ↔ ∃ root, HdTI w t root ∧ RootAt LTI w root l :=
  ⟨fun ⟨root, wr, hb, hr⟩ => ⟨root, ⟨wr, hb⟩, hr⟩, fun ⟨root, ⟨wr, hb⟩, hr⟩ => ⟨root, wr, hb, hr⟩⟩

theorem newTI (w : World) : Calls Tryz.prog 89 #[] w fun e w' => e = .returned (ptr w.heap.size) ∧ TreeTI w' w.heap.size [] ∧ Keeps [] w w' ∧ w'.heap.size = w.heap.size + 1 := by
  go_enter Tryz.func89, Tryz.ntmps89
  go_wp2
  go_ret
  exact ⟨rfl, ⟨_, _, Blk.new _ _ _, .inl ⟨rfl, rfl⟩⟩, (Keeps.refl _ _).alloc _, by simp⟩

set_option maxHeartbeats 400000 in
theorem lenTI (t : Nat) (l : List Int) (w : World) (ht : TreeTI w t l) : Calls Tryz.prog 183 #[ptr t] w fun e w' => e = .returned (.int .i64 l.length) ∧ w = w' := by
  obtain ⟨root, hd, hr⟩ := treeTI_hd.1 ht
  have h0 := hd.root
  rcases hr with ⟨rfl, rfl⟩ | ⟨h, p, tr, rfl, hn, _, rfl⟩
  · go_enter Tryz.func183, Tryz.ntmps183
    go_wp2
    go_ret
    exact ⟨rfl, rfl⟩
  · have h2 := hn.count
    go_enter Tryz.func183, Tryz.ntmps183
    go_wp2
    go_ret
    exact ⟨rfl, rfl⟩

set_option maxHeartbeats 400000 in
theorem leafRawTI (t : Nat) (root : Value) (A : Option Addr) (n c : Nat) (w : World) (hd : HdTI w t root) :
    Calls Tryz.prog 206 #[ptr t, .slice A n c] w fun e w' => ∃ p, e = .returned (ptr p) ∧ w.heap.size ≤ p ∧ Blk w' p 333 #[.slice A n c, .slice none 0 0, .int .i64 n] ∧ HdTI w' t root ∧ Keeps [t] w w' := by
  obtain ⟨wr, hb⟩ := hd
  have h1 : w.cell? ⟨t, 1, none⟩ = some (.int .i64 wr) := hb.cell 1
  have f1 : w.frozen? ⟨t, 1, none⟩ = false := hb.free 1
  go_enter Tryz.func206, Tryz.ntmps206
  go_wp2
  go_ret
  exact ⟨w.heap.size, rfl, Nat.le_refl _, Blk.new' _ _ (by simp), ⟨_, (hb.set 1 _).alloc _⟩, ((Keeps.refl _ _).setCell (.inl (by simp)) _).alloc _⟩
theorem node_leafTI {w : World} {p n c : Nat} {A : Option Addr} {l : List Int} (hb : Blk w p 333 #[.slice A n c, .slice none 0 0, .int .i64 n]) (hr : Rd w 2 1 A n (LTI.cells l)) (hl : l.length = n) (hc : n ≤ c) {F : Nat → Prop} (hp : F p) (hA : InF F A n) :
    NodeIn LTI F w 0 p l := by
  subst hl
  exact ⟨A, c, hb, hr, hc, hp, hA⟩
/-- How many elements the first k nodes have. -/
def cntTI {h : Nat} (ks : List (Tr Int h)) (k : Nat) : Nat := ((ks.take k).flatMap (Tr.flat h)).length
theorem cntTI_zero {h : Nat} (ks : List (Tr Int h)) : cntTI ks 0 = 0 := by simp [cntTI]
theorem cntTI_succ {h : Nat} {ks : List (Tr Int h)} {k : Nat} {t : Tr Int h} (ht : ks[k]? = some t) : cntTI ks (k + 1) = cntTI ks k + (Tr.flat h t).length := by
  simp [cntTI, List.take_add_one, ht, List.flatMap_append]
theorem cntTI_all {h : Nat} (ks : List (Tr Int h)) {k : Nat} (hk : ks.length ≤ k) : cntTI ks k = (ks.flatMap (Tr.flat h)).length := by
  rw [cntTI, List.take_of_length_le hk]
theorem cntTI_le {h : Nat} (ks : List (Tr Int h)) (k : Nat) : cntTI ks k ≤ (ks.flatMap (Tr.flat h)).length := by
  conv => rhs; rw [← List.take_append_drop k ks, List.flatMap_append, List.length_append]
  exact Nat.le_add_right _ _

theorem node_innerTI {w : World} {h p n c : Nat} {A : Option Addr} {ps : List Nat} {ks : List (Tr Int h)} (hb : Blk w p 333 #[.slice none 0 0, .slice A n c, .int .i64 (cntTI ks n)]) (hr : Rd w 248 1 A n (ps.map ptr))
    (hl : ks.length = n) (hc : n ≤ c) {F : Nat → Prop} (ha : All2 (NodeIn LTI F w h) ps ks) (hp : F p) (hA : InF F A n) : NodeIn LTI F w (h + 1) p ks := by
  subst hl
  rw [cntTI_all ks (Nat.le_refl _)] at hb
  exact ⟨A, c, ps, hb, hr, hc, ha, hp, hA⟩

set_option maxRecDepth 100000 in
set_option maxHeartbeats 1600000 in
theorem innerRawTI (t : Nat) (root : Value) (A : Option Addr) (n c h : Nat) (ps : List Nat) (ks : List (Tr Int h)) (w : World) (hd : HdTI w t root) (hr : Rd w 248 1 A n (ps.map ptr)) {F : Nat → Prop} (ha : All2 (NodeIn LTI F w h) ps ks) (hl : ks.length = n)
    (hN : n ≤ 10000) (hB : (ks.flatMap (Tr.flat h)).length ≤ 1000000) :
    Calls Tryz.prog 208 #[ptr t, .slice A n c] w fun e w' => ∃ p, e = .returned (ptr p) ∧ w.heap.size ≤ p ∧ Blk w' p 333 #[.slice none 0 0, .slice A n c, .int .i64 (cntTI ks n)] ∧ HdTI w' t root ∧ Keeps [t] w w' := by
  have htags := hd.noTags
  have htl := hd.lt
  obtain ⟨wr, hb⟩ := hd
  have h1 : w.cell? ⟨t, 1, none⟩ = some (.int .i64 wr) := hb.cell 1
  have f1 : w.frozen? ⟨t, 1, none⟩ = false := hb.free 1
  have Hl := Lib.hid hl
  clear hl
  go_enter Tryz.func208, Tryz.ntmps208
  go_wp2
  have hk0 : Keeps [t] w ((w.setCell ⟨t, 1, none⟩ (.int .i64 (RowKit.wrap64 (wr + 1)))).alloc (.cells #[.slice none 0 0, .slice A n c, .int .i64 0] 333)) := ((Keeps.refl _ _).setCell (.inl (by simp)) _).alloc _
  have hb0 : Blk ((w.setCell ⟨t, 1, none⟩ (.int .i64 (RowKit.wrap64 (wr + 1)))).alloc (.cells #[.slice none 0 0, .slice A n c, .int .i64 0] 333)) w.heap.size 333 #[.slice none 0 0, .slice A n c, .int .i64 0] := Blk.new' _ _ (by simp)
  have hd0 : HdTI ((w.setCell ⟨t, 1, none⟩ (.int .i64 (RowKit.wrap64 (wr + 1)))).alloc (.cells #[.slice none 0 0, .slice A n c, .int .i64 0] 333)) t root := ⟨_, (hb.set 1 _).alloc _⟩
  generalize ((w.setCell ⟨t, 1, none⟩ (.int .i64 (RowKit.wrap64 (wr + 1)))).alloc (.cells #[.slice none 0 0, .slice A n c, .int .i64 0] 333)) = W0 at *
  generalize hp : w.heap.size = p at hb0 ⊢
  have Hp := Lib.hid hp
  clear hp h1 f1 hb
  go_loopw [20] (fun i wr => ∃ k : Nat, k ≤ n ∧ i = .int .i64 k ∧ Blk wr p 333 #[.slice none 0 0, .slice A n c, .int .i64 (cntTI ks k)] ∧ HdTI wr t root ∧ Keeps [t] w wr) (fun i _ => n - (intOf i).toNat)
  case atStart => exact ⟨0, Nat.zero_le _, rfl, by rw [cntTI_zero]; exact hb0, hd0, hk0⟩
  case round =>
    obtain ⟨k, hkn, rfl, hbk, hdk, hkk⟩ := hrel
    have hcb := cntTI_le ks k
    by_cases hlt : k < n
    · obtain ⟨u, hu⟩ : ∃ u, ks[k]? = some u := ⟨_, List.getElem?_eq_getElem (by rw [Hl.out]; exact hlt)⟩
      obtain ⟨q, hq, hnq⟩ := ha.get hu
      have hrk := hr.keep hkk (fun b hb => (htags b hb).sub (by simp [LTI]))
      obtain ⟨g, off, rfl, _, hcell⟩ := hrk.addr (by omega)
      have hck : wr.cell? ⟨g, off + k, none⟩ = some (ptr q) := hcell k _ (by rw [List.getElem?_map, hq]; rfl)
      have hnk := (hnq.keep hkk htags).count
      have hqp : q ≠ p := by
        obtain ⟨cs, hqb⟩ := hnq.blk
        have := hqb.lt
        have := Hp.out
        omega
      have hp2 : wr.cell? ⟨p, 2, none⟩ = some (.int .i64 (cntTI ks k)) := hbk.cell 2
      have hpf : wr.frozen? ⟨p, 2, none⟩ = false := hbk.free 2
      have hsum := cntTI_succ hu
      have hcb2 := cntTI_le ks (k + 1)
      generalize (Tr.flat h u).length = z at *
      generalize cntTI ks k = y at *
      have Hs := Lib.hid hsum
      have Hu := Lib.hid hu
      have Hq := Lib.hid hq
      have k0 : (0 : Int) ≤ k := by omega
      have k1 : (k : Int) < n := by omega
      have y0 : (0 : Int) ≤ y := by omega
      have y1 : (y : Int) + z ≤ 1000000 := by omega
      have y2 : (y : Int) ≤ 1000000 := by omega
      have y3 : (z : Int) ≤ 1000000 := by omega
      clear hsum hu hq hcell hrk hnq
      go_wp2
      go_region
      all_goals
        go_wp2
        go_roundw
        case rel =>
          have hsum := Hs.out
          have hpw := Hp.out
          refine ⟨k + 1, by omega, by go_num, ?_, ?_, ?_⟩
          · rw [hsum]
            have := (hbk.set 2 (.int .i64 ((y : Int) + z))).drew
            simpa using this
          · exact hdk.keep (((Keeps.refl [p] _).setCell (.inl (by simp)) _).drew) (by simp; omega)
          · exact hkk.trans (((Keeps.refl [p] _).setCell (.inl (by simp)) _).drew) (fun b hb => .inr (by simp at hb; omega))
        case measure => simp [intOf]; omega
    · have k1 : ¬ (k : Int) < n := by omega
      go_wp2
      go_ret
      have hkn' : k = n := by omega
      subst hkn'
      exact ⟨p, rfl, Nat.le_of_eq Hp.out, hbk, hdk, hkk⟩

/-- A slice value of the call's own, of pointers to nodes. -/
def OwnTI (F : Nat → Prop) (w : World) (B h : Nat) (A : Option Addr) (n c : Nat) (ts : List (Tr Int h)) : Prop := ∃ ps, w.ownsRow B 248 1 (.slice A n c) n (List.map ptr ps) ∧ ts.length = n ∧ All2 (NodeIn LTI F w h) ps ts
theorem own_weaken {w : World} {B B' k n : Nat} {e : TypeId} {v : Value} {xs : List Value} (h : w.ownsRow B e k v n xs) (hB : B' ≤ B) : w.ownsRow B' e k v n xs := by
  refine ⟨h.1, ?_⟩
  rcases h.2 with h | ⟨g', cap', cur', h1, h2, h3⟩
  · exact .inl h
  · exact .inr ⟨g', cap', cur', h1, by omega, h3⟩
/-- Blocks of F, and new ones. -/
def OrNew (F : Nat → Prop) (w : World) (b : Nat) : Prop := F b ∨ w.heap.size ≤ b
end Go.Proofs.YtkngjgblfappoaaGreatDoor
