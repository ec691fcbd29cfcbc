/-
  The counted tree: At.
-/
import Derived.Test.YtkngjgblfappoaaGreatDoorTreeDTI
import Derived.Deep.LoopGhost
namespace Go.Proofs.YtkngjgblfappoaaGreatDoor
open Go.RowKit (Below intOf Hid)

theorem get_flatTI {h : Nat} {ks : List (Tr Int h)} {k j i : Nat} {u : Tr Int h} (hu : ks[k]? = some u) (hi : cntTI ks k + j = i) (hj : j < (Tr.flat h u).length) : (ks.flatMap (Tr.flat h))[i]? = (Tr.flat h u)[j]? := by
  rw [Tr.flatMap_at (Tr.flat h) ks k u hu, ← hi]
  rw [List.getElem?_append_right (by unfold cntTI; omega)]
  rw [show cntTI ks k + j - ((ks.take k).flatMap (Tr.flat h)).length = j from by unfold cntTI; omega]
  rw [List.getElem?_append_left hj]
/-- Where down has found a place that there is, it lies within the node. -/
theorem down_inTI {h : Nat} {ks : List (Tr Int h)} {k j i : Nat} {u : Tr Int h} (hu : ks[k]? = some u) (hk : k < ks.length) (hi : cntTI ks k + j = i) (hl : i < (ks.flatMap (Tr.flat h)).length)
    (hlast : k + 1 < ks.length → ∀ t, ks[k]? = some t → j < (Tr.flat h t).length) : j < (Tr.flat h u).length := by
  by_cases hk1 : k + 1 < ks.length
  · exact hlast hk1 u hu
  · have e1 := cntTI_succ hu
    have e2 := cntTI_all ks (k := k + 1) (by omega)
    omega

/-- Where At stands. -/
def AtRelTI (x : Int) (w : World) (k : Nat) (ti tx : Value) (wr : World) : Prop :=
  w = wr ∧ ∃ (p j lo : Nat) (tr : Tr Int k), tx = ptr p ∧ ti = .int .i64 j ∧ NodeAt LTI w k p tr ∧ Tr.Ok lo k tr ∧ 1 ≤ lo ∧ (Tr.flat k tr).length ≤ 1000000 ∧ (Tr.flat k tr)[j]? = some x

set_option maxRecDepth 100000 in
set_option maxHeartbeats 1600000 in
theorem at_yesTI (t i : Nat) (l : List Int) (x : Int) (w : World) (ht : TreeTI w t l) (hx : l[i]? = some x) (hB : l.length ≤ 1000000) :
    Calls Tryz.prog 214 #[ptr t, .int .i64 i] w fun e w' => e = .returned (.tuple #[(.int .i64 x), .bool true]) ∧ w = w' := by
  have hil := (List.getElem?_eq_some_iff.1 hx).1
  have hlen := lenTI t l w ht
  obtain ⟨root, hd, hr⟩ := treeTI_hd.1 ht
  have r0 := hd.root
  rcases hr with ⟨rfl, rfl⟩ | ⟨h, p, tr, rfl, hn, ho, hl⟩
  · simp at hx
  · have i0 : (0 : Int) ≤ i := by omega
    have i2 : decide ((i : Int) < 0) = false := by simp
    have i3 : decide (l.length ≤ i) = false := by simp; omega
    have Hlen := Lib.hid hlen
    have Hx := Lib.hid hx
    have Hl := Lib.hid hl
    clear hlen hx hl
    go_enter Tryz.func214, Tryz.ntmps214
    go_wp2_with (go_at_call 183; refine Hlen.out.mono ?_; rintro e w1 ⟨rfl, rfl⟩)
    go_loopg [1, 7] h (fun k ti tx wr => AtRelTI x w k ti tx wr)
    case atStart => exact ⟨rfl, p, i, (if h = 0 then 1 else 2), tr, rfl, rfl, hn, ho, by split <;> omega, by rw [← Hl.out]; omega, by rw [← Hl.out]; exact Hx.out⟩
    case round =>
      obtain ⟨rfl, p, j, lo, tr, rfl, rfl, hn, ho, hlo, hB, hx⟩ := hrel
      have hjl := (List.getElem?_eq_some_iff.1 hx).1
      have Hx := Lib.hid hx
      have Ho := Lib.hid ho
      clear hx ho
      cases gk with
      | zero =>
        obtain ⟨A, c, hb, hr, hc, _, _⟩ := hn
        have hjl' : j < (Tr.els tr).length := hjl
        have hxx : (LTI.cells (Tr.els tr))[j]? = some (.int .i64 x) := by
          have e : (Tr.els tr)[j]? = some x := Hx.out
          have : LTI.cells (Tr.els tr) = (Tr.els tr).map (fun x => (.int .i64 x)) := by unfold Lay.cells; induction (Tr.els tr) with
            | nil => rfl
            | cons y ys ih => rw [List.flatMap_cons, ih]; rfl
          rw [this, List.getElem?_map, e]; rfl
        obtain ⟨g, off, rfl, _, hcell⟩ := hr.cellAt hxx
        have c0 : w.cell? ⟨p, 0, none⟩ = some (.slice (some ⟨g, off, none⟩) (Tr.els tr).length c) := hb.cell 0
        have c1 : w.cell? ⟨p, 1, none⟩ = some (.slice none 0 0) := hb.cell 1
        generalize (Tr.els tr).length = n at *
        have j0 : (0 : Int) ≤ j := by omega
        have j1 : (j : Int) < n := by omega
        clear hr hb Ho Hx hxx
        go_wp2
        go_ret2
        exact ⟨rfl, rfl⟩
      | succ h =>
        have h8 : (Tr.kids tr).length ≤ 8 := Ho.out.2.1
        have h0 : 0 < (Tr.kids tr).length := Nat.lt_of_lt_of_le hlo Ho.out.1
        have hdown := downTI p j h tr w hn h0 (by omega) (by omega)
        obtain ⟨A, c, ps, hb, hr, hc, ha, _, _⟩ := hn
        generalize hl : (Tr.kids tr).length = n at *
        have c1 : w.cell? ⟨p, 1, none⟩ = some (.slice A n c) := hb.cell 1
        obtain ⟨g, off, rfl, _, hcell⟩ := hr.addr h0
        have n0 : (0 : Int) < n := by omega
        have Hdown := Lib.hid hdown
        have Hcell := Lib.hid hcell
        have HL := Lib.hid hl
        clear hdown hcell hl hr
        go_wp2_with fail
        refine Hdown.out.mono ?_
        rintro e w1 ⟨⟨k, j', rfl, hk, hkj, hlast⟩, rfl⟩
        obtain ⟨u, hu⟩ : ∃ u, (Tr.kids tr)[k]? = some u := ⟨_, List.getElem?_eq_getElem hk⟩
        obtain ⟨q, hq, hnq⟩ := ha.get hu
        have c2 : w.cell? ⟨g, off + k, none⟩ = some (ptr q) := Hcell.out k _ (by rw [List.getElem?_map, hq]; rfl)
        have hju := down_inTI hu hk hkj hjl hlast
        have hub : (Tr.flat h u).length ≤ 1000000 := by
          have e1 := cntTI_succ hu
          have e2 := cntTI_le (Tr.kids tr) (k + 1)
          have e3 : Tr.flat (h + 1) tr = (Tr.kids tr).flatMap (Tr.flat h) := rfl
          rw [e3] at hB
          omega
        have hxu : (Tr.flat h u)[j']? = some x := by
          rw [← get_flatTI hu hkj hju]; exact Hx.out
        have hok : Tr.Ok 4 h u := Ho.out.2.2 u (List.mem_of_getElem? hu)
        have Hn := Lib.hid hnq
        have Hok := Lib.hid hok
        have Hxu := Lib.hid hxu
        have k0 : (0 : Int) ≤ k := by omega
        have k1 : (k : Int) < n := by rw [HL.out] at hk; omega
        clear hu hq hnq hkj hlast hxu hok hju
        go_wp2
        go_roundg h
        case measure => omega
        case rel => exact ⟨rfl, q, j', 4, u, rfl, rfl, Hn.out, Hok.out, by omega, hub, Hxu.out⟩
end Go.Proofs.YtkngjgblfappoaaGreatDoor
