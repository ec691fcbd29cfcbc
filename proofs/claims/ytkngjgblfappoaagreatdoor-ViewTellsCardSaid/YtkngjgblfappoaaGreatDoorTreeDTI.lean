/-
  The counted tree: down: below which node a place lies.
-/
import Derived.Test.YtkngjgblfappoaaGreatDoorTreeCTI
namespace Go.Proofs.YtkngjgblfappoaaGreatDoor
open Go.RowKit (Below intOf Hid)

/-- What down answers. -/
def DownTI {h : Nat} (ks : List (Tr Int h)) (i : Nat) (e : Ending) : Prop := ∃ k j : Nat, e = .returned (.tuple #[.int .i64 k, .int .i64 j]) ∧ k < ks.length ∧ cntTI ks k + j = i ∧ (k + 1 < ks.length → ∀ t, ks[k]? = some t → j < (Tr.flat h t).length)

set_option maxRecDepth 100000 in
set_option maxHeartbeats 1600000 in
theorem downTI (p i h : Nat) (ks : Tr Int (h + 1)) (w : World) {F : Nat → Prop} (hn : NodeIn LTI F w (h + 1) p ks) (h0 : 0 < (Tr.kids ks).length) (h8 : (Tr.kids ks).length ≤ 10000) (hi : i ≤ 1000000) :
    Calls Tryz.prog 244 #[ptr p, .int .i64 i] w fun e w' => DownTI (Tr.kids ks) i e ∧ w = w' := by
  obtain ⟨A, c, ps, hb, hr, hc, ha, _, _⟩ := hn
  generalize hl : (Tr.kids ks).length = n at *
  have Hl := Lib.hid hl
  clear hl
  have hp1 : w.cell? ⟨p, 1, none⟩ = some (.slice A n c) := hb.cell 1
  obtain ⟨g, off, rfl, _, hcell⟩ := hr.addr h0
  have Hcell := Lib.hid hcell
  clear hcell hr
  go_enter Tryz.func244, Tryz.ntmps244
  go_wp2
  go_loop [1, 6] (fun ti tk => ∃ k j : Nat, k < n ∧ tk = .int .i64 k ∧ ti = .int .i64 j ∧ Hid (cntTI (Tr.kids ks) k + j = i)) (fun _ tk => n - (intOf tk).toNat)
  case atStart => exact ⟨0, i, h0, rfl, rfl, by unfold Hid; rw [cntTI_zero, Nat.zero_add]⟩
  case round =>
    obtain ⟨k, j, hk, rfl, rfl, hj⟩ := hrel
    obtain ⟨u, hu⟩ : ∃ u, (Tr.kids ks)[k]? = some u := ⟨_, List.getElem?_eq_getElem (by rw [Hl.out]; exact hk)⟩
    obtain ⟨q, hq, hnq⟩ := ha.get hu
    have hck : w.cell? ⟨g, off + k, none⟩ = some (ptr q) := Hcell.out k _ (by rw [List.getElem?_map, hq]; rfl)
    have hnk := hnq.count
    have Hsum := Lib.hid (cntTI_succ hu)
    have hz : (Tr.flat h u).length = (Tr.flat h u).length := rfl
    generalize hzz : (Tr.flat h u).length = z at hnk
    have Hz := Lib.hid hzz
    have Hu := Lib.hid hu
    have hji : j ≤ 1000000 := by have := hj.out; omega
    clear hzz hz hu hq hnq
    have k0 : (0 : Int) ≤ k := by omega
    have k1 : (k : Int) < n := by omega
    have j0 : (0 : Int) ≤ j := by omega
    have j1 : (j : Int) ≤ 1000000 := by omega
    by_cases hlt : k + 1 < n
    · have b1 : decide ((k : Int) + 1 < n) = true := by simp; omega
      have b2 : (k : Int) + 1 < n := by omega
      by_cases hzj : z ≤ j
      · have b3 : (z : Int) ≤ j := by omega
        go_wp2
        go_round
        case rel => exact ⟨k + 1, j - z, by omega, by go_num, by go_num, by unfold Hid; have := Hsum.out; have := Hz.out; have := hj.out; omega⟩
        case measure => simp [intOf]; omega
      · have b3 : ¬ (z : Int) ≤ j := by omega
        go_wp2
        go_ret2
        exact ⟨⟨k, j, rfl, by rw [Hl.out]; exact hk, hj.out, fun _ t ht => by have e := Hu.out; rw [ht] at e; injection e with e; rw [e, Hz.out]; omega⟩, rfl⟩
    · have b1 : decide ((k : Int) + 1 < n) = false := by simp; omega
      have b2 : ¬ (k : Int) + 1 < n := by omega
      go_wp2
      go_ret2
      exact ⟨⟨k, j, rfl, by rw [Hl.out]; exact hk, hj.out, fun h => by rw [Hl.out] at h; omega⟩, rfl⟩
end Go.Proofs.YtkngjgblfappoaaGreatDoor
