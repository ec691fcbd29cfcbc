/-
  slices.Index over int64s: the first place of a number, or -1.
-/
import Derived.Test.YtkngjgblfappoaaGreatDoorSlAInt
import Derived.IntWalk
namespace Go.Proofs.YtkngjgblfappoaaGreatDoor
open Go.RowKit (Below intOf Hid)

/-- r is the first place of v in l; -1: there is none. -/
def Idx (l : List Int) (v r : Int) : Prop := (r = -1 ∧ v ∉ l) ∨ ∃ k : Nat, r = k ∧ l[k]? = some v ∧ v ∉ l.take k

set_option maxRecDepth 100000 in
set_option maxHeartbeats 400000 in
theorem indexInt (A : Option Addr) (n c : Nat) (l : List Int) (v : Int) (w : World) (hr : Rd w 2 1 A n (l.map (.int .i64))) (hn : n ≤ 100000) :
    Calls Tryz.prog 119 #[.slice A n c, .int .i64 v] w fun e w' => ∃ r, e = .returned (.int .i64 r) ∧ Idx l v r ∧ w = w' := by
  have hl : l.length = n := by have := hr.1; simpa using this
  rcases Nat.eq_zero_or_pos n with h0 | h0
  · subst h0
    have hx : l = [] := List.eq_nil_of_length_eq_zero hl
    subst hx
    go_enter Tryz.func119, Tryz.ntmps119
    go_wp2
    refine wp_loop_rounds 1 ?_
    rw [rounds_succ]
    go_wp2
    go_ret
    exact ⟨_, rfl, .inl ⟨rfl, by simp⟩, rfl⟩
  · obtain ⟨g, off, rfl, _, hc⟩ := hr.addr h0
    have Hl := Lib.hid hl
    clear hl
    go_enter Tryz.func119, Tryz.ntmps119
    go_wp2
    go_loop [8] (fun i => ∃ k : Nat, k ≤ n ∧ i = .int .i64 k ∧ v ∉ l.take k) (fun i => n - (intOf i).toNat)
    case atStart => exact ⟨0, Nat.zero_le _, rfl, by simp⟩
    case round =>
      obtain ⟨k, hk, rfl, hnot⟩ := hrel
      have Hnot := Lib.hid hnot
      clear hnot
      by_cases hlt : k < n
      · obtain ⟨u, hu⟩ : ∃ u, l[k]? = some u := ⟨_, List.getElem?_eq_getElem (by rw [Hl.out]; exact hlt)⟩
        have hcell : w.cell? ⟨g, off + k, none⟩ = some (.int .i64 u) := hc k _ (by rw [List.getElem?_map, hu]; rfl)
        have Hu := Lib.hid hu
        clear hu
        have k0 : (0 : Int) ≤ k := by omega
        have k1 : (k : Int) < n := by omega
        by_cases hv : v = u
        · have hq : (v == u) = true := by simpa using hv
          clear hv
          go_wp2
          go_ret
          exact ⟨_, rfl, .inr ⟨k, rfl, by rw [Hu.out]; simpa using (beq_iff_eq.1 hq).symm, Hnot.out⟩, rfl⟩
        · have hq : (v == u) = false := by simpa using hv
          have Hv := Lib.hid hv
          clear hv
          go_wp2
          go_round
          case rel =>
            refine ⟨k + 1, by omega, by go_num, ?_⟩
            rw [List.take_add_one, Hu.out]
            have h1 := Hnot.out
            have h2 := Hv.out
            simp only [Option.toList_some, List.mem_append, List.mem_singleton]
            exact fun h => h.elim h1 h2
          case measure => simp [intOf]; omega
      · have k1 : ¬ (k : Int) < n := by omega
        go_wp2
        go_ret
        refine ⟨_, rfl, .inl ⟨rfl, ?_⟩, rfl⟩
        have := Hnot.out
        rwa [List.take_of_length_le (by rw [Hl.out]; omega)] at this
end Go.Proofs.YtkngjgblfappoaaGreatDoor
