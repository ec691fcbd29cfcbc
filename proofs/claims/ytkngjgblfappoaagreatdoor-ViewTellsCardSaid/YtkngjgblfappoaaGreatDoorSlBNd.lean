/-
  tree.cut at one element type.
-/
import Derived.Test.YtkngjgblfappoaaGreatDoorSlANd
import Derived.Deep.RegionHeld3
namespace Go.Proofs.YtkngjgblfappoaaGreatDoor
open Go.RowKit (Below intOf Hid)

set_option maxHeartbeats 400000 in
theorem cut_smallNd (A : Option Addr) (n c : Nat) (w : World) (hn : n ≤ 8) :
    Calls Tryz.prog 274 #[.slice A n c] w fun e w' => e = .returned (.slice (some ⟨w.heap.size, 0, none⟩) 1 1) ∧ Blk w' w.heap.size 323 #[.slice A n c] ∧ Keeps [] w w' := by
  have h8 : ¬ (8 : Int) < n := by omega
  go_enter Tryz.func274, Tryz.ntmps274
  go_wp2
  go_ret
  exact ⟨rfl, Blk.new _ _ _, (Keeps.refl _ _).alloc _⟩

structure CutSNd (A B : Option Addr) (n m : Nat) (xs ys : List Value) (w w' : World) : Prop where
  l : Rd w' 248 1 A n xs
  r : Rd w' 248 1 B m ys
  k : Keeps [] w w'
theorem CutSNd.step {A B : Option Addr} {n m : Nat} {xs ys : List Value} {w w1 w2 : World} (h : CutSNd A B n m xs ys w w1) (k : Keeps [] w1 w2) : CutSNd A B n m xs ys w w2 :=
  ⟨h.l.keep k (by simp), h.r.keep k (by simp), h.k.trans_nil k⟩
set_option maxHeartbeats 800000 in
theorem cut_bigNd (A : Option Addr) (n c : Nat) (xs : List Value) (w : World) (hr : Rd w 248 1 A n xs) (hn : 8 < n) (hn2 : n ≤ 10000) (hc : n ≤ c) :
    Calls Tryz.prog 274 #[.slice A n c] w fun e w' => ∃ g A1 c1 A2 c2, e = .returned (.slice (some ⟨g, 0, none⟩) 2 2) ∧ w.heap.size ≤ g ∧ Blk w' g 323 #[.slice A1 (n / 2) c1, .slice A2 (n - n / 2) c2] ∧
      Rd w' 248 1 A1 (n / 2) (xs.take ((n / 2))) ∧ Rd w' 248 1 A2 (n - n / 2) (xs.drop ((n / 2))) ∧ n / 2 ≤ c1 ∧ n - n / 2 ≤ c2 ∧ Keeps [] w w' ∧ (0 < n / 2 → ∀ b off, A1 = some ⟨b, off, none⟩ → w.heap.size ≤ b) ∧ (0 < n - n / 2 → ∀ b off, A2 = some ⟨b, off, none⟩ → w.heap.size ≤ b) := by
  have h8 : (8 : Int) < n := by omega
  obtain ⟨ag, aoff, rfl, _, _⟩ := hr.addr (by omega)
  have hm : n / 2 ≤ n := Nat.div_le_self _ _
  have hlt : n / 2 < n := by omega
  have ht : Rd w 248 1 (some ⟨ag, aoff, none⟩) (n / 2) (xs.take ((n / 2))) := by simpa using hr.take hm
  have hd : Rd w 248 1 (some ⟨ag, aoff + (n / 2), none⟩) (n - n / 2) (xs.drop ((n / 2))) := by simpa [add_lit] using hr.dropAdd hm
  generalize hmm : n / 2 = m at *
  have hdiv : ((n : Int) / 2) = (m : Int) := by omega
  have hcm : ¬ c = m := by omega
  have hm0 : (0 : Int) ≤ m := by omega
  have hmn : (m : Int) ≤ n := by omega
  have hmc : (m : Int) ≤ c := by omega
  have hnc : (n : Int) ≤ c := by omega
  have Hm := Lib.hid hmm
  clear hmm
  go_enter Tryz.func274, Tryz.ntmps274
  go_wp2_with fail
  clear hdiv h8
  have HS : CutSNd (some ⟨ag, aoff, none⟩) (some ⟨ag, aoff + m, none⟩) m (n - m) (xs.take (m)) (xs.drop (m)) w w := ⟨ht, hd, Keeps.refl _ _⟩
  go_region_held3 (fun w' => CutSNd (some ⟨ag, aoff, none⟩) (some ⟨ag, aoff + m, none⟩) m (n - m) (xs.take (m)) (xs.drop (m)) w w')
    (first
      | exact HS.step (Keeps.refl _ _).drew
      | exact CutSNd.step (by assumption) ((Keeps.refl _ _).alloc _)
      | exact CutSNd.step (by assumption) hk2
      | exact CutSNd.step (by assumption) hk1)
    (first
      | (go_at_call_of 247 (Value.slice (some ⟨ag, aoff, none⟩) m c); refine (cloneNd _ _ _ (xs.take (m)) _ ?_ ?_).mono ?_; exact CutSNd.l (by assumption); omega; rintro e w1 ⟨A1, c1, rfl, hown1, hk1⟩)
      | (go_at_call_of 247 (Value.slice (some ⟨ag, aoff + m, none⟩) (n - m) (c - m)); refine (cloneNd _ _ _ (xs.drop (m)) _ ?_ ?_).mono ?_; exact CutSNd.r (by assumption); omega; rintro e w2 ⟨A2, c2, rfl, hown2, hk2⟩))
  go_wp2
  go_ret
  have HK : Keeps [] w w2 := ((Keeps.refl [] w).drew.trans_nil hk1).trans_nil hk2
  have l1 := own_len hown1
  have l2 := own_len hown2
  have r1 := (own_rd hown1 ht.2.1).keep hk2 (by simp)
  exact ⟨w2.heap.size, A1, c1, A2, c2, rfl, HK.size, Blk.new _ _ _, r1.alloc _, (own_rd hown2 hd.2.1).alloc _, l1.2, l2.2, HK.alloc _, fun _ b off e => by subst e; exact (hown1.lt b rfl).1, fun _ b off e => by subst e; have h1 := (hown2.lt b rfl).1; have h2 := hk1.size; have h3 : w.drew.heap.size = w.heap.size := rfl; omega⟩
end Go.Proofs.YtkngjgblfappoaaGreatDoor
