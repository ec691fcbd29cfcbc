/-
  rialtohelp: Few, Ids, Struck.
-/
import Derived.Test.YtkngjgblfappoaaGreatDoorTells1
import Derived.Test.YtkngjgblfappoaaGreatDoorAsHMa
namespace Go.Proofs.YtkngjgblfappoaaGreatDoor
open Go.RowKit (Below intOf Hid)
variable {β : Nat}

/-- Values' strings: each third cell of four is a string of known size. -/
def StrsAt (w : World) (A : Option Addr) (n : Nat) (sz : Nat → Nat) : Prop := ∀ i, i < n → ∃ g off s, A = some ⟨g, off, none⟩ ∧ w.cell? ⟨g, off + i * 4 + 2, none⟩ = some (.string s) ∧ s.size = sz i ∧ s.size ≤ maxLen

/-- What Few answers. -/
def FewP (n : Nat) (many : Int) (w : World) (e : Ending) (w' : World) : Prop := (∃ r : Bool, e = .returned (.bool r) ∧ (r = true → (n : Int) ≤ many)) ∧ w = w'

set_option maxHeartbeats 800000 in
theorem few (A : Option Addr) (n c : Nat) (many : Int) (sz : Nat → Nat) (w : World) (h : StrsAt w A n sz) (hn : n ≤ 9223372036854775807) :
    Calls Tryz.prog 25 #[.slice A n c, .int .i64 many] w (FewP n many w) := by
  have H := Lib.hid h
  clear h
  go_enter Tryz.func25, Tryz.ntmps25
  go_wp2
  go_loop [5] (fun i => ∃ k : Nat, k ≤ n ∧ i = .int .i64 k) (fun i => n - (intOf i).toNat)
  case atStart => exact ⟨0, Nat.zero_le _, rfl⟩
  case round =>
    obtain ⟨k, hk, rfl⟩ := hrel
    by_cases hlt : k < n
    · obtain ⟨g, off, s, rfl, hc, hs, hm⟩ := H.out k hlt
      have Hs := Lib.hid hs
      clear hs
      unfold maxLen at hm
      have k0 : (0 : Int) ≤ k := by omega
      have k1 : (k : Int) < n := by omega
      by_cases h2 : (200 : Int) < s.size
      · go_wp2
        go_ret
        exact ⟨⟨false, rfl, by simp⟩, rfl⟩
      · go_wp2
        go_round
        case rel => exact ⟨k + 1, by omega, by go_num⟩
        case measure => simp [intOf]; omega
    · have k1 : ¬ (k : Int) < n := by omega
      go_wp2
      go_ret
      exact ⟨⟨_, rfl, by simp⟩, rfl⟩

set_option maxRecDepth 100000 in
set_option maxHeartbeats 800000 in
theorem ids (A B : Option Addr) (n c d : Nat) (l : List Int) (w : World) (ha : Rd w 2 1 A n (l.map (Value.int .i64))) (hb : Rd w 2 1 B n (l.map (Value.int .i64))) (hn : n ≤ 100000) :
    Calls Tryz.prog 31 #[.slice A n c, .slice B n d] w fun e w' => e = .returned (.bool true) ∧ Keeps [] w w' := by
  have hl : l.length = n := by have := ha.1; simpa using this
  have Hl := Lib.hid hl
  have Ha := Lib.hid ha
  have Hb := Lib.hid hb
  clear hl ha hb
  go_enter Tryz.func31, Tryz.ntmps31
  go_wp2
  go_loopw [5] (fun i wr => ∃ k : Nat, k ≤ n ∧ i = .int .i64 k ∧ Keeps [] w wr) (fun i _ => n - (intOf i).toNat)
  case atStart => exact ⟨0, Nat.zero_le _, rfl, Keeps.refl _ _⟩
  case round =>
    obtain ⟨k, hk, rfl, K⟩ := hrel
    by_cases hlt : k < n
    · obtain ⟨u, hu⟩ : ∃ u, l[k]? = some u := ⟨_, List.getElem?_eq_getElem (by rw [Hl.out]; exact hlt)⟩
      obtain ⟨g1, o1, rfl, _, hc1⟩ := (Ha.out.keep K (by simp)).addr (by omega)
      obtain ⟨g2, o2, rfl, _, hc2⟩ := (Hb.out.keep K (by simp)).addr (by omega)
      have x1 : wr.cell? ⟨g1, o1 + k, none⟩ = some (.int .i64 u) := hc1 k _ (by rw [List.getElem?_map, hu]; rfl)
      have x2 : wr.cell? ⟨g2, o2 + k, none⟩ = some (.int .i64 u) := hc2 k _ (by rw [List.getElem?_map, hu]; rfl)
      have k0 : (0 : Int) ≤ k := by omega
      have k1 : (k : Int) < n := by omega
      clear hc1 hc2 hu
      go_wp2
      go_quiet (fail)
      go_wp2
      go_roundw
      case rel => exact ⟨k + 1, by omega, by go_num, K.drewN _⟩
      case measure => simp [intOf]; omega
    · have k1 : ¬ (k : Int) < n := by omega
      go_wp2
      go_ret
      exact ⟨rfl, K⟩

theorem uMark : (Tryz.prog.underlying 77) = some (.pointer 79) := by kernel_rfl
theorem assertMark_int (v : Value) (w : World) : (Instr.typeAssert (.iface 3 v) 20 77 true).run Tryz.prog w = .ok (.tuple #[.pointer none, .bool false]) w := by kernel_rfl
theorem assertInt_int (v : Value) (w : World) : (Instr.typeAssert (.iface 3 v) 20 3 true).run Tryz.prog w = .ok (.tuple #[v, .bool true]) w := by kernel_rfl

set_option maxRecDepth 100000 in
set_option maxHeartbeats 1600000 in
theorem struck (fb : Nat) (q : Nat × Nat) (o : Came) (w : World) (hF : FaultAt w fb ⟨#[]⟩ o.err o.pan) (hM : MRep q o w) (hl : Laid w) (hg0 : 0 < w.heap.size) :
    Calls Tryz.prog 32 #[.iface 126 (ptr fb)] w fun e w' => e = .returned (.int .i64 (100 + (q.2 : Int))) ∧ Keeps [] w w' := by
  have b1 : Blk (w.alloc (.cells #[.pointer none] 126)) w.heap.size 126 #[.pointer none] := Blk.new _ _ _
  have k1 : Keeps [] w (w.alloc (.cells #[.pointer none] 126)) := (Keeps.refl _ _).alloc _
  have l1 := hl.keep k1 (by simp)
  have fbl : fb < w.heap.size := Blk.lt hF
  rcases hM with ⟨_, mb, rfl, hmb⟩ | ⟨_, rfl⟩
  · have F1 : Blk w fb 128 #[.string ⟨#[]⟩, .iface 77 (ptr mb), .nilIface] := hF
    have hh := asHitFa ⟨fb, 0, none⟩ w.heap.size (.pointer none) _ l1 b1
    have HH := Lib.hid hh
    clear hh
    go_enter Tryz.func32, Tryz.ntmps32
    go_wp2_with fail
    refine HH.out.mono ?_
    generalize w.alloc (.cells #[.pointer none] 126) = w1 at *
    rintro e w2 ⟨rfl, b2, k2⟩
    have hs1 := k1.size
    have F2 := k2.blk (k1.blk F1 (by simp)) (by simp; omega)
    have m2 := k2.blk (k1.blk hmb (by simp)) (by simp; have := hmb.lt; omega)
    have l2 := l1.keep k2 (by simp; omega)
    have x2 : w2.cell? ⟨w.heap.size, 0, none⟩ = some (ptr fb) := b2.cell 0
    have y1 : w2.cell? ⟨fb, 1, none⟩ = some (.iface 77 (ptr mb)) := F2.cell 1
    have y2 : w2.cell? ⟨fb, 2, none⟩ = some .nilIface := F2.cell 2
    have sb := b2.lt
    have sf := F2.lt
    have k3 : Keeps [] w2 (w2.alloc (.cells #[.pointer none] 77)) := (Keeps.refl _ _).alloc _
    have b3 : Blk (w2.alloc (.cells #[.pointer none] 77)) w2.heap.size 77 #[.pointer none] := Blk.new _ _ _
    have hh := asHitMa ⟨mb, 0, none⟩ w2.heap.size (.pointer none) _ (l2.keep k3 (by simp)) b3
    have HH2 := Lib.hid hh
    have M3 := k3.blk m2 (by simp)
    clear hh
    go_wp2_with fail
    refine HH2.out.mono ?_
    generalize w2.alloc (.cells #[.pointer none] 77) = w3 at *
    rintro e w4 ⟨rfl, b4, k4⟩
    have M4 := k4.blk M3 (by simp; have := m2.lt; omega)
    have z1 : w4.cell? ⟨w2.heap.size, 0, none⟩ = some (ptr mb) := b4.cell 0
    have z2 : w4.cell? ⟨mb, 0, none⟩ = some (.int .i64 (100 + (q.2 : Int))) := M4.cell 0
    have KK : Keeps [] w w4 := ((k1.trans k2 (fun b hb => .inr (by simp at hb; omega))).trans_nil k3).trans k4 (fun b hb => .inr (by simp at hb; have := k2.size; omega))
    have HK := Lib.hid KK
    clear KK
    go_wp2
    go_ret
    exact ⟨rfl, HK.out⟩
  · have F1 : Blk w fb 128 #[.string ⟨#[]⟩, .nilIface, .iface 3 (.int .i64 (100 + (q.2 : Int)))] := hF
    have hh := asHitFa ⟨fb, 0, none⟩ w.heap.size (.pointer none) _ l1 b1
    have HH := Lib.hid hh
    have am := assertMark_int (.int .i64 (100 + (q.2 : Int)))
    have ai := assertInt_int (.int .i64 (100 + (q.2 : Int)))
    clear hh
    go_enter Tryz.func32, Tryz.ntmps32
    go_wp2_with fail
    refine HH.out.mono ?_
    generalize w.alloc (.cells #[.pointer none] 126) = w1 at *
    rintro e w2 ⟨rfl, b2, k2⟩
    have hs1 := k1.size
    have F2 := k2.blk (k1.blk F1 (by simp)) (by simp; omega)
    have x2 : w2.cell? ⟨w.heap.size, 0, none⟩ = some (ptr fb) := b2.cell 0
    have y1 : w2.cell? ⟨fb, 1, none⟩ = some .nilIface := F2.cell 1
    have y2 : w2.cell? ⟨fb, 2, none⟩ = some (.iface 3 (.int .i64 (100 + (q.2 : Int)))) := F2.cell 2
    have sb := b2.lt
    have sf := F2.lt
    have KK : Keeps [] w (w2.alloc (.cells #[.pointer none] 77)) := (k1.trans k2 (fun b hb => .inr (by simp at hb; omega))).alloc _
    have HK := Lib.hid KK
    clear KK
    go_wp2
    go_ret
    exact ⟨rfl, HK.out⟩
end Go.Proofs.YtkngjgblfappoaaGreatDoor
