/-
  view: cursors and hubs.
-/
import Derived.Test.YtkngjgblfappoaaGreatDoorIdxB
import Derived.Deep.RegionWith
namespace Go.Proofs.YtkngjgblfappoaaGreatDoor
open Go.RowKit (Below intOf Hid)
variable {β : Nat}

theorem infoPCur : (Tryz.prog.info? 56).map (fun i => (i.zero, i.size, i.bytes)) = some (some (.pointer none), 1, 8) := by kernel_rfl

/-- A cursor in memory. -/
def CurAt (w : World) (c x : Nat) (id : Int) (at_ dead : Bool) : Prop := Blk w c 146 #[ptr x, .int .i64 id, .bool at_, .bool dead]
/-- A hub in memory: its open cursors. -/
def HubAt (β : Nat) (w : World) (h : Nat) (cs : List Nat) : Prop := β ≤ h ∧ ∃ A n c, cs.length = n ∧ Blk w h 149 #[.slice A n c] ∧ w.ownsRow β 56 1 (.slice A n c) n (cs.map ptr)
theorem HubAt.chg {S : List TypeId} {B : List Nat} {w w' : World} {h : Nat} {cs : List Nat} (hh : HubAt β w h cs) (k : Chg β S B w w') (h1 : 149 ∉ S) (h2 : 56 ∉ S) : HubAt β w' h cs := by
  obtain ⟨h0, A, n, c, hl, hb, ho⟩ := hh
  exact ⟨h0, A, n, c, hl, k.blk hb h1, k.own ho h2⟩
/-- In this world and in those that keep all of it ids answers l. -/
def IdsOk (x : Nat) (l : List Int) (w : World) : Prop := ∀ w', Keeps [] w w' → Calls Tryz.prog 77 #[ptr x] w' (IdsP l w')
theorem IdsOk.same {x : Nat} {l : List Int} {w w' : World} (h : IdsOk x l w) (k : Keeps [] w w') : IdsOk x l w' := fun w2 k2 => h w2 (k.trans_nil k2)
theorem IdxQ.ids {w : World} {x km kn sx t m n : Nat} {l : List Int} (h : IdxQ β w x km kn sx t m n l) (hB : l.length ≤ 100000) : IdsOk x l w := fun w' k => qIds x km kn sx t m n l w' (h.same k) hB

theorem hubNew (w : World) (hβ : β ≤ w.heap.size) : Calls Tryz.prog 38 #[] w fun e w' => ∃ h, e = .returned (ptr h) ∧ HubAt β w' h [] ∧ Keeps [] w w' ∧ w.heap.size ≤ h := by
  go_enter Tryz.func38, Tryz.ntmps38
  go_wp2
  go_ret
  exact ⟨_, rfl, ⟨hβ, none, 0, 0, rfl, Blk.new _ _ _, World.ownsRow_nil _ _ _ _⟩, (Keeps.refl _ _).alloc _, Nat.le_refl _⟩
theorem hubLen (h : Nat) (cs : List Nat) (w : World) (hh : HubAt β w h cs) : Calls Tryz.prog 65 #[ptr h] w fun e w' => e = .returned (.int .i64 cs.length) ∧ w = w' := by
  obtain ⟨_, A, n, c, hl, hb, ho⟩ := hh
  rw [hl]
  have c0 : w.cell? ⟨h, 0, none⟩ = some (.slice A n c) := hb.cell 0
  clear hl
  go_enter Tryz.func65, Tryz.ntmps65
  go_wp2
  go_ret
  exact ⟨rfl, rfl⟩
theorem curDead (c x : Nat) (id : Int) (at_ dead : Bool) (w : World) (h : CurAt w c x id at_ dead) : Calls Tryz.prog 64 #[ptr c] w fun e w' => e = .returned (.bool dead) ∧ w = w' := by
  have c3 : w.cell? ⟨c, 3, none⟩ = some (.bool dead) := Blk.cell h 3
  go_enter Tryz.func64, Tryz.ntmps64
  go_wp2
  go_ret
  exact ⟨rfl, rfl⟩
theorem curRow (c x : Nat) (id : Int) (at_ : Bool) (w : World) (h : CurAt w c x id at_ false) : Calls Tryz.prog 24 #[ptr c] w fun e w' => e = .returned (.tuple #[.int .i64 (if at_ then id else 0), .bool at_]) ∧ w = w' := by
  have c1 : w.cell? ⟨c, 1, none⟩ = some (.int .i64 id) := Blk.cell h 1
  have c2 : w.cell? ⟨c, 2, none⟩ = some (.bool at_) := Blk.cell h 2
  have c3 : w.cell? ⟨c, 3, none⟩ = some (.bool false) := Blk.cell h 3
  cases at_
  · go_enter Tryz.func24, Tryz.ntmps24
    go_wp2
    go_ret2
    exact ⟨rfl, rfl⟩
  · go_enter Tryz.func24, Tryz.ntmps24
    go_wp2
    go_ret2
    exact ⟨rfl, rfl⟩
theorem curStands (c x : Nat) (id : Int) (at_ dead : Bool) (id' : Int) (ok : Bool) (w : World) (h : CurAt w c x id at_ dead) :
    Calls Tryz.prog 69 #[ptr c, .int .i64 id', .bool ok] w fun e w' => e = .returned (.bool ok) ∧ CurAt w' c x id' ok dead ∧ Keeps [c] w w' := by
  have c1 : w.cell? ⟨c, 1, none⟩ = some (.int .i64 id) := Blk.cell h 1
  have c2 : w.cell? ⟨c, 2, none⟩ = some (.bool at_) := Blk.cell h 2
  have f1 : w.frozen? ⟨c, 1, none⟩ = false := Blk.free h 1
  have f2 : w.frozen? ⟨c, 2, none⟩ = false := Blk.free h 2
  go_enter Tryz.func69, Tryz.ntmps69
  go_wp2
  go_ret
  exact ⟨rfl, (Blk.set h 1 _).set 2 _, ((Keeps.refl _ _).setCell (.inl (by simp)) _).setCell (.inl (by simp)) _⟩

theorem atV_form (l : List Int) (i : Int) : ∃ id ok, atV l i = .tuple #[.int .i64 id, .bool ok] := by unfold atV; split <;> exact ⟨_, _, rfl⟩
theorem besideV.ints {l : List Int} {a far : Int} {v : Value} (h : besideV l a far v) : ∃ id ok, v = .tuple #[.int .i64 id, .bool ok] := by
  rcases h with ⟨_, rfl⟩ | ⟨k, _, _, rfl⟩
  · exact ⟨_, _, rfl⟩
  · exact atV_form _ _

set_option maxHeartbeats 800000 in
theorem curFirst (c x : Nat) (id : Int) (at_ : Bool) (l : List Int) (w : World) (h : CurAt w c x id at_ false) (hids : IdsOk x l w) :
    Calls Tryz.prog 67 #[ptr c] w fun e w' => ∃ id' ok, atV l 0 = .tuple #[.int .i64 id', .bool ok] ∧ e = .returned (.bool ok) ∧ CurAt w' c x id' ok false ∧ Keeps [c] w w' := by
  have c0 : w.cell? ⟨c, 0, none⟩ = some (ptr x) := Blk.cell h 0
  have c3 : w.cell? ⟨c, 3, none⟩ = some (.bool false) := Blk.cell h 3
  obtain ⟨id', ok, hv⟩ := atV_form l 0
  have hf := idxFirst x l w (hids w (Keeps.refl _ _))
  rw [hv] at hf
  have Hv := Lib.hid hv
  clear hv
  go_enter Tryz.func67, Tryz.ntmps67
  go_wp2_with (first
    | (go_at_call 33; refine hf.mono ?_; rintro e w1 ⟨rfl, hk⟩; have h1 : CurAt w1 c x id at_ false := hk.blk h (by simp))
    | (go_at_call 69; refine (curStands c x id at_ false id' ok _ h1).mono ?_; rintro e w2 ⟨rfl, h2, hk2⟩))
  go_ret
  exact ⟨id', ok, Hv.out, rfl, h2, (hk.mono (by simp)).trans hk2 (fun b hb => .inl hb)⟩

set_option maxHeartbeats 800000 in
theorem curTo (c x : Nat) (id : Int) (at_ : Bool) (l : List Int) (a : Int) (w : World) (h : CurAt w c x id at_ false) (hids : IdsOk x l w) (ha : a ∈ l) (hB : l.length ≤ 100000) :
    Calls Tryz.prog 21 #[ptr c, .int .i64 a] w fun e w' => e = .returned (.bool true) ∧ CurAt w' c x a true false ∧ Keeps [c] w w' := by
  have c0 : w.cell? ⟨c, 0, none⟩ = some (ptr x) := Blk.cell h 0
  have c3 : w.cell? ⟨c, 3, none⟩ = some (.bool false) := Blk.cell h 3
  have hp := idxPlace x l a w (hids w (Keeps.refl _ _)) hB
  rw [show decide (a ∈ l) = true from by simp [ha]] at hp
  go_enter Tryz.func21, Tryz.ntmps21
  go_wp2_with (first
    | (go_at_call 68; refine hp.mono ?_; rintro e w1 ⟨⟨k, rfl, _⟩, hk⟩; have h1 : CurAt w1 c x id at_ false := hk.blk h (by simp))
    | (go_at_call 69; refine (curStands c x id at_ false a true _ h1).mono ?_; rintro e w2 ⟨rfl, h2, hk2⟩))
  go_ret
  exact ⟨rfl, h2, (hk.mono (by simp)).trans hk2 (fun b hb => .inl hb)⟩

set_option maxRecDepth 100000 in
set_option maxHeartbeats 800000 in
theorem curNext (c x : Nat) (id : Int) (l : List Int) (w : World) (h : CurAt w c x id true false) (hids : IdsOk x l w) (hB : l.length ≤ 100000) :
    Calls Tryz.prog 40 #[ptr c] w fun e w' => ∃ id' ok, besideV l id 1 (.tuple #[.int .i64 id', .bool ok]) ∧ e = .returned (.bool ok) ∧ CurAt w' c x id' ok false ∧ Keeps [c] w w' := by
  have c0 : w.cell? ⟨c, 0, none⟩ = some (ptr x) := Blk.cell h 0
  have c1 : w.cell? ⟨c, 1, none⟩ = some (.int .i64 id) := Blk.cell h 1
  have c2 : w.cell? ⟨c, 2, none⟩ = some (.bool true) := Blk.cell h 2
  have c3 : w.cell? ⟨c, 3, none⟩ = some (.bool false) := Blk.cell h 3
  have hf := idxFollows x l id w.drew (hids _ (Keeps.refl _ _).drew) hB
  go_enter Tryz.func40, Tryz.ntmps40
  go_wp2_with fail
  go_region_with (first
    | (go_at_call 34
       refine hf.mono ?_
       rintro e w1 ⟨⟨v, rfl, hv⟩, hk⟩
       obtain ⟨id', ok, rfl⟩ := hv.ints
       have h1 : CurAt w1 c x id true false := (Keeps.of_drew hk).blk h (by simp)
       have Hv := Lib.hid hv
       clear hv)
    | (go_at_call 69
       refine (curStands c x id true false id' ok _ h1).mono ?_
       rintro e w2 ⟨rfl, h2, hk2⟩))
  all_goals
    go_wp2
    go_ret
    exact ⟨id', ok, Hv.out, rfl, h2, ((Keeps.of_drew hk).mono (by simp)).trans hk2 (fun b hb => .inl hb)⟩

theorem curNext_end (c x : Nat) (id : Int) (w : World) (h : CurAt w c x id false false) : Calls Tryz.prog 40 #[ptr c] w fun e w' => e = .returned (.bool false) ∧ w = w' := by
  have c2 : w.cell? ⟨c, 2, none⟩ = some (.bool false) := Blk.cell h 2
  have c3 : w.cell? ⟨c, 3, none⟩ = some (.bool false) := Blk.cell h 3
  go_enter Tryz.func40, Tryz.ntmps40
  go_wp2
  go_ret
  exact ⟨rfl, rfl⟩

/-- What Going makes of a cursor. -/
def goneTo (l : List Int) (id : Int) (at_ : Bool) (a : Int) (id' : Int) (ok : Bool) : Prop :=
  (¬ (at_ = true ∧ id = a) ∧ id' = id ∧ ok = at_) ∨ (at_ = true ∧ id = a ∧ besideV l id 1 (.tuple #[.int .i64 id', .bool ok]))

set_option maxRecDepth 100000 in
set_option maxHeartbeats 800000 in
theorem hubGoing (h c x : Nat) (id : Int) (at_ : Bool) (l : List Int) (a : Int) (w : World) (hh : HubAt β w h [c]) (hc : CurAt w c x id at_ false) (hids : IdsOk x l w) (hB : l.length ≤ 100000) :
    Calls Tryz.prog 22 #[ptr h, .int .i64 a] w fun e w' => e = .returned (.tuple #[]) ∧ ∃ id' ok, goneTo l id at_ a id' ok ∧ CurAt w' c x id' ok false ∧ Keeps [c] w w' := by
  obtain ⟨_, A, n, cp, hl, hb, ho⟩ := hh
  obtain rfl : n = 1 := by simpa using hl.symm
  obtain ⟨g, cap, cur, hv, _, hg, _, _, _, htk⟩ := own_blk ho (by omega)
  obtain ⟨rfl, rfl⟩ : A = some ⟨g, 0, none⟩ ∧ cp = cap := by injection hv with h1 h2 h3; exact ⟨h1, h3⟩
  have c0 : w.cell? ⟨h, 0, none⟩ = some (.slice (some ⟨g, 0, none⟩) 1 cp) := hb.cell 0
  have e0 : w.cell? ⟨g, 0, none⟩ = some (ptr c) := own_at ho (by rfl)
  clear htk hl hv
  have hrow := curRow c x id at_ w hc
  cases at_
  · go_enter Tryz.func22, Tryz.ntmps22
    go_wp2
    refine wp_loop_rounds 2 ?_
    rw [rounds_succ]
    go_wp2_with (go_at_call 24; refine hrow.mono ?_; rintro e w1 ⟨rfl, rfl⟩)
    rw [rounds_succ]
    go_wp2
    go_end0
    exact ⟨rfl, id, false, .inl ⟨by simp, rfl, rfl⟩, hc, Keeps.refl _ _⟩
  · rw [if_pos rfl] at hrow
    by_cases hid : id = a
    · have hq : (id == a) = true := by simpa using hid
      have Hid' := Lib.hid hid
      clear hid
      go_enter Tryz.func22, Tryz.ntmps22
      go_wp2
      refine wp_loop_rounds 2 ?_
      rw [rounds_succ]
      go_wp2_with (first
        | (go_at_call 24; refine hrow.mono ?_; rintro e w1 ⟨rfl, rfl⟩)
        | (go_at_call 40; refine (curNext c x id l _ hc hids hB).mono ?_; rintro e w2 ⟨id', ok, hbe, rfl, hc2, hk2⟩; have Hbe := Lib.hid hbe; clear hbe))
      rw [rounds_succ]
      go_wp2
      go_end0
      exact ⟨rfl, id', ok, .inr ⟨rfl, Hid'.out, Hbe.out⟩, hc2, hk2⟩
    · have hq : (id == a) = false := by simpa using hid
      have Hid' := Lib.hid hid
      clear hid
      go_enter Tryz.func22, Tryz.ntmps22
      go_wp2
      refine wp_loop_rounds 2 ?_
      rw [rounds_succ]
      go_wp2_with (go_at_call 24; refine hrow.mono ?_; rintro e w1 ⟨rfl, rfl⟩)
      rw [rounds_succ]
      go_wp2
      go_end0
      exact ⟨rfl, id, true, .inl ⟨fun hh => Hid'.out hh.2, rfl, rfl⟩, hc, Keeps.refl _ _⟩

theorem fieldKind (nm : ByteArray) (k : Int) (pA : Option Addr) (pn pc : Nat) (cm : Int) (w : World) : (Instr.field 28 (.agg #[.string nm, .int .i64 k, .slice pA pn pc, .int .i64 cm]) 1).run Tryz.prog w = .ok (.int .i64 k) w := by kernel_rfl
/-- Def answers an ordered kind. -/
def DefOk (x : Nat) (w : World) : Prop := ∀ w', Keeps [] w w' → Calls Tryz.prog 66 #[ptr x] w' fun e w'' => (∃ nm k pA pn pc cm, e = .returned (.agg #[.string nm, .int .i64 k, .slice pA pn pc, .int .i64 cm]) ∧ (k == 1) = false ∧ (k == 2) = false) ∧ Keeps [] w' w''
theorem IdxQ.defOk {w : World} {x km kn sx t m n : Nat} {l : List Int} (h : IdxQ β w x km kn sx t m n l) : DefOk x w := fun w' k => (qDef x km kn sx t m n l w' (h.same k)).mono fun _ _ hh => by
  obtain ⟨⟨nm, rfl⟩, hk⟩ := hh
  exact ⟨⟨_, _, _, _, _, _, rfl, rfl, rfl⟩, hk⟩

set_option maxRecDepth 100000 in
set_option maxHeartbeats 800000 in
theorem hubOpen (h x : Nat) (cs : List Nat) (l : List Int) (w : World) (hh : HubAt β w h cs) (hids : IdsOk x l w) (hdef : DefOk x w) (hn : cs.length ≤ 1000) :
    Calls Tryz.prog 20 #[ptr h, ptr x] w fun e w' => ∃ c id ok, e = .returned (.tuple #[ptr c, .int .i64 0]) ∧ atV l 0 = .tuple #[.int .i64 id, .bool ok] ∧ CurAt w' c x id ok false ∧ HubAt β w' h (cs ++ [c]) ∧ Chg β [149, 56] [] w w' ∧ w.heap.size ≤ c := by
  obtain ⟨i0, hi0, hz0, hz1, hz2⟩ := info_parts infoPCur
  have hd := hdef w (Keeps.refl _ _)
  have hfd := fieldKind
  have Hn := Lib.hid hn
  clear hn
  go_enter Tryz.func20, Tryz.ntmps20
  go_wp2_with (go_at_call 66; refine hd.mono ?_; rintro e w1 ⟨⟨nm, k, pA, pn, pc, cm, rfl, q1, q2⟩, hk1⟩)
  have C1 : Chg β [149, 56] [] w w1 := Chg.of_keeps hk1
  have KC : Keeps [] w1 (w1.alloc (.cells #[ptr x, .int .i64 0, .bool false, .bool false] 146)) := (Keeps.refl _ _).alloc _
  have hc1 : CurAt (w1.alloc (.cells #[ptr x, .int .i64 0, .bool false, .bool false] 146)) w1.heap.size x 0 false false := Blk.new _ _ _
  have hi1 : IdsOk x l (w1.alloc (.cells #[ptr x, .int .i64 0, .bool false, .bool false] 146)) := hids.same (hk1.trans_nil KC)
  have hs1 := hk1.size
  go_wp2_with (first
    | (go_at_call 67
       refine (curFirst w1.heap.size x 0 false l _ hc1 hi1).mono ?_
       rintro e w2 ⟨id, ok, hv, rfl, hc2, hk2⟩
       have Hv := Lib.hid hv
       clear hv
       have K2 : Keeps [] w w2 := (hk1.trans_nil KC).trans hk2 (fun b hb => .inr (by simp at hb; omega))
       have C2 : Chg β [149, 56] [] w w2 := Chg.of_keeps K2
       obtain ⟨h00, A, n, cp, hl, hb0, ho0⟩ := hh
       have hbs := hb0.lt
       have hb := K2.blk hb0 (by simp)
       have ho := own_keep ho0 K2 (by simp)
       have c0 : w2.cell? ⟨h, 0, none⟩ = some (.slice A n cp) := hb.cell 0
       have f0 : w2.frozen? ⟨h, 0, none⟩ = false := hb.free 0
       have hn : n ≤ 1000 := by rw [← hl]; exact Hn.out
       have Hl := Lib.hid hl
       clear hl)
    | (at_builtin
       refine wpList_append_rd _ rfl (.tmp 26) (.tmp 28) _ rfl β 56 i0 _ 1 8 Tryz.underlying147 hi0 hz0 hz1 hz2 rfl (by omega) (.slice A n cp) n (cs.map ptr) rfl (ho.alloc _) (some ⟨w2.heap.size, 0, none⟩) 1 1 [ptr w1.heap.size] rfl (own_rd (own_new (base := 0) (k := 1) (Nat.zero_le _) (by decide) (by simp)) (Cells1.ptrs [w1.heap.size])) (by unfold maxLen; omega) (by omega) (by have := K2.size; simp; omega) ?_
       intro v3 w3 hown hg _
       have k3 : Keeps (obs (.slice A n cp)) w2 w3 := ((Keeps.refl _ w2).alloc _).trans (keeps_grown hg) (fun b hb => .inl hb)
       have C3 : Chg β [56] [] w2 w3 := chg_row ho k3 (by simp)
       have hb3 := C3.blk hb (by decide)
       have c3 : w3.cell? ⟨h, 0, none⟩ = some (.slice A n cp) := hb3.cell 0
       have f3 : w3.frozen? ⟨h, 0, none⟩ = false := hb3.free 0
       obtain ⟨A', c', rfl, _, _⟩ := own_form hown))
  go_ret2
  have k4 : Keeps [h] w3 (w3.setCell ⟨h, 0, none⟩ (.slice A' (n + 1) c')) := (Keeps.refl _ _).setCell (.inl (by simp)) _
  have C4 : Chg β [149, 56] [] w3 (w3.setCell ⟨h, 0, none⟩ (.slice A' (n + 1) c')) := chg_cells hb3 k4 (by simp) h00
  have C4' : Chg β [149] [] w3 (w3.setCell ⟨h, 0, none⟩ (.slice A' (n + 1) c')) := chg_cells hb3 k4 (by simp) h00
  refine ⟨w1.heap.size, id, ok, rfl, Hv.out, ?_, ⟨h00, A', n + 1, c', by simp [Hl.out], hb3.set 0 _, ?_⟩, C2.trans ((C3.mono (by simp) (by simp)).trans C4), hs1⟩
  · exact C4'.blk (C3.blk hc2 (by decide)) (by decide)
  · rw [List.map_append]
    exact C4'.own hown (by decide)
end Go.Proofs.YtkngjgblfappoaaGreatDoor
