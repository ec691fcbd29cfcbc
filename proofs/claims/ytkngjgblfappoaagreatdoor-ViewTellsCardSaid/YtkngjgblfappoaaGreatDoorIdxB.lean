/-
  index: what it tells: Contents and ids of a sequence; at, beside, Follows, First, Place; Def.
-/
import Derived.Test.YtkngjgblfappoaaGreatDoorIdxA
import Derived.Lib.MinMax
namespace Go.Proofs.YtkngjgblfappoaaGreatDoor
open Go.RowKit (Below intOf Hid)
variable {β : Nat}

/-- What ids answers: the rows, in order. -/
def IdsP (l : List Int) (w : World) (e : Ending) (w' : World) : Prop := ∃ A c, e = .returned (.slice A l.length c) ∧ Rd w' 2 1 A l.length (l.map (Value.int .i64)) ∧ Keeps [] w w'

set_option maxRecDepth 100000 in
set_option maxHeartbeats 800000 in
theorem qContents (x km kn sx t m n : Nat) (l : List Int) (w : World) (h : IdxQ β w x km kn sx t m n l) (hB : l.length ≤ 100000) :
    Calls Tryz.prog 44 #[ptr x] w fun e w' => ∃ A c, e = .returned (.agg #[nils, .slice A l.length c]) ∧ Rd w' 2 1 A l.length (l.map (Value.int .i64)) ∧ Keeps [] w w' := by
  have K0 : Keeps [] w (w.alloc (.cells #[nils, nils] 94)) := (Keeps.refl _ _).alloc _
  have h0 := h.same K0
  have c7 := h0.c7
  have c8 := h0.c8
  have c9 := h0.c9
  have c11 := h0.c11
  go_enter Tryz.func44, Tryz.ntmps44
  go_wp2_with fail
  refine (seqAll sx t m n l _ h0.seq (by omega)).mono ?_
  rintro e w1 ⟨A, c, rfl, hrd, _, _, hk⟩
  have hb : Blk w1 w.heap.size 94 #[nils, nils] := hk.blk (Blk.new _ _ _) (by simp)
  have kw : Keeps [] w w1 := K0.trans_nil hk
  generalize hg : w.heap.size = g at *
  have Hg := Lib.hid hg
  clear hg
  have b0 : w1.cell? ⟨g, 0, none⟩ = some nils := hb.cell 0
  have b1 : w1.cell? ⟨g, 1, none⟩ = some nils := hb.cell 1
  have f0 : w1.frozen? ⟨g, 0, none⟩ = false := hb.free 0
  have f1 : w1.frozen? ⟨g, 1, none⟩ = false := hb.free 1
  go_wp2
  have k2 : Keeps [g] w1 (w1.setCell ⟨g, 0, none⟩ (.slice none 0 0)) := (Keeps.refl _ _).setCell (.inl (by simp)) _
  have k3 : Keeps [g] (w1.setCell ⟨g, 0, none⟩ (.slice none 0 0)) ((w1.setCell ⟨g, 0, none⟩ (.slice none 0 0)).setCell ⟨g, 1, none⟩ (.slice A l.length c)) := (Keeps.refl _ _).setCell (.inl (by simp)) _
  have hb3 := (hb.set 0 (.slice none 0 0)).set 1 (.slice A l.length c)
  have kw3 := (kw.trans k2 (fun b hb => .inr (by rw [Hg.out]; simp at hb; omega))).trans k3 (fun b hb => .inr (by rw [Hg.out]; simp at hb; omega))
  have hrd3 := (hrd.keep k2 (by intro b hb'; rw [List.mem_singleton.1 hb']; exact hb.noTag (by decide))).keep k3 (by intro b hb'; rw [List.mem_singleton.1 hb']; exact (hb.set 0 _).noTag (by decide))
  generalize (w1.setCell ⟨g, 0, none⟩ (.slice none 0 0)).setCell ⟨g, 1, none⟩ (.slice A l.length c) = W at *
  have r0 : W.cell? ⟨g, 0, none⟩ = some nils := hb3.cell 0
  have r1 : W.cell? ⟨g, 1, none⟩ = some (.slice A l.length c) := hb3.cell 1
  refine bodyPost_ret (v := .agg #[nils, .slice A l.length c]) (by simp [results, Tryz.f44]; go_simp) rfl ?_
  exact ⟨A, c, rfl, hrd3, kw3⟩

set_option maxRecDepth 100000 in
set_option maxHeartbeats 800000 in
theorem qIds (x km kn sx t m n : Nat) (l : List Int) (w : World) (h : IdxQ β w x km kn sx t m n l) (hB : l.length ≤ 100000) : Calls Tryz.prog 77 #[ptr x] w (IdsP l w) := by
  have c7 := h.c7
  go_enter Tryz.func77, Tryz.ntmps77
  go_wp2_with (go_at_call 44; refine (qContents x km kn sx t m n l _ h hB).mono ?_; rintro e w1 ⟨A, c, rfl, hrd, hk⟩)
  refine wp_loop_rounds 1 ?_
  rw [rounds_succ]
  go_wp2
  go_ret
  exact ⟨A, c, rfl, hrd.alloc _, hk.alloc _⟩

/-- What at answers. -/
def atV (l : List Int) (i : Int) : Value := if 0 ≤ i ∧ i < l.length then .tuple #[.int .i64 (l.getD i.toNat 0), .bool true] else .tuple #[.int .i64 0, .bool false]
set_option maxHeartbeats 800000 in
theorem idxAt (A : Option Addr) (n c : Nat) (l : List Int) (i : Int) (w : World) (hr : Rd w 2 1 A n (l.map (Value.int .i64))) : Calls Tryz.prog 76 #[.slice A n c, .int .i64 i] w fun e w' => e = .returned (atV l i) ∧ w = w' := by
  have hl : l.length = n := by have := hr.1; simpa using this
  unfold atV
  rw [hl]
  by_cases h0 : 0 ≤ i
  · by_cases h1 : i < n
    · obtain ⟨k, rfl⟩ : ∃ k : Nat, i = k := ⟨i.toNat, by omega⟩
      have b0 : decide ((k : Int) < 0) = false := by simp
      have b1 : decide ((n : Int) ≤ k) = false := by simp; omega
      have b1' : decide (n ≤ k) = false := by simp; omega
      obtain ⟨g, off, rfl, _, hc⟩ := hr.cellAt (j := k) (u := .int .i64 (l.getD k 0)) (by
        rw [List.getElem?_map, List.getD_eq_getElem?_getD, List.getElem?_eq_getElem (by omega)]; rfl)
      rw [if_pos ⟨h0, h1⟩]
      have Hl := Lib.hid hl
      clear hl hr
      have e : ((k : Int)).toNat = k := by omega
      rw [e]
      generalize l.getD k 0 = u at *
      go_enter Tryz.func76, Tryz.ntmps76
      go_wp2
      go_ret2
      exact ⟨rfl, rfl⟩
    · have b0 : decide (i < 0) = false := by simp; omega
      have b1 : decide ((n : Int) ≤ i) = true := by simp; omega
      rw [if_neg (fun h => h1 h.2)]
      clear hr hl
      go_enter Tryz.func76, Tryz.ntmps76
      go_wp2
      go_ret2
      exact ⟨rfl, rfl⟩
  · have b0 : decide (i < 0) = true := by simp; omega
    rw [if_neg (fun h => h0 h.1)]
    clear hr hl
    go_enter Tryz.func76, Tryz.ntmps76
    go_wp2
    go_ret2
    exact ⟨rfl, rfl⟩

/-- The row so far behind one. -/
def besideV (l : List Int) (a : Int) (far : Int) (v : Value) : Prop := (a ∉ l ∧ v = .tuple #[.int .i64 0, .bool false]) ∨ ∃ k : Nat, l[k]? = some a ∧ a ∉ l.take k ∧ v = atV l (k + far)
set_option maxHeartbeats 800000 in
theorem idxBeside (x : Nat) (l : List Int) (a far : Int) (w : World) (hids : Calls Tryz.prog 77 #[ptr x] w (IdsP l w)) (hB : l.length ≤ 100000) (hf : -10 ≤ far) (hf2 : far ≤ 10) :
    Calls Tryz.prog 78 #[ptr x, .int .i64 a, .int .i64 far] w fun e w' => (∃ v, e = .returned v ∧ besideV l a far v) ∧ Keeps [] w w' := by
  go_enter Tryz.func78, Tryz.ntmps78
  go_wp2_with (go_at_call 77; refine hids.mono ?_; rintro e w1 ⟨A, c, rfl, hrd, hk⟩)
  refine (indexInt A _ c l a _ hrd hB).mono ?_
  rintro e w2 ⟨r, rfl, hidx, rfl⟩
  rcases hidx with ⟨rfl, hno⟩ | ⟨k, rfl, hk2, hk3⟩
  · have Hno := Lib.hid hno
    clear hno
    go_wp2
    go_ret2
    exact ⟨⟨_, rfl, .inl ⟨Hno.out, rfl⟩⟩, hk⟩
  · have hkl := (List.getElem?_eq_some_iff.1 hk2).1
    have Hk2 := Lib.hid hk2
    have Hk3 := Lib.hid hk3
    have s1 : IntKind.i64.wrap ((k : Int) + far) = (k : Int) + far := IntWalk.i64_in _ (by omega)
    clear hk2 hk3
    have hat := idxAt A l.length c l ((k : Int) + far) w1 hrd
    have hv : ∃ u b, atV l ((k : Int) + far) = .tuple #[u, b] := by unfold atV; split <;> exact ⟨_, _, rfl⟩
    obtain ⟨u, b, hv⟩ := hv
    rw [hv] at hat
    have Hv := Lib.hid hv
    clear hv
    go_wp2_with (go_at_call 76; refine hat.mono ?_; rintro e w3 ⟨rfl, rfl⟩)
    go_ret2
    exact ⟨⟨_, rfl, .inr ⟨k, Hk2.out, Hk3.out, Hv.out.symm⟩⟩, hk⟩
theorem besideV.form {l : List Int} {a far : Int} {v : Value} (h : besideV l a far v) : ∃ u b, v = .tuple #[u, b] := by
  rcases h with ⟨_, rfl⟩ | ⟨k, _, _, rfl⟩
  · exact ⟨_, _, rfl⟩
  · unfold atV; split <;> exact ⟨_, _, rfl⟩

set_option maxHeartbeats 800000 in
theorem idxFollows (x : Nat) (l : List Int) (a : Int) (w : World) (hids : Calls Tryz.prog 77 #[ptr x] w (IdsP l w)) (hB : l.length ≤ 100000) :
    Calls Tryz.prog 34 #[ptr x, .int .i64 a] w fun e w' => (∃ v, e = .returned v ∧ besideV l a 1 v) ∧ Keeps [] w w' := by
  go_enter Tryz.func34, Tryz.ntmps34
  go_wp2_with (go_at_call 78; refine (idxBeside x l a 1 _ hids hB (by omega) (by omega)).mono ?_; rintro e w1 ⟨⟨v, rfl, hv⟩, hk⟩; obtain ⟨u, b, rfl⟩ := hv.form)
  go_ret2
  exact ⟨⟨_, rfl, hv⟩, hk⟩

set_option maxHeartbeats 800000 in
theorem idxFirst (x : Nat) (l : List Int) (w : World) (hids : Calls Tryz.prog 77 #[ptr x] w (IdsP l w)) :
    Calls Tryz.prog 33 #[ptr x] w fun e w' => e = .returned (atV l 0) ∧ Keeps [] w w' := by
  have hv : ∃ u b, atV l 0 = .tuple #[u, b] := by unfold atV; split <;> exact ⟨_, _, rfl⟩
  obtain ⟨u, b, hv⟩ := hv
  rw [hv]
  go_enter Tryz.func33, Tryz.ntmps33
  go_wp2_with (first
    | (go_at_call 77; refine hids.mono ?_; rintro e w1 ⟨A, c, rfl, hrd, hk⟩; have hat := idxAt A l.length c l 0 w1 hrd; rw [hv] at hat)
    | (go_at_call 76; refine hat.mono ?_; rintro e w3 ⟨rfl, rfl⟩))
  go_ret2
  exact ⟨rfl, hk⟩

set_option maxHeartbeats 800000 in
theorem idxPlace (x : Nat) (l : List Int) (a : Int) (w : World) (hids : Calls Tryz.prog 77 #[ptr x] w (IdsP l w)) (hB : l.length ≤ 100000) :
    Calls Tryz.prog 68 #[ptr x, .int .i64 a] w fun e w' => (∃ k : Int, e = .returned (.tuple #[.int .i64 k, .bool (decide (a ∈ l))]) ∧ (a ∈ l → ∃ i : Nat, k = i ∧ l[i]? = some a)) ∧ Keeps [] w w' := by
  go_enter Tryz.func68, Tryz.ntmps68
  go_wp2_with (go_at_call 77; refine hids.mono ?_; rintro e w1 ⟨A, c, rfl, hrd, hk⟩)
  refine (indexInt A _ c l a _ hrd hB).mono ?_
  rintro e w2 ⟨r, rfl, hidx, rfl⟩
  rcases hidx with ⟨rfl, hno⟩ | ⟨k, rfl, hk2, hk3⟩
  · have Hno := Lib.hid hno
    have Hd := Lib.hid (show decide (a ∈ l) = false from by simp [hno])
    clear hno
    go_wp2
    go_ret2
    rw [Hd.out]
    exact ⟨⟨_, rfl, fun h => absurd h Hno.out⟩, hk⟩
  · have Hk2 := Lib.hid hk2
    have Hd := Lib.hid (show decide (a ∈ l) = true from by simp [List.mem_of_getElem? hk2])
    clear hk2 hk3
    have hmx : max (k : Int) 0 = k := by omega
    go_wp2
    go_ret2
    rw [Hd.out]
    exact ⟨⟨_, rfl, fun _ => ⟨k, rfl, Hk2.out⟩⟩, hk⟩

set_option maxRecDepth 100000 in
set_option maxHeartbeats 800000 in
theorem qDef (x km kn sx t m n : Nat) (l : List Int) (w : World) (h : IdxQ β w x km kn sx t m n l) :
    Calls Tryz.prog 66 #[ptr x] w fun e w' => (∃ nm, e = .returned (.agg #[.string nm, .int .i64 5, nils, .int .i64 (-1)])) ∧ Keeps [] w w' := by
  have h0 := h.same ((Keeps.refl [] w).alloc (.cells #[.string ⟨#[]⟩, .int .i64 0, .slice none 0 0, .int .i64 0] 28))
  obtain ⟨nm, c0⟩ := h0.c0
  have c1 := h0.c1
  have c2 := h0.c2
  have c3 := h0.c3
  go_enter Tryz.func66, Tryz.ntmps66
  go_wp2_with (go_at_call 45; refine (cloneParts_nil _).mono ?_; rintro e w1 ⟨rfl, rfl⟩)
  refine bodyPost_ret (v := .agg #[.string nm, .int .i64 5, nils, .int .i64 (-1)]) (by simp [results, Tryz.f66]; go_simp) rfl ?_
  exact ⟨⟨nm, rfl⟩, ((Keeps.refl _ _).alloc _).alloc _⟩
end Go.Proofs.YtkngjgblfappoaaGreatDoor
