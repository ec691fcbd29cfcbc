/-
  index: the struct; a sequence: New, twice, place, puts, takes.
-/
import Derived.Test.YtkngjgblfappoaaGreatDoorSeq
import Derived.Test.YtkngjgblfappoaaGreatDoorUndo
import Derived.StillTailTactics
namespace Go.Proofs.YtkngjgblfappoaaGreatDoor
open Go.RowKit (Below intOf Hid)
variable {β : Nat}

abbrev nils : Value := .slice none 0 0
abbrev nilp : Value := .pointer none
/-- An index's cells. -/
def idxCells (nm : ByteArray) (kind : Int) (parts : Value) (cmp : Int) (ex cm : Value) (km : Nat) (h o s p t : Value) : Array Value := #[.string nm, .int .i64 kind, parts, .int .i64 cmp, ex, cm, .map (some km), h, o, s, p, t]

/-- The keys of rows that have none. -/
noncomputable def kf (l : List Int) : Lit → Option Value := fun k => (sf l k).map fun _ => nils
theorem kf_is {l : List Int} {a : Int} : (kf l (.int .i64 a)).isSome = decide (a ∈ l) := by
  unfold kf; rw [Option.isSome_map, sf_is]
theorem kf_get (l : List Int) (k : Lit) : (kf l k).getD nils = nils := by
  unfold kf; cases sf l k <;> rfl
theorem upd_map (f : Lit → Option Value) (k : Lit) (v : Option Value) (g : Value → Value) : upd (fun k => (f k).map g) k (v.map g) = fun k' => (upd f k v k').map g := by
  funext k'
  unfold upd
  split <;> rfl
theorem kf_put (l l' : List Int) (a : Int) (h : ∀ b, b ∈ l' ↔ b = a ∨ b ∈ l) : upd (kf l) (.int .i64 a) (some nils) = kf l' := by
  unfold kf
  rw [← sf_put l l' a h]
  exact upd_map (sf l) (.int .i64 a) (some (.agg #[])) (fun _ => nils)
theorem kf_del (l l' : List Int) (a : Int) (h : ∀ b, b ∈ l' ↔ b ≠ a ∧ b ∈ l) : upd (kf l) (.int .i64 a) none = kf l' := by
  unfold kf
  rw [← sf_del l l' a h]
  exact upd_map (sf l) (.int .i64 a) none (fun _ => nils)

theorem zeroVals (w : World) : (zeroValue 41).run Tryz.prog w = .ok nils w := by kernel_rfl

/-- An index of the kind sequence. -/
structure IdxQ (β : Nat) (w : World) (x km kn sx t m n : Nat) (l : List Int) : Prop where
  b : ∃ nm, Blk w x 104 (idxCells nm 5 nils (-1) nils nils km nilp nilp (ptr sx) nilp nilp)
  keys : MapAt Tryz.prog 2 w km kn (kf l)
  seq : SeqAt w sx t m n l
  ne : km ≠ m
  lo : β ≤ t ∧ β ≤ m ∧ β ≤ km

theorem SeqAt.chg {S : List TypeId} {B : List Nat} {w w' : World} {x t m n : Nat} {l : List Int} (h : SeqAt w x t m n l) (k : Chg β S B w w') (hB : m ∉ B) (hS : ∀ T, T ∈ 186 :: 250 :: LTI.tags → T ∉ S) : SeqAt w' x t m n l :=
  ⟨k.blk h.b (hS _ (by simp)), k.tree h.tr (fun T hT => hS T (List.mem_cons_of_mem _ hT)), k.map h.mp hB, h.nd, h.wf⟩
theorem SeqAt.turned {S : List TypeId} {B : List Nat} {w w' : World} {x t m n : Nat} {l : List Int} (h : SeqAt w x t m n l) (k : Keeps [t, m] w w') (hm : m ∈ B) (h0 : β ≤ t) (h1 : β ≤ m) : Chg β (250 :: S) B w w' := by
  refine Chg.of [t, m] k fun b hb' => ?_
  rcases List.mem_cons.1 hb' with rfl | hb'
  · obtain ⟨root, wr, hb', _⟩ := h.tr
    exact ⟨h0, .inr ⟨_, _, _, hb', by simp⟩⟩
  · rw [List.mem_singleton.1 hb']
    obtain ⟨D, ⟨es, cl, hes, _⟩, _⟩ := h.mp
    exact ⟨h1, .inl ⟨hm, _, _, hes⟩⟩
theorem IdxQ.chg {S : List TypeId} {B : List Nat} {w w' : World} {x km kn sx t m n : Nat} {l : List Int} (h : IdxQ β w x km kn sx t m n l) (k : Chg β S B w w') (hB : m ∉ B) (hB2 : km ∉ B) (hS : ∀ T, T ∈ 104 :: 186 :: 250 :: LTI.tags → T ∉ S) : IdxQ β w' x km kn sx t m n l := by
  obtain ⟨nm, hb⟩ := h.b
  exact ⟨⟨nm, k.blk hb (hS _ (by simp))⟩, k.map h.keys hB2, h.seq.chg k hB (fun T hT => hS T (List.mem_cons_of_mem _ hT)), h.ne, h.lo⟩
theorem IdxQ.same {w w' : World} {x km kn sx t m n : Nat} {l : List Int} (h : IdxQ β w x km kn sx t m n l) (k : Keeps [] w w') : IdxQ β w' x km kn sx t m n l := h.chg (S := []) (B := []) (Chg.of_keeps k) (by simp) (by simp) (by simp)

theorem cloneVals_nil (w : World) : Calls Tryz.prog 100 #[nils] w fun e w' => e = .returned nils ∧ w = w' := by
  have q1 : ∀ (w : World) (a : Option Addr) (n c n' c' : Nat), (binOp .eql 41 (.slice a n c) (.slice none n' c')).run Tryz.prog w = .ok (.bool a.isNone) w :=
    fun w a n c n' c' => Lib.run_eql_slice_nil w _ _ a n c n' c' Tryz.underlying41
  go_enter Tryz.func100, Tryz.ntmps100
  go_wp2
  go_ret
  exact ⟨rfl, rfl⟩
theorem cloneParts_nil (w : World) : Calls Tryz.prog 45 #[nils] w fun e w' => e = .returned nils ∧ w = w' := by
  have q1 : ∀ (w : World) (a : Option Addr) (n c n' c' : Nat), (binOp .eql 26 (.slice a n c) (.slice none n' c')).run Tryz.prog w = .ok (.bool a.isNone) w :=
    fun w a n c n' c' => Lib.run_eql_slice_nil w _ _ a n c n' c' Tryz.underlying26
  go_enter Tryz.func45, Tryz.ntmps45
  go_wp2
  go_ret
  exact ⟨rfl, rfl⟩
theorem copy_nil (w : World) : Calls Tryz.prog 57 #[nils] w fun e w' => e = .returned nils ∧ w = w' := by
  go_enter Tryz.func57, Tryz.ntmps57
  go_wp2_with (go_at_call 100; refine (cloneVals_nil _).mono ?_; rintro e w1 ⟨rfl, rfl⟩)
  go_ret
  exact ⟨rfl, rfl⟩

set_option maxRecDepth 100000 in
set_option maxHeartbeats 1600000 in
theorem idxNewSeq (nm : ByteArray) (w : World) (hβ : β ≤ w.heap.size) : Calls Tryz.prog 9 #[.agg #[.string nm, .int .i64 5, nils, .int .i64 (-1)], .agg #[nils, nils]] w fun e w' => ∃ x km sx t m, e = .returned (ptr x) ∧ IdxQ β w' x km 0 sx t m 0 [] ∧ Keeps [] w w' ∧ w.heap.size ≤ x := by
  have hmm := @RowKit.run_makeMap Tryz.prog
  go_enter Tryz.func9, Tryz.ntmps9
  go_wp2_with (first
    | (go_at_call 45; refine (cloneParts_nil _).mono ?_; rintro e w1 ⟨rfl, rfl⟩))
  refine (seqNew _).mono ?_
  rintro e w1 ⟨sx, t, m, rfl, hq, hk, g1, g2, g3⟩
  have hbx : Blk w1 (w.heap.size + 1 + 1 + 1) 104 (idxCells nm 5 nils (-1) nils nils (w.heap.size + 1 + 1) nilp nilp nilp nilp nilp) := hk.blk (Blk.new' _ _ (by simp)) (by simp)
  have hK : MapAt Tryz.prog 2 w1 (w.heap.size + 1 + 1) 0 (kf []) := by
    have h0 := MapAt.new Tryz.prog 2 ((w.alloc (.cells #[.string nm, .int .i64 5, nils, .int .i64 (-1)] 28)).alloc (.cells #[nils, nils] 34))
    have e : ((w.alloc (.cells #[.string nm, .int .i64 5, nils, .int .i64 (-1)] 28)).alloc (.cells #[nils, nils] 34)).heap.size = w.heap.size + 1 + 1 := by simp
    rw [e] at h0
    have h1 := (h0.keep ((Keeps.refl [] _).alloc (.cells (idxCells nm 5 nils (-1) nils nils (w.heap.size + 1 + 1) nilp nilp nilp nilp nilp) 104)) (by simp)).keep hk (by simp)
    refine h1.congr fun l _ => ?_
    unfold kf
    rw [sf_nil]
    rfl
  have c9 : w1.cell? ⟨w.heap.size + 1 + 1 + 1, 9, none⟩ = some nilp := hbx.cell 9
  have f9 : w1.frozen? ⟨w.heap.size + 1 + 1 + 1, 9, none⟩ = false := hbx.free 9
  go_wp2
  go_ret
  have kw : Keeps [] w w1 := ((((Keeps.refl [] w).alloc _).alloc _).alloc _).alloc _ |>.trans_nil hk
  have k2 : Keeps [w.heap.size + 1 + 1 + 1] w1 (w1.setCell ⟨w.heap.size + 1 + 1 + 1, 9, none⟩ (ptr sx)) := (Keeps.refl _ _).setCell (.inl (by simp)) _
  have C2 : Chg 0 [104] [] w1 (w1.setCell ⟨w.heap.size + 1 + 1 + 1, 9, none⟩ (ptr sx)) := chg_cells hbx k2 (by simp) (Nat.zero_le _)
  simp only [World.size_alloc] at g1 g2 g3
  exact ⟨_, w.heap.size + 1 + 1, sx, t, m, rfl, ⟨⟨nm, hbx.set 9 _⟩, C2.map hK (by simp), hq.chg C2 (by simp) (by decide), by omega, by omega⟩, kw.trans k2 (fun b hb => .inr (by simp at hb; omega)), by omega⟩

section
variable {w : World} {x km kn sx t m n : Nat} {l : List Int}
theorem IdxQ.c0 (h : IdxQ β w x km kn sx t m n l) : ∃ nm, w.cell? ⟨x, 0, none⟩ = some (.string nm) := by obtain ⟨nm, hb⟩ := h.b; exact ⟨nm, hb.cell 0⟩
theorem IdxQ.c1 (h : IdxQ β w x km kn sx t m n l) : w.cell? ⟨x, 1, none⟩ = some (.int .i64 5) := by obtain ⟨nm, hb⟩ := h.b; exact hb.cell 1
theorem IdxQ.c2 (h : IdxQ β w x km kn sx t m n l) : w.cell? ⟨x, 2, none⟩ = some nils := by obtain ⟨nm, hb⟩ := h.b; exact hb.cell 2
theorem IdxQ.c3 (h : IdxQ β w x km kn sx t m n l) : w.cell? ⟨x, 3, none⟩ = some (.int .i64 (-1)) := by obtain ⟨nm, hb⟩ := h.b; exact hb.cell 3
theorem IdxQ.c6 (h : IdxQ β w x km kn sx t m n l) : w.cell? ⟨x, 6, none⟩ = some (.map (some km)) := by obtain ⟨nm, hb⟩ := h.b; exact hb.cell 6
theorem IdxQ.c7 (h : IdxQ β w x km kn sx t m n l) : w.cell? ⟨x, 7, none⟩ = some nilp := by obtain ⟨nm, hb⟩ := h.b; exact hb.cell 7
theorem IdxQ.c8 (h : IdxQ β w x km kn sx t m n l) : w.cell? ⟨x, 8, none⟩ = some nilp := by obtain ⟨nm, hb⟩ := h.b; exact hb.cell 8
theorem IdxQ.c9 (h : IdxQ β w x km kn sx t m n l) : w.cell? ⟨x, 9, none⟩ = some (ptr sx) := by obtain ⟨nm, hb⟩ := h.b; exact hb.cell 9
theorem IdxQ.c10 (h : IdxQ β w x km kn sx t m n l) : w.cell? ⟨x, 10, none⟩ = some nilp := by obtain ⟨nm, hb⟩ := h.b; exact hb.cell 10
theorem IdxQ.c11 (h : IdxQ β w x km kn sx t m n l) : w.cell? ⟨x, 11, none⟩ = some nilp := by obtain ⟨nm, hb⟩ := h.b; exact hb.cell 11
end

set_option maxRecDepth 100000 in
set_option maxHeartbeats 800000 in
theorem qTwice (x km kn sx t m n : Nat) (l : List Int) (a : Int) (w : World) (h : IdxQ β w x km kn sx t m n l) : Calls Tryz.prog 56 #[ptr x, nils, .int .i64 a] w fun e w' => e = .returned .nilIface ∧ w = w' := by
  have c1 := h.c1
  have c8 := h.c8
  go_enter Tryz.func56, Tryz.ntmps56
  go_wp2
  refine wp_loop_rounds 1 ?_
  rw [rounds_succ]
  go_wp2
  go_ret
  exact ⟨rfl, rfl⟩

set_option maxHeartbeats 800000 in
theorem qLast0 (x km kn sx t m n : Nat) (l : List Int) (w : World) (h : IdxQ β w x km kn sx t m n l) : Calls Tryz.prog 106 #[ptr x] w fun e w' => e = .returned (.int .i64 l.length) ∧ w = w' := by
  have c9 := h.c9
  go_enter Tryz.func106, Tryz.ntmps106
  go_wp2_with (go_at_call 131; refine (seqLen sx t m n l _ h.seq).mono ?_; rintro e w1 ⟨rfl, rfl⟩)
  go_ret
  exact ⟨rfl, rfl⟩

set_option maxHeartbeats 800000 in
theorem qPlaceOf (x km kn sx t m n : Nat) (l : List Int) (a : Int) (w : World) (h : IdxQ β w x km kn sx t m n l) : Calls Tryz.prog 59 #[ptr x, nils, .int .i64 a] w fun e w' => e = .returned (.tuple #[.int .i64 l.length, .nilIface]) ∧ w = w' := by
  have c8 := h.c8
  have c9 := h.c9
  go_enter Tryz.func59, Tryz.ntmps59
  go_wp2_with (go_at_call 106; refine (qLast0 x km kn sx t m n l _ h).mono ?_; rintro e w1 ⟨rfl, rfl⟩)
  go_ret2
  exact ⟨rfl, rfl⟩

set_option maxRecDepth 100000 in
set_option maxHeartbeats 800000 in
theorem qPuts (x km kn sx t m n i : Nat) (l : List Int) (a : Int) (w : World) (h : IdxQ β w x km kn sx t m n l) (ha : (Lit.int .i64 a).wf = true) (hna : a ∉ l) (hi : i ≤ l.length) (hB : l.length ≤ 100000) (hn : n ≤ 100000) (hkn : kn ≤ 100000) :
    Calls Tryz.prog 60 #[ptr x, nils, .int .i64 a, .int .i64 i] w fun e w' => e = .returned (.tuple #[]) ∧ IdxQ β w' x km (kn + 1) sx t m (n + 1) (l.take i ++ a :: l.drop i) ∧ Chg β [250] [m, km] w w' := by
  have c7 := h.c7
  have c8 := h.c8
  have c9 := h.c9
  go_enter Tryz.func60, Tryz.ntmps60
  go_wp2_with (go_at_call 109
               refine (seqInsertAt sx t m n i l a _ h.seq ha hna hi (by omega) (by omega)).mono ?_
               rintro e w1 ⟨rfl, hs1, hk1⟩)
  obtain ⟨nm, hb⟩ := h.b
  have n1 : m ≠ x := by rintro rfl; exact (h.seq.mp.noTag [104]) _ _ _ hb (by simp)
  have n2 : t ≠ x := by
    obtain ⟨root, wr, hb', _⟩ := h.seq.tr
    exact hb'.ne hb (by decide)
  have C1 : Chg β [250] [m, km] w w1 := h.seq.turned hk1 (by simp) h.lo.1 h.lo.2.1
  have hb1 : Blk w1 x 104 _ := hk1.blk hb (by simp; omega)
  have c6 : w1.cell? ⟨x, 6, none⟩ = some (.map (some km)) := hb1.cell 6
  have hm1 : MapAt Tryz.prog 2 w1.drew km kn (kf l) := (h.keys.keep hk1 (by
    have := h.ne
    have : km ≠ t := by rintro rfl; obtain ⟨root, wr, hb', _⟩ := h.seq.tr; exact (h.keys.noTag [250]) _ _ _ hb' (by simp)
    simp; omega)).keep (Keeps.refl [] _).drew (by simp)
  go_still_tail 7, (by kernel_rfl)
  still_call ((copy_nil w1.drew).mono (fun _ _ hh => ⟨hh.1, hh.2.symm⟩))
  refine wpStill_nil ?_
  change wpList _ _ _ _ _ w1.drew
  refine wpList_store _ rfl _ _ _ 97 rfl 2 41 keyI Tryz.underlying97 km kn (kf l) rfl hm1 (by unfold maxLen; omega) _ nils _ rfl rfl (keyI_mk ha) ?_
  intro w2 hm2 hk2
  go_wp2
  go_end0
  have hmem : ∀ b, b ∈ l.take i ++ a :: l.drop i ↔ b = a ∨ b ∈ l := by
    intro b
    have e : b ∈ l ↔ b ∈ l.take i ∨ b ∈ l.drop i := by rw [← List.mem_append, List.take_append_drop]
    rw [e, List.mem_append, List.mem_cons]
    exact ⟨fun h => by rcases h with h | h | h <;> simp [h], fun h => by rcases h with h | h | h <;> simp [h]⟩
  rw [kf_put l _ a hmem] at hm2
  have C2 : Chg β [250] [m, km] w1.drew w2 := chg_map hm1 hk2 (by simp) h.lo.2.2
  have C2' : Chg β [] [km] w1 w2 := (chg_map hm1 hk2 (by simp) h.lo.2.2 : Chg β [] [km] w1.drew w2).of_drew
  exact ⟨rfl, ⟨⟨nm, C2'.blk hb1 (by simp)⟩, hm2, hs1.chg C2' (by simp; exact h.ne.symm) (by simp), h.ne, h.lo⟩, C1.trans C2.of_drew⟩

set_option maxRecDepth 100000 in
set_option maxHeartbeats 800000 in
theorem qTakes (x km kn sx t m n : Nat) (l : List Int) (a : Int) (w : World) (h : IdxQ β w x km kn sx t m n l) (ha : (Lit.int .i64 a).wf = true) (hm : a ∈ l) (hB : l.length ≤ 100000) :
    Calls Tryz.prog 63 #[ptr x, .int .i64 a] w fun e w' => ∃ k : Nat, e = .returned (.tuple #[nils, .int .i64 k]) ∧ l[k]? = some a ∧ IdxQ β w' x km kn sx t m n (l.erase a) ∧ Chg β [250] [m, km] w w' := by
  have c6 := h.c6
  have c7 := h.c7
  have c8 := h.c8
  have c9 := h.c9
  obtain ⟨nm, hb⟩ := h.b
  have n1 : m ≠ x := by rintro rfl; exact (h.seq.mp.noTag [104]) _ _ _ hb (by simp)
  have n2 : t ≠ x := by
    obtain ⟨root, wr, hb', _⟩ := h.seq.tr
    exact hb'.ne hb (by decide)
  have n3 : km ≠ t := by rintro rfl; obtain ⟨root, wr, hb', _⟩ := h.seq.tr; exact (h.keys.noTag [250]) _ _ _ hb' (by simp)
  go_enter Tryz.func63, Tryz.ntmps63
  go_wp2_with (first
    | (at_lookup; refine wpList_look _ rfl _ _ 97 rfl 2 41 keyI Tryz.underlying97 (zeroVals _) km kn (kf l) rfl h.keys _ _ rfl (keyI_mk ha) ?_; rw [kf_get])
    | (go_at_call 115
       refine (seqErase sx t m n l a _ h.seq ha hm hB).mono ?_
       rintro e w1 ⟨k, rfl, hk, hs1, hk1⟩
       have Hk := Lib.hid hk
       clear hk
       have hb1 := hk1.blk hb (by simp; omega)
       have d6 : w1.cell? ⟨x, 6, none⟩ = some (.map (some km)) := hb1.cell 6
       have d10 : w1.cell? ⟨x, 10, none⟩ = some nilp := hb1.cell 10
       have hm1 : MapAt Tryz.prog 2 w1 km kn (kf l) := h.keys.keep hk1 (by have := h.ne; simp; omega))
    | (at_delete; refine wpList_drop _ rfl _ _ 97 2 rfl 41 keyI Tryz.underlying97 km kn (kf l) rfl hm1 _ _ rfl (keyI_mk ha) ?_; intro w3 hm3 hk3))
  go_ret2
  obtain ⟨_, e2⟩ := era_mem h.seq.nd Hk.out
  rw [kf_del l _ a e2] at hm3
  have C1 : Chg β [250] [m, km] w w1 := h.seq.turned hk1 (by simp) h.lo.1 h.lo.2.1
  have C2 : Chg β [250] [m, km] w1 w3 := chg_map hm1 hk3 (by simp) h.lo.2.2
  have C2' : Chg β [] [km] w1 w3 := chg_map hm1 hk3 (by simp) h.lo.2.2
  exact ⟨k, rfl, Hk.out, ⟨⟨nm, C2'.blk hb1 (by simp)⟩, hm3, hs1.chg C2' (by simp; exact h.ne.symm) (by simp), h.ne, h.lo⟩, C1.trans C2⟩

set_option maxRecDepth 100000 in
set_option maxHeartbeats 1600000 in
theorem qInsert (x km kn sx t m n lg : Nat) (vs : List Value) (l : List Int) (a : Int) (w : World) (h : IdxQ β w x km kn sx t m n l) (hl : LogAt β w lg vs) (ha : (Lit.int .i64 a).wf = true) (hna : a ∉ l) (hB : l.length ≤ 100000) (hn : n ≤ 100000) (hkn : kn ≤ 100000) (hv : vs.length ≤ 100000) :
    Calls Tryz.prog 17 #[ptr x, ptr lg, nils, .int .i64 a] w fun e w' => e = .returned .nilIface ∧ IdxQ β w' x km (kn + 1) sx t m (n + 1) (l ++ [a]) ∧ (∃ v, LogAt β w' lg (vs ++ [v])) ∧ Chg β [250, 121, 1] [m, km] w w' := by
  have K0 : Keeps [] w ((w.alloc (.cells #[ptr x] 29)).alloc (.cells #[.int .i64 a] 2)) := ((Keeps.refl _ _).alloc _).alloc _
  have h0 := h.same K0
  have e4 : Blk ((w.alloc (.cells #[ptr x] 29)).alloc (.cells #[.int .i64 a] 2)) w.heap.size 29 #[ptr x] := (Blk.new _ _ _).alloc _
  have e7 : Blk ((w.alloc (.cells #[ptr x] 29)).alloc (.cells #[.int .i64 a] 2)) (w.heap.size + 1) 2 #[.int .i64 a] := Blk.new' _ _ (by simp)
  go_enter Tryz.func17, Tryz.ntmps17
  go_wp2_with fail
  generalize (w.alloc (.cells #[ptr x] 29)).alloc (.cells #[.int .i64 a] 2) = W at *
  generalize w.heap.size = p4 at *
  have d4 : W.cell? ⟨p4, 0, none⟩ = some (ptr x) := e4.cell 0
  have d7 : W.cell? ⟨p4 + 1, 0, none⟩ = some (.int .i64 a) := e7.cell 0
  have d6 := h0.c6
  have hm0 : MapAt Tryz.prog 2 W.drew km kn (kf l) := h0.keys.keep (Keeps.refl [] _).drew (by simp)
  have hlk := hm0.run_ok keyI Tryz.underlying97 (zeroVals _) (keyI_mk ha)
  rw [kf_get, kf_is, show decide (a ∈ l) = false from by simp [hna]] at hlk
  go_still (by kernel_rfl)
  show Exit.then _ _ _ _ W.drew
  have K1 : Keeps [] w W.drew := K0.drew
  have h1 : IdxQ β W.drew x km kn sx t m n l := h0.same (Keeps.refl [] _).drew
  have x4 : W.drew.cell? ⟨p4, 0, none⟩ = some (ptr x) := d4
  have x7 : W.drew.cell? ⟨p4 + 1, 0, none⟩ = some (.int .i64 a) := d7
  have l1 : LogAt β W.drew lg vs := hl.chg (S := []) (B := []) (Chg.of_keeps K1) (by simp) (by simp)
  clear hlk hm0 d6 d7 d4 e4 e7 h0
  generalize W.drew = W1 at *
  go_wp2_with (first
    | (go_at_call 56; refine (qTwice x km kn sx t m n l a _ h1).mono ?_; rintro e w1 ⟨rfl, rfl⟩)
    | (go_at_call 59; refine (qPlaceOf x km kn sx t m n l a _ h1).mono ?_; rintro e w1 ⟨rfl, rfl⟩)
    | (go_at_call 60
       refine (qPuts x km kn sx t m n l.length l a _ h1 ha hna (Nat.le_refl _) hB hn hkn).mono ?_
       rintro e w2 ⟨rfl, h2, C2⟩
       have l2 : LogAt β w2 lg vs := l1.chg C2 (by decide) (by decide))
    | (go_at_call 61
       refine (logAdd lg vs _ _ _ _ l2 (by omega)).mono ?_
       rintro e w3 ⟨rfl, l3, C3⟩))
  go_ret
  rw [List.take_length, List.drop_length] at h2
  exact ⟨rfl, h2.chg C3 (by simp) (by simp) (by decide), ⟨_, l3⟩, (Chg.of_keeps K1).trans ((C2.mono (by simp) (fun b hb => .inl hb)).trans (C3.mono (by simp) (by simp)))⟩

set_option maxRecDepth 100000 in
set_option maxHeartbeats 1600000 in
theorem qErase (x km kn sx t m n lg : Nat) (vs : List Value) (l : List Int) (a : Int) (w : World) (h : IdxQ β w x km kn sx t m n l) (hl : LogAt β w lg vs) (ha : (Lit.int .i64 a).wf = true) (hm : a ∈ l) (hB : l.length ≤ 100000) (hv : vs.length ≤ 100000) :
    Calls Tryz.prog 23 #[ptr x, ptr lg, .int .i64 a] w fun e w' => e = .returned .nilIface ∧ IdxQ β w' x km kn sx t m n (l.erase a) ∧ (∃ v, LogAt β w' lg (vs ++ [v])) ∧ Chg β [250, 121, 1] [m, km] w w' := by
  have K0 : Keeps [] w ((w.alloc (.cells #[ptr x] 29)).alloc (.cells #[.int .i64 a] 2)) := ((Keeps.refl _ _).alloc _).alloc _
  have h0 := h.same K0
  have e4 : Blk ((w.alloc (.cells #[ptr x] 29)).alloc (.cells #[.int .i64 a] 2)) w.heap.size 29 #[ptr x] := (Blk.new _ _ _).alloc _
  have e7 : Blk ((w.alloc (.cells #[ptr x] 29)).alloc (.cells #[.int .i64 a] 2)) (w.heap.size + 1) 2 #[.int .i64 a] := Blk.new' _ _ (by simp)
  go_enter Tryz.func23, Tryz.ntmps23
  go_wp2_with fail
  generalize (w.alloc (.cells #[ptr x] 29)).alloc (.cells #[.int .i64 a] 2) = W at *
  generalize w.heap.size = p4 at *
  have d4 : W.cell? ⟨p4, 0, none⟩ = some (ptr x) := e4.cell 0
  have d7 : W.cell? ⟨p4 + 1, 0, none⟩ = some (.int .i64 a) := e7.cell 0
  have d6 := h0.c6
  have hm0 : MapAt Tryz.prog 2 W.drew km kn (kf l) := h0.keys.keep (Keeps.refl [] _).drew (by simp)
  have hlk := hm0.run_ok keyI Tryz.underlying97 (zeroVals _) (keyI_mk ha)
  rw [kf_get, kf_is, show decide (a ∈ l) = true from by simp [hm]] at hlk
  go_still (by kernel_rfl)
  show Exit.then _ _ _ _ W.drew
  have K1 : Keeps [] w W.drew := K0.drew
  have h1 : IdxQ β W.drew x km kn sx t m n l := h0.same (Keeps.refl [] _).drew
  have x4 : W.drew.cell? ⟨p4, 0, none⟩ = some (ptr x) := d4
  have x7 : W.drew.cell? ⟨p4 + 1, 0, none⟩ = some (.int .i64 a) := d7
  have l1 : LogAt β W.drew lg vs := hl.chg (S := []) (B := []) (Chg.of_keeps K1) (by simp) (by simp)
  clear hlk hm0 d6 d7 d4 e4 e7 h0
  generalize W.drew = W1 at *
  go_wp2_with (first
    | (go_at_call 63
       refine (qTakes x km kn sx t m n l a _ h1 ha hm hB).mono ?_
       rintro e w2 ⟨k, rfl, hk, h2, C2⟩
       have Hk := Lib.hid hk
       clear hk
       have K2 : Keeps [] w2 ((w2.alloc (.cells #[nils] 41)).alloc (.cells #[.int .i64 k] 3)) := ((Keeps.refl _ _).alloc _).alloc _
       have l2 : LogAt β ((w2.alloc (.cells #[nils] 41)).alloc (.cells #[.int .i64 k] 3)) lg vs := (l1.chg C2 (by decide) (by decide)).chg (S := []) (B := []) (Chg.of_keeps K2) (by simp) (by simp))
    | (go_at_call 61
       refine (logAdd lg vs _ _ _ _ l2 (by omega)).mono ?_
       rintro e w3 ⟨rfl, l3, C3⟩))
  go_ret
  exact ⟨rfl, (h2.same K2).chg C3 (by simp) (by simp) (by decide), ⟨_, l3⟩, (Chg.of_keeps K1).trans ((C2.mono (by simp) (fun b hb => .inl hb)).trans ((Chg.of_keeps K2).trans (C3.mono (by simp) (by simp))))⟩
end Go.Proofs.YtkngjgblfappoaaGreatDoor
