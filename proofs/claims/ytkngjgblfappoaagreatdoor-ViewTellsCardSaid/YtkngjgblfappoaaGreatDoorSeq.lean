/-
  seqidx: a sequence: New, Len, has, puts, InsertAt, All, Place, Erase.
-/
import Derived.Test.YtkngjgblfappoaaGreatDoorTreeJTI
import Derived.Test.YtkngjgblfappoaaGreatDoorTreeKTI
import Derived.Test.YtkngjgblfappoaaGreatDoorSlEInt
import Derived.Test.YtkngjgblfappoaaGreatDoorMapW
import Derived.Carry
namespace Go.Proofs.YtkngjgblfappoaaGreatDoor
open Go.RowKit (Below intOf Hid)

open Classical in
/-- The set of some numbers, as a map to nothing. -/
noncomputable def sf (l : List Int) : Lit → Option Value := fun k => if ∃ a, a ∈ l ∧ k = .int .i64 a then some (.agg #[]) else none
theorem sf_some {l : List Int} {a : Int} (h : a ∈ l) : sf l (.int .i64 a) = some (.agg #[]) := by
  unfold sf; rw [if_pos ⟨a, h, rfl⟩]
theorem sf_none {l : List Int} {a : Int} (h : a ∉ l) : sf l (.int .i64 a) = none := by
  unfold sf; rw [if_neg (by rintro ⟨b, hb, e⟩; injection e with _ e; subst e; exact h hb)]
theorem sf_is {l : List Int} {a : Int} : (sf l (.int .i64 a)).isSome = decide (a ∈ l) := by
  by_cases h : a ∈ l
  · rw [sf_some h]; simp [h]
  · rw [sf_none h]; simp [h]
theorem sf_get (l : List Int) (k : Lit) : (sf l k).getD (.agg #[]) = .agg #[] := by
  unfold sf; split <;> rfl
theorem sf_nil : sf [] = fun _ => none := by
  funext k; unfold sf; rw [if_neg (by rintro ⟨b, hb, _⟩; cases hb)]
theorem sf_put (l l' : List Int) (a : Int) (h : ∀ b, b ∈ l' ↔ b = a ∨ b ∈ l) : upd (sf l) (.int .i64 a) (some (.agg #[])) = sf l' := by
  funext k
  unfold upd
  split
  · rename_i e
    subst e
    rw [sf_some ((h a).2 (.inl rfl))]
  · rename_i e
    unfold sf
    by_cases h1 : ∃ b, b ∈ l ∧ k = .int .i64 b
    · rw [if_pos h1, if_pos]
      obtain ⟨b, hb, rfl⟩ := h1
      exact ⟨b, (h b).2 (.inr hb), rfl⟩
    · rw [if_neg h1, if_neg]
      rintro ⟨b, hb, rfl⟩
      rcases (h b).1 hb with rfl | hb
      · exact e rfl
      · exact h1 ⟨b, hb, rfl⟩
theorem sf_del (l l' : List Int) (a : Int) (h : ∀ b, b ∈ l' ↔ b ≠ a ∧ b ∈ l) : upd (sf l) (.int .i64 a) none = sf l' := by
  funext k
  unfold upd
  split
  · rename_i e
    subst e
    rw [sf_none (fun h' => ((h a).1 h').1 rfl)]
  · rename_i e
    unfold sf
    by_cases h1 : ∃ b, b ∈ l ∧ k = .int .i64 b
    · rw [if_pos h1, if_pos]
      obtain ⟨b, hb, rfl⟩ := h1
      exact ⟨b, (h b).2 ⟨fun e' => e (by rw [e']), hb⟩, rfl⟩
    · rw [if_neg h1, if_neg]
      rintro ⟨b, hb, rfl⟩
      exact h1 ⟨b, ((h b).1 hb).2, rfl⟩

theorem keyI : Maps.Keyed Tryz.prog 2 := Maps.int_keyed Tryz.underlying2
theorem keyI_mk {a : Int} (h : (Lit.int .i64 a).wf = true) : keyOf Tryz.prog 2 (.int .i64 a) = some (.int .i64 a) := Maps.keyOf_int_mk Tryz.underlying2 h
theorem zeroUnit (w : World) : (zeroValue 282).run Tryz.prog w = .ok (.agg #[]) w := by kernel_rfl
theorem cells_ints (l : List Int) : LTI.cells l = l.map (Value.int .i64) := by
  unfold Lay.cells
  induction l with
  | nil => rfl
  | cons y ys ih => rw [List.flatMap_cons, ih]; rfl

/-- A sequence in memory: its struct's block x, its tree's t, its map's m. -/
structure SeqAt (w : World) (x t m n : Nat) (l : List Int) : Prop where
  b : Blk w x 186 #[ptr t, .map (some m)]
  tr : TreeTI w t l
  mp : MapAt Tryz.prog 2 w m n (sf l)
  nd : l.Nodup
  wf : ∀ a, a ∈ l → (Lit.int .i64 a).wf = true
theorem SeqAt.keep {w w' : World} {x t m n : Nat} {l : List Int} {M : List Nat} (h : SeqAt w x t m n l) (k : Keeps M w w') (hx : x ∉ M) (ht : t ∉ M) (hm : m ∉ M) (hM : ∀ b, b ∈ M → NoTag w b LTI.tags) : SeqAt w' x t m n l :=
  ⟨k.blk h.b hx, h.tr.keep k ht hM, h.mp.keep k hm, h.nd, h.wf⟩
theorem SeqAt.same {w w' : World} {x t m n : Nat} {l : List Int} (h : SeqAt w x t m n l) (k : Keeps [] w w') : SeqAt w' x t m n l := h.keep k (by simp) (by simp) (by simp) (by simp)

theorem SeqAt.ne {w : World} {x t m n : Nat} {l : List Int} (h : SeqAt w x t m n l) : x ≠ t ∧ x ≠ m ∧ t ≠ m := by
  obtain ⟨root, wr, hb, _⟩ := h.tr
  have hm := h.mp.noTag [186, 250]
  refine ⟨h.b.ne hb (by decide), ?_, ?_⟩
  · rintro rfl; exact hm _ _ _ h.b (by simp)
  · rintro rfl; exact hm _ _ _ hb (by simp)

theorem seqNew (w : World) : Calls Tryz.prog 50 #[] w fun e w' => ∃ x t m, e = .returned (ptr x) ∧ SeqAt w' x t m 0 [] ∧ Keeps [] w w' ∧ w.heap.size ≤ x ∧ w.heap.size ≤ t ∧ w.heap.size ≤ m := by
  have hmm := @RowKit.run_makeMap Tryz.prog
  go_enter Tryz.func50, Tryz.ntmps50
  go_wp2_with (go_at_call 89; refine (newTI _).mono ?_; rintro e w1 ⟨rfl, ht, hk, hs⟩)
  go_ret
  have ka : Keeps [] w1 (w1.alloc (.map #[] 0)) := (Keeps.refl _ _).alloc _
  have kb : Keeps [] (w1.alloc (.map #[] 0)) ((w1.alloc (.map #[] 0)).alloc (.cells #[ptr w.heap.size, .map (some (w.heap.size + 1))] 186)) := (Keeps.refl _ _).alloc _
  have hm0 := MapAt.new Tryz.prog 2 w1
  rw [hs] at hm0
  refine ⟨w.heap.size + 1 + 1, w.heap.size, w.heap.size + 1, rfl, ⟨Blk.new' _ _ (by simp [hs]), (ht.keep ka (by simp) (by simp)).keep kb (by simp) (by simp), ?_, by simp, by simp⟩, (hk.trans_nil ka).trans_nil kb, by omega, by omega, by omega⟩
  rw [sf_nil]
  exact hm0.keep kb (by simp)

set_option maxHeartbeats 400000 in
theorem seqLen (x t m n : Nat) (l : List Int) (w : World) (h : SeqAt w x t m n l) : Calls Tryz.prog 131 #[ptr x] w fun e w' => e = .returned (.int .i64 l.length) ∧ w = w' := by
  have c0 : w.cell? ⟨x, 0, none⟩ = some (ptr t) := h.b.cell 0
  go_enter Tryz.func131, Tryz.ntmps131
  go_wp2_with (go_at_call 183; refine (lenTI t l _ h.tr).mono ?_; rintro e w1 ⟨rfl, rfl⟩)
  go_ret
  exact ⟨rfl, rfl⟩

set_option maxHeartbeats 400000 in
theorem seqHas (x t m n : Nat) (l : List Int) (a : Int) (w : World) (h : SeqAt w x t m n l) (ha : (Lit.int .i64 a).wf = true) : Calls Tryz.prog 158 #[ptr x, .int .i64 a] w fun e w' => e = .returned (.bool (decide (a ∈ l))) ∧ Keeps [] w w' := by
  have c1 : w.cell? ⟨x, 1, none⟩ = some (.map (some m)) := h.b.cell 1
  have hmp := h.mp
  go_enter Tryz.func158, Tryz.ntmps158
  go_wp2_with (at_lookup; refine wpList_look_ok _ rfl _ _ 184 rfl 2 282 keyI Tryz.underlying184 (zeroUnit _) m n (sf l) rfl hmp _ _ rfl (keyI_mk ha) ?_; rw [sf_is, sf_get])
  go_ret
  exact ⟨rfl, (Keeps.refl _ _).alloc _⟩

set_option maxHeartbeats 800000 in
theorem seqPuts (x t m n i : Nat) (l : List Int) (a : Int) (w : World) (h : SeqAt w x t m n l) (ha : (Lit.int .i64 a).wf = true) (hna : a ∉ l) (hi : i ≤ l.length) (hB : l.length ≤ 900000) (hn : n ≤ 1000000) :
    Calls Tryz.prog 159 #[ptr x, .int .i64 i, .int .i64 a] w fun e w' => e = .returned (.tuple #[]) ∧ SeqAt w' x t m (n + 1) (l.take i ++ a :: l.drop i) ∧ Keeps [t, m] w w' := by
  obtain ⟨n1, n2, n3⟩ := h.ne
  have c0 : w.cell? ⟨x, 0, none⟩ = some (ptr t) := h.b.cell 0
  go_enter Tryz.func159, Tryz.ntmps159
  go_wp2_with (first
    | (go_at_call 160
       refine (insertAtTI t i l a _ h.tr hi hB).mono ?_
       rintro e w1 ⟨rfl, ht1, hk1⟩
       have hb1 := hk1.blk h.b (by simp; exact n1)
       have c1 : w1.cell? ⟨x, 1, none⟩ = some (.map (some m)) := hb1.cell 1
       have hm1 := h.mp.keep hk1 (by simp; exact n3.symm))
    | (at_mapUpdate; refine wpList_store _ rfl _ _ _ 184 rfl 2 282 keyI Tryz.underlying184 m n (sf l) rfl hm1 (by unfold maxLen; omega) _ (.agg #[]) _ rfl rfl (keyI_mk ha) ?_; intro w2 hm2 hk2))
  go_end0
  have hmem : ∀ b, b ∈ l.take i ++ a :: l.drop i ↔ b = a ∨ b ∈ l := by
    intro b
    have e : b ∈ l ↔ b ∈ l.take i ∨ b ∈ l.drop i := by rw [← List.mem_append, List.take_append_drop]
    rw [e, List.mem_append, List.mem_cons]
    exact ⟨fun h => by rcases h with h | h | h <;> simp [h], fun h => by rcases h with h | h | h <;> simp [h]⟩
  rw [sf_put l _ a hmem] at hm2
  refine ⟨rfl, ⟨hk2.blk hb1 (by simp; exact n2), ht1.keep hk2 (by simp; exact n3) (fun b hb => by rw [List.mem_singleton.1 hb]; exact hm1.noTag _), hm2, ?_, ?_⟩, (hk1.mono (by simp)).trans hk2 (fun b hb => .inl (by simp at hb; simp [hb]))⟩
  · have hnd := h.nd
    rw [← List.take_append_drop i l, List.nodup_append] at hnd
    have hna' : a ∉ l.take i ∧ a ∉ l.drop i := ⟨fun h' => hna (List.mem_of_mem_take h'), fun h' => hna (List.mem_of_mem_drop h')⟩
    rw [List.nodup_append]
    refine ⟨hnd.1, List.nodup_cons.2 ⟨hna'.2, hnd.2.1⟩, fun p hp q hq => ?_⟩
    rcases List.mem_cons.1 hq with rfl | hq
    · rintro rfl; exact hna'.1 hp
    · exact hnd.2.2 p hp q hq
  · intro b hb
    rcases (hmem b).1 hb with rfl | hb
    · exact ha
    · exact h.wf b hb

set_option maxHeartbeats 800000 in
theorem seqInsertAt (x t m n i : Nat) (l : List Int) (a : Int) (w : World) (h : SeqAt w x t m n l) (ha : (Lit.int .i64 a).wf = true) (hna : a ∉ l) (hi : i ≤ l.length) (hB : l.length ≤ 900000) (hn : n ≤ 1000000) :
    Calls Tryz.prog 109 #[ptr x, .int .i64 i, .int .i64 a] w fun e w' => e = .returned (.int .i64 0) ∧ SeqAt w' x t m (n + 1) (l.take i ++ a :: l.drop i) ∧ Keeps [t, m] w w' := by
  have hd : decide (a ∈ l) = false := by simp [hna]
  have i0 : decide ((i : Int) < 0) = false := by simp
  have i1 : decide (l.length < i) = false := by simp; omega
  go_enter Tryz.func109, Tryz.ntmps109
  go_wp2_with (first
    | (go_at_call 158; refine (seqHas x t m n l a _ h ha).mono ?_; rintro e w1 ⟨rfl, hk1⟩; rw [hd]; have h1 := h.same hk1)
    | (go_at_call 131; refine (seqLen x t m n l _ h1).mono ?_; rintro e w2 ⟨rfl, rfl⟩)
    | (go_at_call 159; refine (seqPuts x t m n i l a _ h1 ha hna hi hB hn).mono ?_; rintro e w3 ⟨rfl, h3, hk3⟩))
  go_ret
  exact ⟨rfl, h3, (hk1.mono (by simp)).trans hk3 (fun b hb => .inl hb)⟩

set_option maxHeartbeats 800000 in
theorem seqAll (x t m n : Nat) (l : List Int) (w : World) (h : SeqAt w x t m n l) (hB : l.length ≤ 900000) :
    Calls Tryz.prog 85 #[ptr x] w fun e w' => ∃ A c, e = .returned (.slice A l.length c) ∧ Rd w' 2 1 A l.length (l.map (Value.int .i64)) ∧ l.length ≤ c ∧ w'.ownsRow w.heap.size 2 1 (.slice A l.length c) l.length (l.map (Value.int .i64)) ∧ Keeps [] w w' := by
  have c0 : w.cell? ⟨x, 0, none⟩ = some (ptr t) := h.b.cell 0
  have hsl := sliceTI t 0 l.length l w.drew (h.tr.keep (Keeps.refl [] w).drew (by simp) (by simp)) (by omega)
  have hlen := seqLen x t m n l w.drew (h.same (Keeps.refl [] w).drew)
  rw [prtTI_all, cells_ints] at hsl
  go_enter Tryz.func85, Tryz.ntmps85
  go_wp2_with fail
  go_region_held3 (fun w' => w'.cell? ⟨x, 0, none⟩ = some (ptr t) ∧ Keeps [] w w')
    (first
      | exact ⟨c0, (Keeps.refl _ _).drew⟩
      | exact ⟨(Keeps.of_drew hk1).cell c0 (by simp), Keeps.of_drew hk1⟩)
    (first
      | (go_at_call 131; refine hlen.mono ?_; rintro e w2 ⟨rfl, rfl⟩)
      | (go_at_call 130; refine hsl.mono ?_; rintro e w1 ⟨A, k, c, rfl, hown, rfl, hk1⟩))
  go_wp2
  go_ret
  exact ⟨A, c, rfl, own_rd hown (Cells1.ints _ _), (own_len hown).2, hown, Keeps.of_drew hk1⟩

/-- What Place answers. -/
theorem seqPlace (x t m n : Nat) (l : List Int) (a : Int) (w : World) (h : SeqAt w x t m n l) (ha : (Lit.int .i64 a).wf = true) (hm : a ∈ l) (hB : l.length ≤ 100000) :
    Calls Tryz.prog 168 #[ptr x, .int .i64 a] w fun e w' => ∃ k : Nat, e = .returned (.tuple #[.int .i64 k, .bool true]) ∧ l[k]? = some a ∧ Keeps [] w w' := by
  have hd : decide (a ∈ l) = true := by simp [hm]
  go_enter Tryz.func168, Tryz.ntmps168
  go_wp2_with (first
    | (go_at_call 158; refine (seqHas x t m n l a _ h ha).mono ?_; rintro e w1 ⟨rfl, hk1⟩; rw [hd]; have h1 := h.same hk1)
    | (go_at_call 85; refine (seqAll x t m n l _ h1 (by omega)).mono ?_; rintro e w2 ⟨A, c, rfl, hrd, _, _, hk2⟩)
    | (go_at_call 119; refine (indexInt A _ c l a _ hrd hB).mono ?_; rintro e w3 ⟨r, rfl, hidx, rfl⟩))
  go_ret2
  rcases hidx with ⟨_, hno⟩ | ⟨k, rfl, hk, _⟩
  · exact absurd hm hno
  · exact ⟨k, rfl, hk, hk1.trans_nil hk2⟩

theorem era_mem {l : List Int} {k : Nat} {a : Int} (hnd : l.Nodup) (hk : l[k]? = some a) : l.take k ++ l.drop (k + 1) = l.erase a ∧ ∀ b, b ∈ l.erase a ↔ b ≠ a ∧ b ∈ l := by
  refine ⟨?_, fun b => hnd.mem_erase_iff⟩
  have hkl := (List.getElem?_eq_some_iff.1 hk).1
  have hka := (List.getElem?_eq_some_iff.1 hk).2
  have e : l = l.take k ++ a :: l.drop (k + 1) := by
    conv => lhs; rw [← List.take_append_drop k l, List.drop_eq_getElem_cons hkl, hka]
  have hna : a ∉ l.take k := by
    intro h
    rw [e, List.nodup_append] at hnd
    exact hnd.2.2 a h a (by simp) rfl
  conv => rhs; rw [e]
  rw [List.erase_append_right _ hna, List.erase_cons_head]

set_option maxHeartbeats 800000 in
theorem seqErase (x t m n : Nat) (l : List Int) (a : Int) (w : World) (h : SeqAt w x t m n l) (ha : (Lit.int .i64 a).wf = true) (hm : a ∈ l) (hB : l.length ≤ 100000) :
    Calls Tryz.prog 115 #[ptr x, .int .i64 a] w fun e w' => ∃ k : Nat, e = .returned (.tuple #[.int .i64 k, .int .i64 0]) ∧ l[k]? = some a ∧ SeqAt w' x t m n (l.erase a) ∧ Keeps [t, m] w w' := by
  obtain ⟨n1, n2, n3⟩ := h.ne
  have c0 : w.cell? ⟨x, 0, none⟩ = some (ptr t) := h.b.cell 0
  go_enter Tryz.func115, Tryz.ntmps115
  go_wp2_with (first
    | (go_at_call 168
       refine (seqPlace x t m n l a _ h ha hm hB).mono ?_
       rintro e w1 ⟨k, rfl, hk, hk1⟩
       have h1 := h.same hk1
       have c0' : w1.cell? ⟨x, 0, none⟩ = some (ptr t) := h1.b.cell 0
       have Hk := Lib.hid hk
       clear hk)
    | (go_at_call 169
       refine (eraseAtTI t k l a _ h1.tr Hk.out (by omega)).mono ?_
       rintro e w2 ⟨rfl, ht2, hk2⟩
       have hb2 := hk2.blk h1.b (by simp; exact n1)
       have c2 : w2.cell? ⟨x, 1, none⟩ = some (.map (some m)) := hb2.cell 1
       have hm2 := h1.mp.keep hk2 (by simp; exact n3.symm))
    | (at_delete; refine wpList_drop _ rfl _ _ 184 2 rfl 282 keyI Tryz.underlying184 m n (sf l) rfl hm2 _ _ rfl (keyI_mk ha) ?_; intro w3 hm3 hk3))
  go_ret2
  obtain ⟨e1, e2⟩ := era_mem h.nd Hk.out
  rw [e1] at ht2
  rw [sf_del l _ a e2] at hm3
  refine ⟨k, rfl, Hk.out, ⟨hk3.blk hb2 (by simp; exact n2), ht2.keep hk3 (by simp; exact n3) (fun b hb => by rw [List.mem_singleton.1 hb]; exact hm2.noTag _), hm3, h.nd.erase a, fun b hb => h.wf b ((e2 b).1 hb).2⟩, ?_⟩
  exact ((hk1.mono (by simp)).trans hk2 (fun b hb => .inl (by simp at hb; simp [hb]))).trans hk3 (fun b hb => .inl (by simp at hb; simp [hb]))
end Go.Proofs.YtkngjgblfappoaaGreatDoor
