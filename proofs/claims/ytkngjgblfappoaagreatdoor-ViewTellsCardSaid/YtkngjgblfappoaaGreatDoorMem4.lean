/-
  What has turned, told by the kinds of blocks: cells of some element types, and some maps. No program is named here.
-/
import Derived.Test.YtkngjgblfappoaaGreatDoorMapW
namespace Go.Proofs.YtkngjgblfappoaaGreatDoor
open Go.RowKit (Below intOf Hid)
variable {β : Nat}

/-- From block β on only cells of the element types S and the maps B have turned; below it nothing; new blocks may have come. -/
def Chg (β : Nat) (S : List TypeId) (B : List Nat) (w w' : World) : Prop :=
  ∃ M, Keeps M w w' ∧ ∀ b, b ∈ M → β ≤ b ∧ ((b ∈ B ∧ ∃ es k, w.heap[b]? = some (.map es k)) ∨ ∃ cs T f, w.heap[b]? = some (.cells cs T f) ∧ T ∈ S)

section
variable {S S' : List TypeId} {B B' : List Nat} {w w1 w' : World}
theorem Chg.refl (S : List TypeId) (B : List Nat) (w : World) : Chg β S B w w := ⟨[], Keeps.refl _ _, fun _ h => by cases h⟩
theorem Chg.of_keeps (h : Keeps [] w w') : Chg β S B w w' := ⟨[], h, fun _ h => by cases h⟩
theorem Chg.of (M : List Nat) (h : Keeps M w w') (hM : ∀ b, b ∈ M → β ≤ b ∧ ((b ∈ B ∧ ∃ es k, w.heap[b]? = some (.map es k)) ∨ ∃ cs T f, w.heap[b]? = some (.cells cs T f) ∧ T ∈ S)) : Chg β S B w w' := ⟨M, h, hM⟩
theorem Chg.trans (h : Chg β S B w w1) (k : Chg β S B w1 w') : Chg β S B w w' := by
  obtain ⟨M, hk, hM⟩ := h
  obtain ⟨M', hk', hM'⟩ := k
  have hs := hk.size
  refine ⟨M ++ M'.filter (fun b => decide (b < w.heap.size)), ?_, ?_⟩
  · refine (hk.mono fun b hb => .inl (by simp [hb])).trans hk' fun b hb => ?_
    by_cases hlt : b < w.heap.size
    · exact .inl (by simp [hb, hlt])
    · exact .inr (by omega)
  · intro b hb
    rw [List.mem_append, List.mem_filter] at hb
    by_cases hbM : b ∈ M
    · exact hM b hbM
    · rcases hb with hb | ⟨hb, hlt⟩
      · exact absurd hb hbM
      · have hlt : b < w.heap.size := by simpa using hlt
        have e := hk.block b hlt hbM
        obtain ⟨h0, hh⟩ := hM' b hb
        refine ⟨h0, ?_⟩
        rcases hh with ⟨h1, es, c, h2⟩ | ⟨cs, T, f, h2, h3⟩
        · exact .inl ⟨h1, es, c, by rw [← e]; exact h2⟩
        · exact .inr ⟨cs, T, f, by rw [← e]; exact h2, h3⟩
theorem Chg.mono (h : Chg β S B w w') (hS : ∀ T, T ∈ S → T ∈ S') (hB : ∀ b, b ∈ B → b ∈ B' ∨ w.heap.size ≤ b) : Chg β S' B' w w' := by
  obtain ⟨M, hk, hM⟩ := h
  refine ⟨M, hk, fun b hb => ?_⟩
  obtain ⟨h0, hh⟩ := hM b hb
  refine ⟨h0, ?_⟩
  rcases hh with ⟨h1, es, c, h2⟩ | ⟨cs, T, f, h2, h3⟩
  · rcases hB b h1 with h | h
    · exact .inl ⟨h, es, c, h2⟩
    · have := lt_of_block h2; omega
  · exact .inr ⟨cs, T, f, h2, hS T h3⟩
theorem Chg.size (h : Chg β S B w w') : w.heap.size ≤ w'.heap.size := by obtain ⟨M, hk, _⟩ := h; exact hk.size
theorem Chg.drew (h : Chg β S B w w') : Chg β S B w w'.drew := by obtain ⟨M, hk, hM⟩ := h; exact ⟨M, hk.drew, hM⟩
theorem Chg.of_drew (h : Chg β S B w.drew w') : Chg β S B w w' := by obtain ⟨M, hk, hM⟩ := h; exact ⟨M, hk.of_drew, hM⟩
/-- What is kept. -/
theorem Chg.blk (h : Chg β S B w w') {b : Nat} {T : TypeId} {cs : Array Value} (hb : Blk w b T cs) (hT : T ∉ S) : Blk w' b T cs := by
  obtain ⟨M, hk, hM⟩ := h
  refine hk.blk hb fun hm => ?_
  unfold Blk at hb
  rcases (hM b hm).2 with ⟨_, es, c, h2⟩ | ⟨cs', T', f, h2, h3⟩
  · rw [hb] at h2; cases h2
  · rw [hb] at h2; injection h2 with h2; injection h2 with _ h4; exact hT (h4 ▸ h3)
theorem Chg.map {P : Program} {k : TypeId} {b n : Nat} {f : Lit → Option Value} (h : Chg β S B w w') (hm : MapAt P k w b n f) (hb : b ∉ B) : MapAt P k w' b n f := by
  obtain ⟨M, hk, hM⟩ := h
  refine hm.keep hk fun hm' => ?_
  obtain ⟨D, ⟨es, cl, hes, _⟩, _⟩ := hm
  rcases (hM b hm').2 with ⟨h1, _⟩ | ⟨cs', T', f, h2, h3⟩
  · exact hb h1
  · rw [hes] at h2; cases h2
theorem Chg.own {base n k : Nat} {e : TypeId} {v : Value} {xs : List Value} (h : Chg β S B w w') (ho : w.ownsRow base e k v n xs) (he : e ∉ S) : w'.ownsRow base e k v n xs := by
  obtain ⟨M, hk, hM⟩ := h
  refine own_keep ho hk fun b hb hv => ?_
  rcases ho.2 with ⟨rfl, _⟩ | ⟨g, cap, cur, rfl, _, hg, _⟩
  · simp [Value.ownBlock] at hv
  · simp [Value.ownBlock] at hv
    subst hv
    rcases (hM _ hb).2 with ⟨_, es, c, h2⟩ | ⟨cs', T', f, h2, h3⟩
    · rw [hg] at h2; cases h2
    · rw [hg] at h2; injection h2 with h2; injection h2 with _ h4; exact he (h4 ▸ h3)
theorem Chg.rd {e : TypeId} {k n : Nat} {A : Option Addr} {xs : List Value} (h : Chg β S B w w') (hr : Rd w e k A n xs) (he : e ∉ S) : Rd w' e k A n xs := by
  obtain ⟨M, hk, hM⟩ := h
  refine hr.keep hk fun b hb => ?_
  rcases (hM b hb).2 with ⟨_, es, c, h2⟩ | ⟨cs', T', f, h2, h3⟩
  · exact NoTag.of_map h2 _
  · intro cs T f' h4 hT
    rw [h2] at h4; injection h4 with h4; injection h4 with _ h5
    rw [List.mem_singleton.1 hT] at h5
    exact he (h5 ▸ h3)
theorem Chg.tree {α : Type} {L : Lay α} {tt : TypeId} {t : Nat} {l : List α} (h : Chg β S B w w') (ht : TreeAt L tt w t l) (hS : ∀ T, T ∈ tt :: L.tags → T ∉ S) : TreeAt L tt w' t l := by
  obtain ⟨M, hk, hM⟩ := h
  refine ht.keep hk (fun hm => ?_) fun b hb => ?_
  · obtain ⟨root, wr, hb, _⟩ := ht
    unfold Blk at hb
    rcases (hM t hm).2 with ⟨_, es, c, h2⟩ | ⟨cs', T', f, h2, h3⟩
    · rw [hb] at h2; cases h2
    · rw [hb] at h2; injection h2 with h2; injection h2 with _ h4; exact hS _ (by simp) (h4 ▸ h3)
  · rcases (hM b hb).2 with ⟨_, es, c, h2⟩ | ⟨cs', T', f, h2, h3⟩
    · exact NoTag.of_map h2 _
    · intro cs T f' h4 hT
      rw [h2] at h4; injection h4 with h4; injection h4 with _ h5
      exact hS T (by simp [hT]) (h5 ▸ h3)
theorem chg_cells {b : Nat} {T : TypeId} {cs : Array Value} (hb : Blk w b T cs) (k : Keeps [b] w w') (hT : T ∈ S) (h0 : β ≤ b) : Chg β S B w w' :=
  ⟨[b], k, fun b' hb' => by rw [List.mem_singleton.1 hb']; exact ⟨h0, .inr ⟨_, _, _, hb, hT⟩⟩⟩
theorem chg_map {P : Program} {kt : TypeId} {b n : Nat} {f : Lit → Option Value} (hb : MapAt P kt w b n f) (k : Keeps [b] w w') (hB : b ∈ B) (h0 : β ≤ b) : Chg β S B w w' := by
  obtain ⟨D, ⟨es, cl, hes, _⟩, _⟩ := hb
  exact ⟨[b], k, fun b' hb' => by rw [List.mem_singleton.1 hb']; exact ⟨h0, .inl ⟨hB, _, _, hes⟩⟩⟩
theorem chg_row {n k : Nat} {e : TypeId} {v : Value} {xs : List Value} (ho : w.ownsRow β e k v n xs) (kk : Keeps (obs v) w w') (he : e ∈ S) : Chg β S B w w' := by
  refine ⟨obs v, kk, fun b hb => ⟨(own_base ho hb).1, ?_⟩⟩
  rcases ho.2 with ⟨rfl, _⟩ | ⟨g, cap, cur, rfl, _, hg, _⟩
  · simp [obs, Value.ownBlock] at hb
  · simp [obs, Value.ownBlock] at hb
    subst hb
    exact .inr ⟨_, _, _, hg, he⟩
/-- Where all that has turned is new. -/
theorem Chg.keeps (h : Chg β S B w w') {w0 : World} (k : Keeps [] w0 w) (h0 : w0.heap.size ≤ β) : Keeps [] w0 w' := by
  obtain ⟨M, hk, hM⟩ := h
  exact k.trans hk fun b hb => .inr (Nat.le_trans h0 (hM b hb).1)
end
/-- A row stays, where only a block of another kind turns. -/
theorem own_far {w w' : World} {base n k b : Nat} {e T : TypeId} {v : Value} {xs : List Value} {cs : Array Value} (ho : w.ownsRow base e k v n xs) (hb : Blk w b T cs) (hne : T ≠ e) (kk : Keeps [b] w w') : w'.ownsRow base e k v n xs := by
  refine own_keep ho kk fun b' hb' hv => ?_
  have hm : b' ∈ obs v := by simp [obs, hv]
  have hnt := own_noTag ho (S := [T]) (by simp; exact fun h => hne h.symm) hm
  have e : b' = b := List.mem_singleton.1 hb'
  subst e
  exact hnt _ _ _ hb (by simp)
end Go.Proofs.YtkngjgblfappoaaGreatDoor
