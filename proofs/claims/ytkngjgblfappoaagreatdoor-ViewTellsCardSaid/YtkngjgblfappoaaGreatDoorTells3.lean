/-
  rialtolaw23.ViewTells: the plain law: which observers there are, what they are told, which fault is the first; and what stands in memory meanwhile.
-/
import Derived.Test.YtkngjgblfappoaaGreatDoorTells2
import Derived.Test.YtkngjgblfappoaaGreatDoorWatch2
namespace Go.Proofs.YtkngjgblfappoaaGreatDoor
open Go.RowKit (Below intOf Hid)
variable {β : Nat}

/-- The observers that are there. -/
def live (bs : List Bool) (n : Nat) : List Nat := (List.range n).filter fun m => bs.getD m false
theorem live_succ (bs : List Bool) (n : Nat) : live bs (n + 1) = if bs.getD n false = true then live bs n ++ [n] else live bs n := by
  unfold live
  rw [List.range_succ, List.filter_append, List.filter_cons]
  split
  · simp
  · simp
theorem live_mem {bs : List Bool} {n m : Nat} : m ∈ live bs n ↔ m < n ∧ bs.getD m false = true := by
  unfold live; rw [List.mem_filter, List.mem_range]
theorem live_nodup (bs : List Bool) (n : Nat) : (live bs n).Nodup := List.nodup_range.filter _
theorem live_len (bs : List Bool) (n : Nat) : (live bs n).length ≤ n := by
  have := List.length_filter_le (fun m => bs.getD m false) (List.range n)
  rw [List.length_range] at this
  exact this
theorem live_all {n : Nat} {bs : List Bool} (h : ∀ m, m < n → bs.getD m false = true) : live bs n = List.range n := by
  unfold live
  rw [List.filter_eq_self]
  intro m hm
  exact h m (List.mem_range.1 hm)
theorem live_era {bs : List Bool} {n m : Nat} (hm : m < bs.length) : live (bs.set m false) n = (live bs n).erase m := by
  rw [(live_nodup bs n).erase_eq_filter]
  unfold live
  rw [List.filter_filter]
  refine List.filter_congr fun b _ => ?_
  by_cases h : b = m
  · subst h; simp [List.getD_eq_getElem?_getD, hm]
  · have h' : m ≠ b := fun e => h e.symm
    simp [List.getD_eq_getElem?_getD, h, h']

/-- An observer of the statement's. -/
def ob (gb hb : Nat) (nb cb : Nat → Nat) (n : Nat) : Obv := (.func (.func 28) #[] #[ptr gb, ptr (nb n), ptr (cb n), ptr hb], n + 1)
def obsOf (gb hb : Nat) (nb cb : Nat → Nat) (l : List Nat) : List Obv := l.map (ob gb hb nb cb)
theorem obsOf_congr {gb hb : Nat} {nb cb nb' cb' : Nat → Nat} {l : List Nat} (h : ∀ n, n ∈ l → nb n = nb' n ∧ cb n = cb' n) : obsOf gb hb nb cb l = obsOf gb hb nb' cb' l := by
  unfold obsOf
  refine List.map_congr_left fun n hn => ?_
  unfold ob
  rw [(h n hn).1, (h n hn).2]

theorem eraIdx {l : List Nat} {k a : Nat} (hnd : l.Nodup) (hk : l[k]? = some a) : l.eraseIdx k = l.erase a := by
  have hkl := (List.getElem?_eq_some_iff.1 hk).1
  have hka := (List.getElem?_eq_some_iff.1 hk).2
  have e : l = l.take k ++ a :: l.drop (k + 1) := by
    conv => lhs; rw [← List.take_append_drop k l, List.drop_eq_getElem_cons hkl, hka]
  have hna : a ∉ l.take k := by
    intro h
    rw [e, List.nodup_append] at hnd
    exact hnd.2.2 a h a (by simp) rfl
  rw [List.eraseIdx_eq_take_drop_succ]
  conv => rhs; rw [e]
  rw [List.erase_append_right _ hna, List.erase_cons_head]
theorem map_era {α γ : Type} (f : α → γ) (l : List α) (k : Nat) : (l.map f).eraseIdx k = (l.eraseIdx k).map f := by
  induction l generalizing k with
  | nil => rfl
  | cons a r ih => cases k with
    | zero => rfl
    | succ k => simp only [List.map_cons, List.eraseIdx_cons_succ, ih]
/-- What Remove answers, and what is left. -/
theorem removed_live {gb hb : Nat} {nb cb : Nat → Nat} {bs : List Bool} {v : Nat} {ok : Bool} {l' : List Obv} (h : Removed (obsOf gb hb nb cb (live bs bs.length)) v ok l') :
    (ok = false ∧ l' = obsOf gb hb nb cb (live bs bs.length) ∧ ¬ (1 ≤ v ∧ v ≤ bs.length ∧ bs.getD (v - 1) false = true)) ∨
    (ok = true ∧ l' = obsOf gb hb nb cb (live (bs.set (v - 1) false) bs.length) ∧ 1 ≤ v ∧ v ≤ bs.length ∧ bs.getD (v - 1) false = true) := by
  rcases h with ⟨rfl, rfl, hno⟩ | ⟨rfl, k, o, hk, hv, rfl⟩
  · refine .inl ⟨rfl, rfl, fun ⟨h1, h2, h3⟩ => ?_⟩
    refine hno (ob gb hb nb cb (v - 1)) (List.mem_map.2 ⟨v - 1, live_mem.2 ⟨by omega, h3⟩, rfl⟩) ?_
    show ((v - 1 + 1 : Nat) : Int) = v
    omega
  · unfold obsOf at hk
    rw [List.getElem?_map] at hk
    obtain ⟨m, hm, rfl⟩ := Option.map_eq_some_iff.1 hk
    have hv' : m + 1 = v := by have h : ((m + 1 : Nat) : Int) = v := hv; omega
    obtain ⟨h1, h2⟩ := live_mem.1 (List.mem_of_getElem? hm)
    have e : v - 1 = m := by omega
    rw [e]
    refine .inr ⟨rfl, ?_, by omega, by omega, h2⟩
    unfold obsOf
    rw [live_era h1, map_era]
    congr 1
    exact eraIdx (live_nodup bs bs.length) hm

section
variable (hs ids : Nat → Int) (L0 : List Nat)
/-- What observer n does at change i. -/
def codeN (i n : Nat) : Option (Nat × Nat) := tCode (bits BinOp.and .i64 (hs n) 3) (bits BinOp.and .i64 (hs n / 4) 3) ((i : Int) + 1) n
/-- The codes of all calls up to change i, and of some more. -/
def pre (i : Nat) (L : List Nat) : List (Option (Nat × Nat)) := ((List.range i).flatMap fun j => L0.map (codeN hs j)) ++ L.map (codeN hs i)
def fst1 (i : Nat) (L : List Nat) : Option (Nat × Nat) := (pre hs L0 i L).findSome? id
theorem fst1_zero : fst1 hs L0 0 [] = none := rfl
theorem fst1_next (i : Nat) : fst1 hs L0 (i + 1) [] = fst1 hs L0 i L0 := by
  unfold fst1 pre
  rw [List.range_succ, List.flatMap_append]
  simp
theorem fst1_more (i n : Nat) (L : List Nat) : fst1 hs L0 i (L ++ [n]) = (fst1 hs L0 i L).orElse fun _ => codeN hs i n := by
  unfold fst1 pre
  rw [List.map_append, ← List.append_assoc, List.findSome?_append]
  cases h : List.findSome? id ((List.flatMap (fun j => List.map (codeN hs j) L0) (List.range i)) ++ List.map (codeN hs i) L) with
  | some q => rfl
  | none => cases hc : codeN hs i n <;> simp [hc]
/-- What has been told. -/
def gotL (i : Nat) (L : List Nat) : List Int := ((List.range i).flatMap fun j => L0.flatMap fun (n : Nat) => [(n : Int), ids j]) ++ L.flatMap fun (n : Nat) => [(n : Int), ids i]
theorem gotL_zero : gotL ids L0 0 [] = [] := rfl
theorem gotL_next (i : Nat) : gotL ids L0 (i + 1) [] = gotL ids L0 i L0 := by
  unfold gotL
  rw [List.range_succ, List.flatMap_append]
  simp
theorem gotL_more (i n : Nat) (L : List Nat) : gotL ids L0 i (L ++ [n]) = gotL ids L0 i L ++ [(n : Int), ids i] := by
  unfold gotL
  rw [List.flatMap_append, ← List.append_assoc]
  rfl
theorem flat2_len (L : List Nat) (x : Int) : (L.flatMap fun (n : Nat) => [(n : Int), x]).length = 2 * L.length := by
  induction L with
  | nil => rfl
  | cons a r ih => rw [List.flatMap_cons, List.length_append, ih]; simp; omega
theorem gotL_len (i : Nat) (L : List Nat) : (gotL ids L0 i L).length = i * (2 * L0.length) + 2 * L.length := by
  unfold gotL
  rw [List.length_append, flat2_len]
  congr 1
  induction i with
  | zero => simp
  | succ i ih => rw [List.range_succ, List.flatMap_append, List.length_append, ih, List.flatMap_singleton, flat2_len, Nat.add_mul]; omega
theorem gotL_bound {i a : Nat} {L : List Nat} (h1 : i ≤ 12) (h2 : L0.length ≤ a) (h3 : L.length ≤ a) (h4 : a ≤ 8) : (gotL ids L0 i L).length ≤ 300 := by
  rw [gotL_len]
  have : i * (2 * L0.length) ≤ 12 * (2 * 8) := Nat.mul_le_mul h1 (by omega)
  omega
end
theorem tCode_some {A C c1 : Int} {n : Nat} : (tCode A C c1 n).isSome = decide ((A = 1 ∨ A = 2) ∧ c1 = C) := by
  unfold tCode
  by_cases h1 : A = 1 ∧ c1 = C
  · rw [if_pos h1]; simp [h1.1, h1.2]
  · rw [if_neg h1]
    by_cases h2 : A = 2 ∧ c1 = C
    · rw [if_pos h2]; simp [h2.1, h2.2]
    · rw [if_neg h2]
      simp
      rintro (h | h) hc
      · exact h1 ⟨h, hc⟩
      · exact h2 ⟨h, hc⟩
theorem tCode_n {A C c1 : Int} {n : Nat} {q : Nat × Nat} (h : tCode A C c1 n = some q) : q.2 = n := by
  unfold tCode at h
  split at h
  · injection h with h; rw [← h]
  · split at h
    · injection h with h; rw [← h]
    · cases h

/-- What stands in memory while changes are told. -/
structure TSt (β : Nat) (gb hb : Nat) (nb cb : Nat → Nat) (Ah : Option Addr) (K hc : Nat) (hs : List Int) (ids : Nat → Int) (L0 : List Nat) (i j : Nat) (w : World) : Prop where
  got : ∃ A c, Blk w gb 74 #[.slice A (gotL ids L0 i (L0.take j)).length c] ∧ w.ownsRow β 2 1 (.slice A (gotL ids L0 i (L0.take j)).length c) (gotL ids L0 i (L0.take j)).length ((gotL ids L0 i (L0.take j)).map (Value.int .i64))
  nbs : ∀ n, n < K → Blk w (nb n) 3 #[.int .i64 n]
  cbs : ∀ n, n ∈ L0 → Blk w (cb n) 3 #[.int .i64 ((if n ∈ L0.take j then i + 1 else i : Nat) : Int)]
  how : Blk w hb 68 #[.slice Ah K hc]
  arr : Rc w 1 Ah K (hs.map (Value.int .i64))
end Go.Proofs.YtkngjgblfappoaaGreatDoor
