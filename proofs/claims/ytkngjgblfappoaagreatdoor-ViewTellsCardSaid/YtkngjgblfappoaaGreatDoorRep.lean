/-
  How a counted tree lies in memory. No program is named here: the types' numbers are a parameter (Lay).
-/
import Derived.Test.YtkngjgblfappoaaGreatDoorMem2
import Derived.Test.YtkngjgblfappoaaGreatDoorPlain
namespace Go.Proofs.YtkngjgblfappoaaGreatDoor
open Go.RowKit (Below intOf Hid)

/-- Two lists, item by item. -/
def All2 {β γ : Type} (R : β → γ → Prop) (ps : List β) (ks : List γ) : Prop := ps.length = ks.length ∧ ∀ (i : Nat) (p : β) (t : γ), ps[i]? = some p → ks[i]? = some t → R p t
section all2
variable {β γ : Type} {R S : β → γ → Prop} {ps qs : List β} {ks ms : List γ}
theorem All2.nil : All2 R [] [] := ⟨rfl, fun i p t h => by simp at h⟩
theorem All2.one {p : β} {t : γ} (h : R p t) : All2 R [p] [t] := ⟨rfl, fun i q u hq hu => by
  cases i with
  | zero => simp at hq hu; subst hq hu; exact h
  | succ i => simp at hq⟩
theorem All2.imp (h : All2 R ps ks) (hS : ∀ p t, p ∈ ps → t ∈ ks → R p t → S p t) : All2 S ps ks := ⟨h.1, fun i p t hp ht => hS p t (List.mem_of_getElem? hp) (List.mem_of_getElem? ht) (h.2 i p t hp ht)⟩
theorem All2.append (h : All2 R ps ks) (k : All2 R qs ms) : All2 R (ps ++ qs) (ks ++ ms) := ⟨by simp [h.1, k.1], fun i p t hp ht => by
  by_cases hi : i < ps.length
  · rw [List.getElem?_append_left hi] at hp
    rw [List.getElem?_append_left (by rw [← h.1]; exact hi)] at ht
    exact h.2 i p t hp ht
  · rw [List.getElem?_append_right (by omega)] at hp
    rw [List.getElem?_append_right (by rw [← h.1]; omega), ← h.1] at ht
    exact k.2 _ p t hp ht⟩
theorem All2.take (h : All2 R ps ks) (n : Nat) : All2 R (ps.take n) (ks.take n) := ⟨by simp [h.1], fun i p t hp ht => by
  rw [List.getElem?_take] at hp ht
  split at hp
  · rename_i hi; rw [if_pos hi] at ht; exact h.2 i p t hp ht
  · cases hp⟩
theorem All2.drop (h : All2 R ps ks) (n : Nat) : All2 R (ps.drop n) (ks.drop n) := ⟨by simp [h.1], fun i p t hp ht => by
  rw [List.getElem?_drop] at hp ht; exact h.2 _ p t hp ht⟩
theorem All2.get (h : All2 R ps ks) {i : Nat} {t : γ} (ht : ks[i]? = some t) : ∃ p, ps[i]? = some p ∧ R p t := by
  have hi := (List.getElem?_eq_some_iff.1 ht).1
  have hp : ps[i]? = some (ps[i]'(by rw [h.1]; exact hi)) := List.getElem?_eq_getElem _
  exact ⟨_, hp, h.2 i _ t hp ht⟩
theorem All2.get' (h : All2 R ps ks) {i : Nat} {p : β} (hp : ps[i]? = some p) : ∃ t, ks[i]? = some t ∧ R p t := by
  have hi := (List.getElem?_eq_some_iff.1 hp).1
  have ht : ks[i]? = some (ks[i]'(by rw [← h.1]; exact hi)) := List.getElem?_eq_getElem _
  exact ⟨_, ht, h.2 i p _ hp ht⟩
theorem All2.set (h : All2 R ps ks) {i : Nat} {p : β} {t : γ} (hr : R p t) : All2 R (ps.set i p) (ks.set i t) := ⟨by simp [h.1], fun j q u hq hu => by
  rw [List.getElem?_set] at hq hu
  by_cases e : i = j
  · subst e
    simp only [if_true] at hq hu
    split at hq
    · rename_i hl
      rw [if_pos (by rw [← h.1]; exact hl)] at hu
      injection hq with hq; injection hu with hu; subst hq hu; exact hr
    · cases hq
  · rw [if_neg e] at hq hu; exact h.2 j q u hq hu⟩
end all2

/-- The types of a tree's blocks; how its elements lie in cells. -/
structure Lay (α : Type) where
  nd : TypeId
  el : TypeId
  pt : TypeId
  k : Nat
  enc : α → List Value
  len : ∀ x, (enc x).length = k
  one : ∀ x, Cells1 (enc x)

section enc
variable {α : Type} (L : Lay α)
def Lay.cells (l : List α) : List Value := l.flatMap L.enc
theorem Lay.cells_len (l : List α) : (L.cells l).length = l.length * L.k := by
  unfold Lay.cells
  induction l with
  | nil => simp
  | cons x l ih => rw [List.flatMap_cons, List.length_append, L.len, ih, List.length_cons, Nat.add_mul, Nat.one_mul, Nat.add_comm]
theorem Lay.cells1 (l : List α) : Cells1 (L.cells l) := fun u hu => by
  obtain ⟨x, _, hx⟩ := List.mem_flatMap.1 hu
  exact L.one x u hx
theorem Lay.cells_append (l m : List α) : L.cells (l ++ m) = L.cells l ++ L.cells m := List.flatMap_append
theorem Lay.cells_take (l : List α) (i : Nat) : (L.cells l).take (i * L.k) = L.cells (l.take i) := by
  by_cases hi : i ≤ l.length
  · conv => lhs; rw [← List.take_append_drop i l, L.cells_append]
    have e : i * L.k = (L.cells (l.take i)).length := by rw [L.cells_len, List.length_take, Nat.min_eq_left hi]
    rw [e, List.take_left]
  · rw [List.take_of_length_le (by omega : l.length ≤ i), List.take_of_length_le]
    rw [L.cells_len]; exact Nat.mul_le_mul_right _ (by omega)
theorem Lay.cells_drop (l : List α) (i : Nat) : (L.cells l).drop (i * L.k) = L.cells (l.drop i) := by
  by_cases hi : i ≤ l.length
  · conv => lhs; rw [← List.take_append_drop i l, L.cells_append]
    have e : i * L.k = (L.cells (l.take i)).length := by rw [L.cells_len, List.length_take, Nat.min_eq_left hi]
    rw [e, List.drop_left]
  · rw [List.drop_eq_nil_of_le (by omega : l.length ≤ i), List.drop_eq_nil_of_le]
    · rfl
    · rw [L.cells_len]; exact Nat.mul_le_mul_right _ (by omega)
end enc

/-- The block that a slice lies in is one of F. -/
def InF (F : Nat → Prop) (A : Option Addr) (n : Nat) : Prop := 0 < n → ∀ g off, A = some ⟨g, off, none⟩ → F g
theorem InF.imp {F G : Nat → Prop} {A : Option Addr} {n : Nat} (h : InF F A n) (hi : ∀ b, F b → G b) : InF G A n := fun hn g off e => hi g (h hn g off e)
theorem InF.of_own {F : Nat → Prop} {w : World} {B k n m : Nat} {e : TypeId} {A : Option Addr} {c : Nat} {xs : List Value} (h : w.ownsRow B e k (.slice A m c) n xs) (hF : ∀ b, B ≤ b → F b) : InF F A n := fun _ g off he => by
  subst he
  exact hF g (h.lt g rfl).1

/-- A node in memory, all of whose blocks are of F: of elements; of nodes below. -/
def NodeIn {α : Type} (L : Lay α) (F : Nat → Prop) (w : World) : (h : Nat) → Nat → Tr α h → Prop
  | 0, p, t => ∃ A c, Blk w p L.nd #[.slice A (Tr.els t).length c, .slice none 0 0, .int .i64 (Tr.els t).length] ∧ Rd w L.el L.k A (Tr.els t).length (L.cells (Tr.els t)) ∧ (Tr.els t).length ≤ c ∧ F p ∧ InF F A (Tr.els t).length
  | h + 1, p, t => ∃ A c ps, Blk w p L.nd #[.slice none 0 0, .slice A (Tr.kids t).length c, .int .i64 (Tr.flat (h + 1) t).length] ∧ Rd w L.pt 1 A (Tr.kids t).length (List.map ptr ps) ∧ (Tr.kids t).length ≤ c ∧
      All2 (NodeIn L F w h) ps (Tr.kids t) ∧ F p ∧ InF F A (Tr.kids t).length
/-- A node in memory. -/
abbrev NodeAt {α : Type} (L : Lay α) (w : World) (h : Nat) (p : Nat) (t : Tr α h) : Prop := NodeIn L (fun _ => True) w h p t

section node
variable {α : Type} {L : Lay α} {F G : Nat → Prop} {w w' : World} {M : List Nat}
/-- The types of a tree's nodes and of what they lead to. -/
abbrev Lay.tags (L : Lay α) : List TypeId := [L.nd, L.el, L.pt]
theorem Rd.keepF {e : TypeId} {k n : Nat} {A : Option Addr} {xs : List Value} (h : Rd w e k A n xs) (hk : Keeps M w w') (hF : InF F A n) (hM : ∀ b, b ∈ M → NoTag w b [e] ∨ ¬ F b) : Rd w' e k A n xs :=
  ⟨h.1, h.2.1, fun hn => by
    obtain ⟨g, off, cur, rfl, hg, hx⟩ := h.2.2 hn
    refine ⟨g, off, cur, rfl, hk.obj hg (fun hm => ?_), hx⟩
    rcases hM g hm with h1 | h1
    · exact h1 _ _ _ hg (by simp)
    · exact h1 (hF hn g off rfl)⟩
theorem NodeIn.keepF (hk : Keeps M w w') (hM : ∀ b, b ∈ M → NoTag w b L.tags ∨ ¬ F b) : ∀ {h p : Nat} {t : Tr α h}, NodeIn L F w h p t → NodeIn L F w' h p t
  | 0, p, t, ⟨A, c, hb, hr, hc, hp, hA⟩ => ⟨A, c, hk.blk hb (fun hm => (hM p hm).elim (fun h => h _ _ _ hb (by simp)) (fun h => h hp)), hr.keepF hk hA (fun b hm => (hM b hm).imp (fun h => h.sub (by simp)) id), hc, hp, hA⟩
  | h + 1, p, t, ⟨A, c, ps, hb, hr, hc, ha, hp, hA⟩ => ⟨A, c, ps, hk.blk hb (fun hm => (hM p hm).elim (fun h => h _ _ _ hb (by simp)) (fun h => h hp)), hr.keepF hk hA (fun b hm => (hM b hm).imp (fun h => h.sub (by simp)) id), hc,
      ha.imp fun _ _ _ _ hn => NodeIn.keepF hk hM hn, hp, hA⟩
theorem NodeIn.keep {h p : Nat} {t : Tr α h} (hn : NodeIn L F w h p t) (hk : Keeps M w w') (hM : ∀ b, b ∈ M → NoTag w b L.tags) : NodeIn L F w' h p t := hn.keepF hk fun b hb => .inl (hM b hb)
theorem NodeIn.mono (hi : ∀ b, F b → G b) : ∀ {h p : Nat} {t : Tr α h}, NodeIn L F w h p t → NodeIn L G w h p t
  | 0, _, _, ⟨A, c, hb, hr, hc, hp, hA⟩ => ⟨A, c, hb, hr, hc, hi _ hp, hA.imp hi⟩
  | _ + 1, _, _, ⟨A, c, ps, hb, hr, hc, ha, hp, hA⟩ => ⟨A, c, ps, hb, hr, hc, ha.imp fun _ _ _ _ hn => NodeIn.mono hi hn, hi _ hp, hA.imp hi⟩
theorem NodeIn.at_ {h p : Nat} {t : Tr α h} (hn : NodeIn L F w h p t) : NodeAt L w h p t := hn.mono fun _ _ => trivial
/-- All its blocks are there. -/
theorem NodeIn.there : ∀ {h p : Nat} {t : Tr α h}, NodeIn L F w h p t → NodeIn L (fun b => F b ∧ b < w.heap.size) w h p t
  | 0, _, _, ⟨A, c, hb, hr, hc, hp, hA⟩ => ⟨A, c, hb, hr, hc, ⟨hp, hb.lt⟩, fun hn g off e => ⟨hA hn g off e, by
      obtain ⟨g', off', cur, e', hg, _⟩ := hr.2.2 hn
      rw [e] at e'; injection e' with e'; injection e' with e1 _; rw [e1]; exact lt_of_block hg⟩⟩
  | _ + 1, _, _, ⟨A, c, ps, hb, hr, hc, ha, hp, hA⟩ => ⟨A, c, ps, hb, hr, hc, ha.imp fun _ _ _ _ hn => NodeIn.there hn, ⟨hp, hb.lt⟩, fun hn g off e => ⟨hA hn g off e, by
      obtain ⟨g', off', cur, e', hg, _⟩ := hr.2.2 hn
      rw [e] at e'; injection e' with e'; injection e' with e1 _; rw [e1]; exact lt_of_block hg⟩⟩
/-- The same for a list of nodes. -/
theorem All2.keepF {h : Nat} {ps : List Nat} {ts : List (Tr α h)} (ha : All2 (NodeIn L F w h) ps ts) (hk : Keeps M w w') (hM : ∀ b, b ∈ M → NoTag w b L.tags ∨ ¬ F b) : All2 (NodeIn L F w' h) ps ts :=
  ha.imp fun _ _ _ _ hn => hn.keepF hk hM
theorem All2.keep {h : Nat} {ps : List Nat} {ts : List (Tr α h)} (ha : All2 (NodeIn L F w h) ps ts) (hk : Keeps M w w') (hM : ∀ b, b ∈ M → NoTag w b L.tags) : All2 (NodeIn L F w' h) ps ts :=
  ha.imp fun _ _ _ _ hn => hn.keep hk hM
theorem All2.wider {h : Nat} {ps : List Nat} {ts : List (Tr α h)} (ha : All2 (NodeIn L F w h) ps ts) (hi : ∀ b, F b → G b) : All2 (NodeIn L G w h) ps ts := ha.imp fun _ _ _ _ hn => hn.mono hi
theorem All2.there {h : Nat} {ps : List Nat} {ts : List (Tr α h)} (ha : All2 (NodeIn L F w h) ps ts) : All2 (NodeIn L (fun b => F b ∧ b < w.heap.size) w h) ps ts := ha.imp fun _ _ _ _ hn => hn.there
theorem NodeIn.blk {h p : Nat} {t : Tr α h} (hn : NodeIn L F w h p t) : ∃ cs, Blk w p L.nd cs := by
  cases h with
  | zero => obtain ⟨A, c, hb, _⟩ := hn; exact ⟨_, hb⟩
  | succ h => obtain ⟨A, c, ps, hb, _⟩ := hn; exact ⟨_, hb⟩
theorem NodeIn.count {h p : Nat} {t : Tr α h} (hn : NodeIn L F w h p t) : w.cell? ⟨p, 2, none⟩ = some (.int .i64 (Tr.flat h t).length) := by
  cases h with
  | zero => obtain ⟨A, c, hb, _⟩ := hn; exact hb.cell 2
  | succ h => obtain ⟨A, c, ps, hb, _⟩ := hn; exact hb.cell 2

/-- What a root is: no node at all, or one that is great enough. -/
def RootAt (L : Lay α) (w : World) (root : Value) (l : List α) : Prop :=
  (root = .pointer none ∧ l = []) ∨ ∃ h p t, root = ptr p ∧ NodeAt L w h p t ∧ Tr.Ok (if h = 0 then 1 else 2) h t ∧ l = Tr.flat h t
theorem RootAt.keep {root : Value} {l : List α} (hr : RootAt L w root l) (hk : Keeps M w w') (hM : ∀ b, b ∈ M → NoTag w b L.tags) : RootAt L w' root l := by
  rcases hr with h | ⟨h, p, t, h1, h2, h3⟩
  · exact .inl h
  · exact .inr ⟨h, p, t, h1, h2.keep hk hM, h3⟩
/-- A tree in memory: its struct's block t, of type tt. -/
def TreeAt (L : Lay α) (tt : TypeId) (w : World) (t : Nat) (l : List α) : Prop := ∃ root wr, Blk w t tt #[root, .int .i64 wr] ∧ RootAt L w root l
theorem TreeAt.keep {tt : TypeId} {t : Nat} {l : List α} (hr : TreeAt L tt w t l) (hk : Keeps M w w') (ht : t ∉ M) (hM : ∀ b, b ∈ M → NoTag w b L.tags) : TreeAt L tt w' t l := by
  obtain ⟨root, wr, hb, h⟩ := hr
  exact ⟨root, wr, hk.blk hb ht, h.keep hk hM⟩
theorem TreeAt.lt {tt : TypeId} {t : Nat} {l : List α} (hr : TreeAt L tt w t l) : t < w.heap.size := by
  obtain ⟨root, wr, hb, _⟩ := hr; exact hb.lt
end node
end Go.Proofs.YtkngjgblfappoaaGreatDoor
