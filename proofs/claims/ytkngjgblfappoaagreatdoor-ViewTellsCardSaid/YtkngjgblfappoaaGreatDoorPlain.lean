/-
  The counted tree as plain data: what a node has by its height; one element more, one less. No program is named here.
-/
namespace Go.Proofs.YtkngjgblfappoaaGreatDoor

/-- What a node of some height has: elements, or nodes below. -/
def Tr (α : Type) : Nat → Type
  | 0 => List α
  | h + 1 => List (Tr α h)

namespace Tr
variable {α : Type}
abbrev els (t : Tr α 0) : List α := t
abbrev kids {h : Nat} (t : Tr α (h + 1)) : List (Tr α h) := t
def flat : (h : Nat) → Tr α h → List α
  | 0, t => (t : List α)
  | h + 1, t => (t : List (Tr α h)).flatMap (flat h)
def size : (h : Nat) → Tr α h → Nat
  | 0, t => (t : List α).length
  | h + 1, t => (t : List (Tr α h)).length
def Ok : (lo : Nat) → (h : Nat) → Tr α h → Prop
  | lo, 0, t => lo ≤ (t : List α).length ∧ (t : List α).length ≤ 8
  | lo, h + 1, t => lo ≤ (t : List (Tr α h)).length ∧ (t : List (Tr α h)).length ≤ 8 ∧ ∀ k ∈ kids t, Ok 4 h k
theorem Ok.size_ge {lo h : Nat} {t : Tr α h} (o : Ok lo h t) : lo ≤ size h t := by cases h <;> exact o.1
theorem Ok.size_le {lo h : Nat} {t : Tr α h} (o : Ok lo h t) : size h t ≤ 8 := by
  cases h
  · exact o.2
  · exact o.2.1
theorem Ok.with {lo lo' h : Nat} {t : Tr α h} (o : Ok lo h t) (hl : lo' ≤ size h t) : Ok lo' h t := by
  cases h
  · exact ⟨hl, o.2⟩
  · exact ⟨hl, o.2⟩
/-- How many elements a node of some height has at most. -/
def most : Nat → Nat
  | 0 => 8
  | h + 1 => 8 * most h
theorem length_flatMap_le {β γ : Type} (f : β → List γ) (m : Nat) : ∀ l : List β, (∀ x ∈ l, (f x).length ≤ m) → (l.flatMap f).length ≤ l.length * m
  | [], _ => by simp
  | x :: l, h => by
    have h1 := h x (by simp)
    have h2 := length_flatMap_le f m l (fun y hy => h y (by simp [hy]))
    simp only [List.flatMap_cons, List.length_append, List.length_cons, Nat.add_mul, Nat.one_mul]
    omega
theorem length_flatMap_ge {β γ : Type} (f : β → List γ) (m : Nat) : ∀ l : List β, (∀ x ∈ l, m ≤ (f x).length) → l.length * m ≤ (l.flatMap f).length
  | [], _ => by simp
  | x :: l, h => by
    have h1 := h x (by simp)
    have h2 := length_flatMap_ge f m l (fun y hy => h y (by simp [hy]))
    simp only [List.flatMap_cons, List.length_append, List.length_cons, Nat.add_mul, Nat.one_mul]
    omega
theorem Ok.flat_ge : ∀ {h lo : Nat} {t : Tr α h}, Ok lo h t → lo ≤ (flat h t).length
  | 0, lo, t, o => o.1
  | h + 1, lo, t, o => by
    have := length_flatMap_ge (flat h) 1 t (fun x hx => by have := (o.2.2 x hx).flat_ge; omega)
    have h1 := o.1
    simp only [flat]
    omega
theorem Ok.flat_le : ∀ {h lo : Nat} {t : Tr α h}, Ok lo h t → (flat h t).length ≤ most h
  | 0, lo, t, o => o.2
  | h + 1, lo, t, o => by
    have h1 := length_flatMap_le (flat h) (most h) t (fun x hx => (o.2.2 x hx).flat_le)
    have h2 := Nat.mul_le_mul_right (most h) o.2.1
    simp only [flat, most]
    omega

/-- A list in one part, or in two halves, if it is longer than eight. -/
def halves {β : Type} (l : List β) : List (List β) := if l.length ≤ 8 then [l] else [l.take (l.length / 2), l.drop (l.length / 2)]
theorem halves_small {β : Type} {l : List β} (h : l.length ≤ 8) : halves l = [l] := by simp [halves, h]
theorem halves_big {β : Type} {l : List β} (h : ¬ l.length ≤ 8) : halves l = [l.take (l.length / 2), l.drop (l.length / 2)] := by simp [halves, h]
theorem halves_flatten {β : Type} (l : List β) : (halves l).flatMap id = l := by
  unfold halves; split <;> simp
theorem halves_flat {β γ : Type} (f : β → List γ) (l : List β) : (halves l).flatMap (fun x => x.flatMap f) = l.flatMap f := by
  unfold halves; split
  · simp
  · simp only [List.flatMap_cons, List.flatMap_nil, List.append_nil]
    rw [← List.flatMap_append, List.take_append_drop]
theorem halves_mem {β : Type} {l x : List β} (h : x ∈ halves l) : ∀ y ∈ x, y ∈ l := by
  intro y hy
  unfold halves at h
  split at h
  · simp at h; subst h; exact hy
  · simp at h
    rcases h with rfl | rfl
    · exact List.mem_of_mem_take hy
    · exact List.mem_of_mem_drop hy
theorem halves_len {β : Type} {l : List β} (h : l.length ≤ 16) : ((halves l).length = 1 ∧ halves l = [l] ∧ l.length ≤ 8) ∨ ((halves l).length = 2 ∧ 8 < l.length ∧ ∀ x ∈ halves l, 4 ≤ x.length ∧ x.length ≤ 8) := by
  unfold halves; split
  · exact .inl ⟨rfl, rfl, by assumption⟩
  · refine .inr ⟨rfl, by omega, ?_⟩
    intro x hx
    simp at hx
    rcases hx with rfl | rfl <;> simp <;> omega

/-- What an insertion makes of a node: one node, or two. -/
structure Ins (lo h : Nat) (t : Tr α h) (i : Nat) (v : α) (ts : List (Tr α h)) : Prop where
  flat_eq : ts.flatMap (flat h) = (flat h t).take i ++ v :: (flat h t).drop i
  ok : (ts.length = 1 ∧ ∀ x ∈ ts, Ok lo h x) ∨ (ts.length = 2 ∧ ∀ x ∈ ts, Ok 4 h x)

theorem flatMap_at {β γ : Type} (f : β → List γ) (l : List β) (k : Nat) (x : β) (h : l[k]? = some x) : l.flatMap f = (l.take k).flatMap f ++ (f x ++ (l.drop (k + 1)).flatMap f) := by
  have hk := (List.getElem?_eq_some_iff.1 h).1
  have hx := (List.getElem?_eq_some_iff.1 h).2
  conv => lhs; rw [← List.take_append_drop k l, List.drop_eq_getElem_cons hk, hx]
  simp [List.flatMap_append]
theorem take_ins {γ : Type} (A B C : List γ) (j : Nat) (v : γ) (hj : j ≤ B.length) :
    (A ++ (B ++ C)).take (A.length + j) ++ v :: (A ++ (B ++ C)).drop (A.length + j) = A ++ ((B.take j ++ v :: B.drop j) ++ C) := by
  rw [List.take_append, List.drop_append]
  simp [List.take_append, List.drop_append, Nat.sub_eq_zero_of_le hj]
  rw [List.take_of_length_le (by omega), List.drop_eq_nil_of_le (by omega)]; rfl
theorem take_era {γ : Type} (A B C : List γ) (j : Nat) (hj : j < B.length) :
    (A ++ (B ++ C)).take (A.length + j) ++ (A ++ (B ++ C)).drop (A.length + j + 1) = A ++ ((B.take j ++ B.drop (j + 1)) ++ C) := by
  rw [List.take_append, List.drop_append]
  have e : A.length + j + 1 - A.length = j + 1 := by omega
  simp [List.take_append, List.drop_append, e, Nat.sub_eq_zero_of_le (Nat.le_of_lt hj), Nat.sub_eq_zero_of_le hj]
  rw [List.take_of_length_le (by omega), List.drop_eq_nil_of_le (by omega)]; rfl

theorem ins_leaf {lo : Nat} {l : List α} (o : Ok lo 0 l) {i : Nat} (hi : i ≤ l.length) (v : α) : Ins (α := α) lo 0 l i v (halves (l.take i ++ v :: l.drop i)) := by
  have h1 : lo ≤ l.length := o.1
  have h2 : l.length ≤ 8 := o.2
  have hl : (l.take i ++ v :: l.drop i).length = l.length + 1 := by simp; omega
  refine ⟨?_, ?_⟩
  · have := halves_flatten (l.take i ++ v :: l.drop i)
    simp only [flat]
    exact this
  · rcases halves_len (l := l.take i ++ v :: l.drop i) (by omega) with ⟨a, b, c⟩ | ⟨a, b, c⟩
    · refine .inl ⟨a, fun x hx => ?_⟩
      rw [b] at hx
      have hx' := List.mem_singleton.1 hx
      subst hx'
      exact ⟨by rw [hl]; omega, c⟩
    · exact .inr ⟨a, fun x hx => c x hx⟩

theorem ins_inner {lo h : Nat} {ks : List (Tr α h)} (o : Ok lo (h + 1) ks) {k j i : Nat} {x : Tr α h} (hk : ks[k]? = some x) {v : α} {ts : List (Tr α h)} (s : Ins 4 h x j v ts)
    (hj : j ≤ (flat h x).length) (hi : ((ks.take k).flatMap (flat h)).length + j = i) : Ins (α := α) lo (h + 1) ks i v (halves (ks.take k ++ ts ++ ks.drop (k + 1))) := by
  have h1 : lo ≤ ks.length := o.1
  have h2 : ks.length ≤ 8 := o.2.1
  have hkl := (List.getElem?_eq_some_iff.1 hk).1
  have hts : 1 ≤ ts.length ∧ ts.length ≤ 2 := by rcases s.ok with ⟨a, _⟩ | ⟨a, _⟩ <;> omega
  have hok : ∀ y ∈ ks.take k ++ ts ++ ks.drop (k + 1), Ok 4 h y := by
    intro y hy
    simp only [List.mem_append] at hy
    rcases hy with (hy | hy) | hy
    · exact o.2.2 y (List.mem_of_mem_take hy)
    · rcases s.ok with ⟨_, b⟩ | ⟨_, b⟩ <;> exact b y hy
    · exact o.2.2 y (List.mem_of_mem_drop hy)
  have hl : (ks.take k ++ ts ++ ks.drop (k + 1)).length = ks.length - 1 + ts.length := by simp; omega
  refine ⟨?_, ?_⟩
  · have e1 := halves_flat (flat h) (ks.take k ++ ts ++ ks.drop (k + 1))
    have e2 : (flat (h + 1) (ks : Tr α (h + 1))) = (ks.take k).flatMap (flat h) ++ (flat h x ++ (ks.drop (k + 1)).flatMap (flat h)) := flatMap_at (flat h) ks k x hk
    rw [e2, ← hi, take_ins _ _ _ _ _ hj, ← s.flat_eq]
    refine Eq.trans e1 ?_
    simp [List.flatMap_append]
  · rcases halves_len (l := ks.take k ++ ts ++ ks.drop (k + 1)) (by omega) with ⟨a, b, c⟩ | ⟨a, b, c⟩
    · refine .inl ⟨a, fun y hy => ?_⟩
      rw [b] at hy
      have hy' := List.mem_singleton.1 hy
      subst hy'
      exact ⟨by rw [hl]; omega, c, hok⟩
    · exact .inr ⟨a, fun y hy => ⟨(c y hy).1, (c y hy).2, fun z hz => hok z (halves_mem hy z hz)⟩⟩

/-- What an erasure makes of a node. -/
structure Era (lo h : Nat) (t : Tr α h) (i : Nat) (t' : Tr α h) : Prop where
  flat_eq : flat h t' = (flat h t).take i ++ (flat h t).drop (i + 1)
  ok : Ok (lo - 1) h t'

theorem era_leaf {lo : Nat} {l : List α} (o : Ok lo 0 l) {i : Nat} (hi : i < l.length) : Era (α := α) lo 0 l i (l.take i ++ l.drop (i + 1)) := by
  have h1 : lo ≤ l.length := o.1
  have h2 : l.length ≤ 8 := o.2
  have hl : (l.take i ++ l.drop (i + 1)).length = l.length - 1 := by simp; omega
  exact ⟨rfl, by rw [show ((l.take i ++ l.drop (i + 1) : List α)).length = _ from hl]; omega, by rw [show ((l.take i ++ l.drop (i + 1) : List α)).length = _ from hl]; omega⟩

theorem set_split {β : Type} (l : List β) (k : Nat) (x : β) (hk : k < l.length) : l.set k x = l.take k ++ x :: l.drop (k + 1) := by
  rw [List.set_eq_take_append_cons_drop, if_pos hk]

theorem era_set {h : Nat} {ks : List (Tr α h)} {k j i : Nat} {x t' : Tr α h} (hk : ks[k]? = some x) (s : Era 4 h x j t')
    (hj : j < (flat h x).length) (hi : ((ks.take k).flatMap (flat h)).length + j = i) : (ks.set k t').flatMap (flat h) = (flat (h + 1) (ks : Tr α (h + 1))).take i ++ (flat (h + 1) (ks : Tr α (h + 1))).drop (i + 1) := by
  have hkl := (List.getElem?_eq_some_iff.1 hk).1
  have e2 : (flat (h + 1) (ks : Tr α (h + 1))) = (ks.take k).flatMap (flat h) ++ (flat h x ++ (ks.drop (k + 1)).flatMap (flat h)) := flatMap_at (flat h) ks k x hk
  rw [e2, ← hi, take_era _ _ _ _ hj, ← s.flat_eq, set_split ks k t' hkl]
  simp [List.flatMap_append]

theorem era_plain {lo h : Nat} {ks : List (Tr α h)} (o : Ok lo (h + 1) ks) {k j i : Nat} {x t' : Tr α h} (hk : ks[k]? = some x) (s : Era 4 h x j t')
    (hj : j < (flat h x).length) (hi : ((ks.take k).flatMap (flat h)).length + j = i) (hs : 4 ≤ size h t') : Era (α := α) lo (h + 1) ks i (ks.set k t') := by
  refine ⟨era_set hk s hj hi, ?_⟩
  have h1 : lo ≤ ks.length := o.1
  have h2 : ks.length ≤ 8 := o.2.1
  refine ⟨by simp; omega, by simp; exact h2, fun y hy => ?_⟩
  rcases List.mem_or_eq_of_mem_set hy with hm | rfl
  · exact o.2.2 y hm
  · exact s.ok.with hs

/-- Two nodes as one list, in one part or two. -/
def join : (h : Nat) → Tr α h → Tr α h → List (Tr α h)
  | 0, a, b => halves (els a ++ els b)
  | _ + 1, a, b => halves (kids a ++ kids b)
theorem join_flat : ∀ (h : Nat) (a b : Tr α h), (join h a b).flatMap (flat h) = flat h a ++ flat h b
  | 0, a, b => halves_flatten (els a ++ els b)
  | _ + 1, a, b => by
    have := halves_flat (flat _) (kids a ++ kids b)
    rw [List.flatMap_append] at this
    exact this
theorem halves_ok {β : Type} {l : List β} (h : 4 ≤ l.length) (h16 : l.length ≤ 16) :
    (∀ x ∈ halves l, 4 ≤ x.length ∧ x.length ≤ 8 ∧ ∀ y ∈ x, y ∈ l) ∧ 1 ≤ (halves l).length ∧ (halves l).length ≤ 2 := by
  rcases halves_len h16 with ⟨p, q, r⟩ | ⟨p, q, r⟩
  · refine ⟨fun x hx => ?_, by omega, by omega⟩
    rw [q] at hx
    have hx' := List.mem_singleton.1 hx
    subst hx'
    exact ⟨h, r, fun y hy => hy⟩
  · exact ⟨fun x hx => ⟨(r x hx).1, (r x hx).2, halves_mem hx⟩, by omega, by omega⟩
theorem join_ok {h : Nat} {a b : Tr α h} {la lb : Nat} (oa : Ok la h a) (ob : Ok lb h b) (hs : 4 ≤ size h a + size h b) :
    (∀ x ∈ join h a b, Ok 4 h x) ∧ 1 ≤ (join h a b).length ∧ (join h a b).length ≤ 2 := by
  have h1 := oa.size_le
  have h2 := ob.size_le
  cases h with
  | zero =>
    have hl : (els a ++ els b).length = size 0 a + size 0 b := List.length_append
    obtain ⟨p, q⟩ := halves_ok (l := els a ++ els b) (by omega) (by omega)
    exact ⟨fun x hx => ⟨(p x hx).1, (p x hx).2.1⟩, q⟩
  | succ h =>
    have hl : (kids a ++ kids b).length = size (h + 1) a + size (h + 1) b := List.length_append
    obtain ⟨p, q⟩ := halves_ok (l := kids a ++ kids b) (by omega) (by omega)
    refine ⟨fun x hx => ⟨(p x hx).1, (p x hx).2.1, fun y hy => ?_⟩, q⟩
    rcases List.mem_append.1 ((p x hx).2.2 y hy) with hy | hy
    · exact oa.2.2 y hy
    · exact ob.2.2 y hy

theorem drop_two {β : Type} (l : List β) (k : Nat) (a b : β) (ha : l[k]? = some a) (hb : l[k + 1]? = some b) : l = l.take k ++ a :: b :: l.drop (k + 2) := by
  have h1 := List.getElem?_eq_some_iff.1 ha
  have h2 := List.getElem?_eq_some_iff.1 hb
  conv => lhs; rw [← List.take_append_drop k l, List.drop_eq_getElem_cons h1.1, h1.2, List.drop_eq_getElem_cons h2.1, h2.2]

theorem era_join {lo h : Nat} {ks : List (Tr α h)} (o : Ok lo (h + 1) ks) {k j i q : Nat} {x t' a b : Tr α h} (hk : ks[k]? = some x) (s : Era 4 h x j t')
    (hj : j < (flat h x).length) (hi : ((ks.take k).flatMap (flat h)).length + j = i) (hq : q = min k (ks.length - 2)) (h2 : 2 ≤ ks.length)
    (ha : (ks.set k t')[q]? = some a) (hb : (ks.set k t')[q + 1]? = some b) : Era (α := α) lo (h + 1) ks i ((ks.set k t').take q ++ join h a b ++ (ks.set k t').drop (q + 2)) := by
  have h1 : lo ≤ ks.length := o.1
  have h8 : ks.length ≤ 8 := o.2.1
  have hkl := (List.getElem?_eq_some_iff.1 hk).1
  have hok : ∀ p y, (ks.set k t')[p]? = some y → (p = k ∧ y = t') ∨ (p ≠ k ∧ Ok 4 h y) := by
    intro p y hp
    rw [List.getElem?_set] at hp
    by_cases e : k = p
    · simp [e] at hp; subst e; simp [hkl] at hp; exact .inl ⟨rfl, hp.symm⟩
    · simp [e] at hp; exact .inr ⟨fun h => e h.symm, o.2.2 y (List.mem_of_getElem? hp)⟩
  have hsz : Ok 3 h t' := s.ok
  have hab : (∃ la, Ok la h a) ∧ (∃ lb, Ok lb h b) ∧ 4 ≤ size h a + size h b := by
    rcases hok q a ha with ⟨e1, rfl⟩ | ⟨e1, oa⟩ <;> rcases hok (q + 1) b hb with ⟨e2, rfl⟩ | ⟨e2, ob⟩
    · omega
    · exact ⟨⟨_, hsz⟩, ⟨_, ob⟩, by have := ob.size_ge; omega⟩
    · exact ⟨⟨_, oa⟩, ⟨_, hsz⟩, by have := oa.size_ge; omega⟩
    · exact ⟨⟨_, oa⟩, ⟨_, ob⟩, by have := oa.size_ge; omega⟩
  obtain ⟨⟨la, oa⟩, ⟨lb, ob⟩, hs⟩ := hab
  obtain ⟨j1, j2, j3⟩ := join_ok oa ob hs
  have hql : q + 2 ≤ (ks.set k t').length := by simp; omega
  have hlen : (((ks.set k t').take q ++ join h a b ++ (ks.set k t').drop (q + 2) : List (Tr α h))).length = ks.length - 2 + (join h a b).length := by simp at hql ⊢; omega
  refine ⟨?_, ?_, ?_, ?_⟩
  · have e := era_set hk s hj hi
    rw [← e]
    conv => rhs; rw [drop_two (ks.set k t') q a b ha hb]
    show (((ks.set k t').take q ++ join h a b ++ (ks.set k t').drop (q + 2)) : List (Tr α h)).flatMap (flat h) = _
    simp [List.flatMap_append, join_flat]
  · rw [hlen]; omega
  · rw [hlen]; omega
  · intro y hy
    have hmem : ∀ p y, p ≠ k → (ks.set k t')[p]? = some y → Ok 4 h y := fun p y hp hy => by
      rcases hok p y hy with ⟨e, _⟩ | ⟨_, o⟩
      · exact absurd e hp
      · exact o
    simp only [List.mem_append] at hy
    rcases hy with (hy | hy) | hy
    · obtain ⟨p, hp, rfl⟩ := List.mem_iff_getElem.1 hy
      simp at hp
      exact hmem p _ (by omega) (by rw [List.getElem_take, List.getElem?_eq_getElem])
    · exact j1 y hy
    · obtain ⟨p, hp, rfl⟩ := List.mem_iff_getElem.1 hy
      simp at hp
      exact hmem (q + 2 + p) _ (by omega) (by rw [List.getElem_drop, List.getElem?_eq_getElem])
end Tr
end Go.Proofs.YtkngjgblfappoaaGreatDoor
