/-
  rialtolaw23.ViewTells: what Tell needs to know of the statement's observers.
-/
import Derived.Test.YtkngjgblfappoaaGreatDoorTells3
namespace Go.Proofs.YtkngjgblfappoaaGreatDoor
open Go.RowKit (Below intOf Hid)
variable {β : Nat}

theorem TSt.chg {S : List TypeId} {B : List Nat} {gb hb : Nat} {nb cb : Nat → Nat} {Ah : Option Addr} {K hc : Nat} {hs : List Int} {ids : Nat → Int} {L0 : List Nat} {i j : Nat} {w w' : World} (h : TSt β gb hb nb cb Ah K hc hs ids L0 i j w) (k : Chg β S B w w')
    (h1 : 74 ∉ S) (h2 : 2 ∉ S) (h3 : 3 ∉ S) (h4 : 68 ∉ S) (hA : 0 < K → ∀ g off, Ah = some ⟨g, off, none⟩ → g < β) : TSt β gb hb nb cb Ah K hc hs ids L0 i j w' := by
  obtain ⟨A, c, g1, g2⟩ := h.got
  exact ⟨⟨A, c, k.blk g1 h1, k.own g2 h2⟩, fun n hn => k.blk (h.nbs n hn) h3, fun n hn => k.blk (h.cbs n hn) h3, k.blk h.how h4, h.arr.chg k hA⟩
theorem TSt.next {gb hb : Nat} {nb cb : Nat → Nat} {Ah : Option Addr} {K hc : Nat} {hs : List Int} {ids : Nat → Int} {L0 : List Nat} {i : Nat} {w : World} (h : TSt β gb hb nb cb Ah K hc hs ids L0 i L0.length w) : TSt β gb hb nb cb Ah K hc hs ids L0 (i + 1) 0 w := by
  obtain ⟨A, c, g1, g2⟩ := h.got
  refine ⟨⟨A, c, ?_, ?_⟩, h.nbs, fun n hn => ?_, h.how, h.arr⟩
  · rw [List.take_zero, gotL_next]; rwa [List.take_length] at g1
  · rw [List.take_zero, gotL_next]; rwa [List.take_length] at g2
  · have := h.cbs n hn
    rw [List.take_length, if_pos hn] at this
    simpa using this
theorem MRep.chg {S : List TypeId} {B : List Nat} {q : Nat × Nat} {o : Came} {w w' : World} (h : MRep q o w) (k : Chg β S B w w') (hS : 79 ∉ S) : MRep q o w' := by
  rcases h with ⟨h1, mb, h2, h3⟩ | h
  · exact .inl ⟨h1, mb, h2, k.blk h3 hS⟩
  · exact .inr h
theorem entTellsC (args : Array Value) (w : World) : (callFunc 28 args).run Tryz.prog w = .ok (.enter 28 args) w := by kernel_rfl

abbrev obsS : List TypeId := [74, 2, 3]
theorem tellIn (gb hb : Nat) (nb cb : Nat → Nat) (Ah : Option Addr) (K hc : Nat) (hs : List Int) (ids : Nat → Int) (L0 : List Nat) (chs : List Chv)
    (hL : ∀ n, n ∈ L0 → n < K) (hnd : L0.Nodup) (hK : K ≤ 8) (hL8 : L0.length ≤ 8) (hlen : hs.length = K) (hc12 : chs.length ≤ 12) (hids : ∀ i ch, chs[i]? = some ch → ids i = ch.id) (hsm : ∀ c, c ∈ chs → c.an ≤ 100000 ∧ c.bn ≤ 100000)
    (hd1 : ∀ m n, m < K → n < K → nb m ≠ cb n) (hd2 : ∀ m n, m < K → n < K → cb m = cb n → m = n) (h0g : β ≤ gb) (h0c : ∀ n, n < K → β ≤ cb n) (hA : 0 < K → ∀ g off, Ah = some ⟨g, off, none⟩ → g < β) :
    TellIn β obsS [] 28 (fun j => #[ptr gb, ptr (nb (L0.getD j 0)), ptr (cb (L0.getD j 0)), ptr hb]) (obsOf gb hb nb cb L0) chs (TSt β gb hb nb cb Ah K hc hs ids L0)
      (fun i j => (L0[j]?).elim none (codeN (fun n => hs.getD n 0) i)) (fun i j => fst1 (fun n => hs.getD n 0) L0 i (L0.take j)) MRep where
  ent := entTellsC
  fns := fun j o h => by
    unfold obsOf at h
    rw [List.getElem?_map] at h
    obtain ⟨m, hm, rfl⟩ := Option.map_eq_some_iff.1 h
    have e : L0.getD j 0 = m := by rw [List.getD_eq_getElem?_getD, hm]; rfl
    rw [e]; rfl
  small := hsm
  tags := by decide
  step := fun i j ch w a ac b bc hch hj h => by
    have hj : j < L0.length := by unfold obsOf at hj; simpa using hj
    obtain ⟨n, hn⟩ : ∃ n, L0[j]? = some n := ⟨_, List.getElem?_eq_getElem hj⟩
    have e : L0.getD j 0 = n := by rw [List.getD_eq_getElem?_getD, hn]; rfl
    have hmem := List.mem_of_getElem? hn
    have hnK := hL n hmem
    have hil : i < chs.length := (List.getElem?_eq_some_iff.1 hch).1
    have hnt : n ∉ L0.take j := by
      intro hm
      have e2 : L0 = L0.take j ++ n :: L0.drop (j + 1) := by
        conv => lhs; rw [← List.take_append_drop j L0, List.drop_eq_getElem_cons hj, (List.getElem?_eq_some_iff.1 hn).2]
      rw [e2, List.nodup_append] at hnd
      exact hnd.2.2 n hm n (by simp) rfl
    have htk : L0.take (j + 1) = L0.take j ++ [n] := by rw [List.take_add_one, hn]; rfl
    obtain ⟨A, c, g1, g2⟩ := h.got
    have hbc := h.cbs n hmem
    rw [if_neg hnt] at hbc
    have hh : (hs.map (Value.int .i64))[n]? = some (.int .i64 (hs.getD n 0)) := by
      rw [List.getElem?_map, List.getD_eq_getElem?_getD, List.getElem?_eq_getElem (by omega)]; rfl
    have htl : (L0.take j).length ≤ 8 := by rw [List.length_take]; omega
    have hbd := gotL_bound ids L0 (i := i) (a := 8) (L := L0.take j) (by omega) hL8 htl (by omega)
    have hbl := g1.lt
    have hcall := tellsC (β := β) gb (nb n) (cb n) hb A _ c _ n i Ah K hc _ (hs.getD n 0) ⟨ch.tb, ch.id, a, ch.an, ac, b, ch.bn, bc⟩ w g1 g2 (h.nbs n hnK) hbc h.how h.arr hh (by omega) (by omega) (by omega) (hd1 n n hnK hnK) h0g (h0c n hnK) (hA (by omega)) (by omega)
    show Calls _ _ (#[] ++ #[_] ++ #[ptr gb, ptr (nb (L0.getD j 0)), ptr (cb (L0.getD j 0)), ptr hb]) _ _
    rw [e]
    refine hcall.mono ?_
    rintro e w2 ⟨o, hok, he, hO, ⟨A', c', g1', g2'⟩, hcb, hq, hC⟩
    refine ⟨o, hok, he, ⟨?_, ?_⟩, hC⟩
    · rw [hn]; exact hO
    · have hgl : gotL ids L0 i (L0.take (j + 1)) = gotL ids L0 i (L0.take j) ++ [(n : Int), ch.id] := by rw [htk, gotL_more, hids i ch hch]
      refine ⟨⟨A', c', ?_, ?_⟩, fun m hm => hq _ _ (hd1 m n hm hnK) (h.nbs m hm), fun m hm => ?_, hC.blk h.how (by decide), h.arr.chg hC hA⟩
      · rw [hgl, List.length_append]; exact g1'
      · rw [hgl, List.length_append, List.map_append]; exact g2'
      · by_cases hmn : m = n
        · subst hmn
          rw [if_pos (by rw [htk]; simp)]
          have := hcb
          simpa using this
        · have hmt : (m ∈ L0.take (j + 1)) ↔ m ∈ L0.take j := by rw [htk]; simp [hmn]
          have hold := hq _ _ (fun hh => hmn (hd2 m n (hL m hm) hnK hh)) (h.cbs m hm)
          simp only [hmt]
          exact hold
  row := fun i w h => by
    have e : (obsOf gb hb nb cb L0).length = L0.length := by unfold obsOf; simp
    rw [e] at h
    exact h.next
  st := fun i j w w' h k => h.chg k (by decide) (by decide) (by decide) (by decide) hA
  rep := fun q o w w' h k => h.chg k (by decide)
  acc0 := rfl
  accj := fun i j => by
    show fst1 _ _ _ _ = _
    cases hn : L0[j]? with
    | some n =>
      have htk : L0.take (j + 1) = L0.take j ++ [n] := by rw [List.take_add_one, hn]; rfl
      rw [htk, fst1_more]
      rfl
    | none =>
      have hj := List.getElem?_eq_none_iff.1 hn
      rw [List.take_of_length_le (by omega), List.take_of_length_le hj]
      cases fst1 (fun n => hs.getD n 0) L0 i L0 <;> rfl
  acci := fun i => by
    have e : (obsOf gb hb nb cb L0).length = L0.length := by unfold obsOf; simp
    rw [e, List.take_length, List.take_zero]
    exact fst1_next _ _ _
end Go.Proofs.YtkngjgblfappoaaGreatDoor
