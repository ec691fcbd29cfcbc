/-
  rialtolaw23.ViewGoing: the plain law: what goes, and where a cursor stands then.
-/
import Derived.Test.YtkngjgblfappoaaGreatDoorLaw23A
namespace Go.Proofs.YtkngjgblfappoaaGreatDoor

theorem upTo_add (a b : Nat) : upTo (a + b) = upTo a ++ (upTo b).map (fun i => i + (a : Int)) := by
  unfold upTo
  rw [List.range_add, List.map_append, List.map_map, List.map_map]
  congr 1
  refine List.map_congr_left fun i _ => ?_
  simp
  omega
theorem upTo_nodup (k : Nat) : (upTo k).Nodup := by
  unfold upTo List.Nodup
  rw [List.pairwise_map]
  exact List.nodup_range.imp fun h => by omega

/-- The rows that are left. -/
def leftOf (K : Nat) (bs : List Bool) : List Int := (upTo K).filter fun a => bs.getD a.toNat false
theorem leftOf_nodup (K : Nat) (bs : List Bool) : (leftOf K bs).Nodup := (upTo_nodup K).filter _
theorem leftOf_mem {K : Nat} {bs : List Bool} {a : Int} : a ∈ leftOf K bs ↔ (1 ≤ a ∧ a ≤ K) ∧ bs.getD a.toNat false = true := by
  unfold leftOf; rw [List.mem_filter, upTo_mem]
theorem leftOf_erase {K : Nat} {bs : List Bool} {a : Nat} (ha : a < bs.length) : leftOf K (bs.set a false) = (leftOf K bs).erase (a : Int) := by
  rw [(leftOf_nodup K bs).erase_eq_filter]
  unfold leftOf
  rw [List.filter_filter]
  refine List.filter_congr fun b hb => ?_
  have hb := upTo_mem.1 hb
  by_cases h : b = a
  · subst h
    simp [List.getD_eq_getElem?_getD, ha]
  · have h' : a ≠ b.toNat := by omega
    simp [List.getD_eq_getElem?_getD, h, h']
/-- All rows are there. -/
theorem leftOf_all {K : Nat} {bs : List Bool} (h : ∀ j, 1 ≤ j → j ≤ K → bs.getD j false = true) : leftOf K bs = upTo K := by
  unfold leftOf
  rw [List.filter_eq_self]
  intro a ha
  have := upTo_mem.1 ha
  exact h _ (by omega) (by omega)

theorem filter_none {α : Type} {p : α → Bool} {l : List α} (h : ∀ a, a ∈ l → p a = false) : l.filter p = [] := by
  rw [List.filter_eq_nil_iff]
  intro a ha
  simp [h a ha]
/-- The row behind one: the first one behind it that is there. -/
theorem leftOf_next {K a d : Nat} {bs : List Bool} (ha : a + 1 ≤ K) (hb : bs.getD (a + 1) false = true) (hd : a + 1 + d ≤ K) (hno : ∀ j, a + 1 < j → j ≤ a + 1 + d → bs.getD j false = false)
    (hend : a + 1 + d = K ∨ bs.getD (a + 1 + d + 1) false = true) {v : Value} (h : besideV (leftOf K bs) ((a : Int) + 1) 1 v) :
    v = if a + 1 + d = K then .tuple #[.int .i64 0, .bool false] else .tuple #[.int .i64 ((a : Int) + 1 + d + 1), .bool true] := by
  obtain ⟨r, rfl⟩ : ∃ r, K = a + 1 + r := ⟨K - (a + 1), by omega⟩
  have e1 : leftOf (a + 1 + r) bs = ((upTo a).filter fun b => bs.getD b.toNat false) ++ ((a : Int) + 1) :: (((upTo r).map fun i => i + ((a + 1 : Nat) : Int)).filter fun b => bs.getD b.toNat false) := by
    unfold leftOf
    rw [upTo_add (a + 1) r, upTo_succ, List.filter_append, List.filter_append, List.append_assoc]
    congr 1
    have e : [(a : Int) + 1].filter (fun b => bs.getD b.toNat false) = [(a : Int) + 1] := by
      rw [List.filter_cons, if_pos (by rw [show ((a : Int) + 1).toNat = a + 1 from by omega]; exact hb)]
      rfl
    rw [e]
    rfl
  have hat := besideV.at_ (leftOf_nodup _ bs) (k := ((upTo a).filter fun b => bs.getD b.toNat false).length) (by rw [e1, List.getElem?_append_right (Nat.le_refl _)]; simp) h
  rw [e1] at hat
  obtain ⟨s, rfl⟩ : ∃ s, r = d + s := ⟨r - d, by omega⟩
  have e2 : ((upTo (d + s)).map fun i => i + ((a + 1 : Nat) : Int)).filter (fun b => bs.getD b.toNat false) = (((upTo s).map fun i => i + ((a + 1 + d : Nat) : Int)).filter fun b => bs.getD b.toNat false) := by
    rw [upTo_add d s, List.map_append, List.filter_append, filter_none (l := (upTo d).map _), List.nil_append, List.map_map]
    · congr 1
      refine List.map_congr_left fun i _ => ?_
      simp
      omega
    · intro b hb
      obtain ⟨i, hi, rfl⟩ := List.mem_map.1 hb
      have := upTo_mem.1 hi
      exact hno _ (by omega) (by omega)
  rw [e2] at hat
  rw [hat]
  generalize ((upTo a).filter fun b => bs.getD b.toNat false) = F1
  rcases s with _ | s
  · rw [if_pos (by omega)]
    unfold atV
    rw [if_neg]
    simp [upTo]
  · rw [if_neg (by omega)]
    have hb2 : bs.getD (a + 1 + d + 1) false = true := by
      rcases hend with h | h
      · omega
      · exact h
    have e3 : ((upTo (s + 1)).map fun i => i + ((a + 1 + d : Nat) : Int)).filter (fun b => bs.getD b.toNat false) = ((a : Int) + 1 + d + 1) :: (((upTo s).map fun i => i + 1 + ((a + 1 + d : Nat) : Int)).filter fun b => bs.getD b.toNat false) := by
      rw [show s + 1 = 1 + s from by omega, upTo_add 1 s, List.map_append, List.filter_append]
      have e : (List.map (fun i => i + ((a + 1 + d : Nat) : Int)) (upTo 1)).filter (fun b => bs.getD b.toNat false) = [(a : Int) + 1 + d + 1] := by
        have : List.map (fun i => i + ((a + 1 + d : Nat) : Int)) (upTo 1) = [(a : Int) + 1 + d + 1] := by
          simp [upTo]; omega
        rw [this, List.filter_cons, if_pos (by rw [show ((a : Int) + 1 + d + 1).toNat = a + 1 + d + 1 from by omega]; exact hb2)]
        rfl
      rw [e, List.map_map]
      rfl
    rw [e3]
    unfold atV
    rw [if_pos (by simp; omega)]
    congr 2
    have e4 : ((F1.length : Int) + 1).toNat = F1.length + 1 := by omega
    rw [e4]
    simp [List.getD_eq_getElem?_getD]

/-- Where the cursor stands: at a row that is left, or at the end. -/
def Pos (K : Nat) (bs : List Bool) (wh : Nat) (id : Int) (at_ : Bool) : Prop := (at_ = true ∧ id = wh ∧ 1 ≤ wh ∧ wh ≤ K ∧ bs.getD wh false = true) ∨ (at_ = false ∧ wh = K + 1)
theorem getD_set_ne {bs : List Bool} {a b : Nat} (h : a ≠ b) : (bs.set a false).getD b false = bs.getD b false := by
  simp [List.getD_eq_getElem?_getD, h]
theorem getD_set_self {bs : List Bool} {a : Nat} : (bs.set a false).getD a false = false := by
  by_cases h : a < bs.length
  · simp [List.getD_eq_getElem?_getD, h]
  · simp [List.getD_eq_getElem?_getD, List.getElem?_eq_none (show (bs.set a false).length ≤ a by simp; omega)]
theorem gone_pos {K : Nat} {bs : List Bool} {wh b wh2 : Nat} {id id2 : Int} {at_ ok : Bool} (hp : Pos K bs wh id at_) (hg : goneTo (leftOf K bs) id at_ (b : Int) id2 ok) (hb1 : 1 ≤ b) (hb2 : b ≤ K) (hb : bs.getD b false = true)
    (h1 : wh ≤ wh2) (h2 : wh2 ≤ K + 1) (hno : ∀ j, wh ≤ j → j < wh2 → (bs.set b false).getD j false = false) (hend : wh2 = K + 1 ∨ (bs.set b false).getD wh2 false = true) : Pos K (bs.set b false) wh2 id2 ok := by
  rcases hg with ⟨hn, rfl, rfl⟩ | ⟨rfl, rfl, hbe⟩
  · rcases hp with ⟨rfl, rfl, p1, p2, p3⟩ | ⟨rfl, rfl⟩
    · have hne : b ≠ wh := fun h => hn ⟨rfl, by rw [h]⟩
      have hw : (bs.set b false).getD wh false = true := by rw [getD_set_ne hne]; exact p3
      have e : wh2 = wh := by
        rcases Nat.lt_or_ge wh wh2 with h | h
        · rw [hno wh (Nat.le_refl _) h] at hw; cases hw
        · omega
      subst e
      exact .inl ⟨rfl, rfl, p1, p2, hw⟩
    · exact .inr ⟨rfl, by omega⟩
  · rcases hp with ⟨_, hwb, p1, p2, p3⟩ | ⟨h, _⟩
    · obtain rfl : wh = b := by omega
      have hgt : wh < wh2 := by
        rcases Nat.lt_or_ge wh wh2 with h | h
        · exact h
        · have e : wh2 = wh := by omega
          subst e
          rcases hend with h | h
          · omega
          · rw [getD_set_self] at h; cases h
      obtain ⟨a, rfl⟩ : ∃ a, wh = a + 1 := ⟨wh - 1, by omega⟩
      obtain ⟨d, rfl⟩ : ∃ d, wh2 = a + 1 + d + 1 := ⟨wh2 - (a + 1) - 1, by omega⟩
      have hv := leftOf_next (K := K) (a := a) (d := d) (bs := bs) hb2 hb (by omega) (fun j j1 j2 => by
        have := hno j (by omega) (by omega)
        rwa [getD_set_ne (by omega)] at this) (by
        rcases hend with h | h
        · left; omega
        · right; rwa [getD_set_ne (by omega)] at h) hbe
      split at hv
      · obtain ⟨_, e2⟩ := tup_inj hv
        exact .inr ⟨e2, by omega⟩
      · obtain ⟨e1, e2⟩ := tup_inj hv
        refine .inl ⟨e2, by rw [e1]; simp, by omega, by omega, ?_⟩
        rcases hend with h | h
        · omega
        · exact h
    · cases h
end Go.Proofs.YtkngjgblfappoaaGreatDoor
