/-
  rialtolaw23: known, seq.
-/
import Derived.Test.YtkngjgblfappoaaGreatDoorViewA
namespace Go.Proofs.YtkngjgblfappoaaGreatDoor
open Go.RowKit (Below intOf Hid)

theorem wf_small {a : Int} (h0 : -1000000 ≤ a) (h1 : a ≤ 1000000) : (Lit.int .i64 a).wf = true := WalkArith.wf_i64 (by omega)

theorem besideV.at_ {l : List Int} {a far : Int} {v : Value} {k : Nat} (hnd : l.Nodup) (hk : l[k]? = some a) (h : besideV l a far v) : v = atV l (k + far) := by
  rcases h with ⟨hno, _⟩ | ⟨k', hk', _, hv⟩
  · exact absurd (List.mem_of_getElem? hk) hno
  · have h1 := List.getElem?_eq_some_iff.1 hk
    have e : k = k' := (List.getElem?_inj h1.1 hnd).1 (hk.trans hk'.symm)
    rw [hv, e]
theorem tup_inj {a b : Int} {c d : Bool} (h : Value.tuple #[.int .i64 a, .bool c] = .tuple #[.int .i64 b, .bool d]) : a = b ∧ c = d := by
  simpa using h
theorem at12_0 : atV [1, 2] 0 = .tuple #[.int .i64 1, .bool true] := rfl
theorem at12_1 : atV [1, 2] 1 = .tuple #[.int .i64 2, .bool true] := rfl
theorem at12_2 : atV [1, 2] 2 = .tuple #[.int .i64 0, .bool false] := rfl

set_option maxRecDepth 100000 in
set_option maxHeartbeats 1600000 in
theorem known23 (w : World) : Calls Tryz.prog 18 #[] w fun e w' => e = .returned (.bool true) ∧ Keeps [] w w' := by
  go_enter Tryz.func18, Tryz.ntmps18
  go_wp2_with (first
    | (go_at_call 9
       refine (idxNewSeq (β := w.heap.size) _ w (Nat.le_refl _)).mono ?_
       rintro e w1 ⟨x, km, sx, t, m, rfl, q1, k1, hx⟩
       have s1 := k1.size)
    | (go_at_call 38
       refine (hubNew (β := w.heap.size) w1 s1).mono ?_
       rintro e w2 ⟨h, rfl, hh2, k2, hhl⟩
       have q2 := q1.same k2
       have s2 := k2.size)
    | (go_at_call 11
       refine (logNew (β := w.heap.size) w2 (by omega)).mono ?_
       rintro e w3 ⟨lg, rfl, l3, k3, hll⟩
       have q3 := q2.same k3
       have hh3 : HubAt w.heap.size w3 h [] := hh2.chg (Chg.of_keeps (S := []) (B := []) k3) (by simp) (by simp)
       have K3 : Keeps [] w w3 := (k1.trans_nil k2).trans_nil k3
       have n3 : ([] : List Int).length ≤ 100000 := by simp
       clear q1 q2)
    | (go_at_call 17
       refine (qInsert x km 0 sx t m 0 lg [] [] 1 w3 q3 l3 (wf_small (by omega) (by omega)) (by simp) (by simp) (by omega) (by omega) (by simp)).mono ?_
       rintro e w4 ⟨rfl, q4, ⟨v4, l4⟩, C4⟩
       have hh4 := hh3.chg C4 (by decide) (by decide)
       clear q3 l3 hh3)
    | (go_at_call 17
       refine (qInsert x km 1 sx t m 1 lg [v4] [1] 2 w4 q4 l4 (wf_small (by omega) (by omega)) (by simp) (by simp) (by omega) (by omega) (by simp)).mono ?_
       rintro e w5 ⟨rfl, q5, ⟨v5, l5⟩, C5⟩
       have hh5 := hh4.chg C5 (by decide) (by decide)
       have C35 := C4.trans C5
       have s35 := C35.size
       have sK3 := K3.size
       clear q4 l4 hh4)
    | (go_at_call 20
       refine (hubOpen h x [] [1, 2] w5 hh5 (q5.ids (by simp)) q5.defOk (by simp)).mono ?_
       rintro e w6 ⟨c, id, ok, rfl, hv, hc6, hh6, C6, hcl⟩
       obtain ⟨e1, e2⟩ := tup_inj (hv.symm.trans at12_0)
       subst e1 e2
       have q6 := q5.chg C6 (by simp) (by simp) (by decide)
       have hi6 : IdsOk x [1, 2] w6 := q6.ids (by simp)
       have s6 := C6.size
       clear hv hh5 q5 l5)
    | (go_at_call 24
       refine (curRow c x 1 true w6 hc6).mono ?_
       rintro e w7 ⟨rfl, h7⟩
       subst h7)
    | (go_at_call 22
       refine (hubGoing h c x 1 true [1, 2] 1 _ hh6 hc6 hi6 (by simp)).mono ?_
       rintro e w8 ⟨rfl, id', ok', hgo, hc8, k8⟩
       have hbe : id' = 2 ∧ ok' = true := by
         rcases hgo with ⟨hn, _⟩ | ⟨_, _, hb⟩
         · exact absurd ⟨rfl, rfl⟩ hn
         · exact tup_inj ((besideV.at_ (k := 0) (by decide) rfl hb).trans at12_1)
       obtain ⟨e3, e4⟩ := hbe
       subst e3 e4
       have C8 : Chg w.heap.size [146] [] w6 w8 := chg_cells hc6 k8 (by simp) (by omega)
       have q8 := q6.chg C8 (by simp) (by simp) (by decide)
       have hh8 := hh6.chg C8 (by decide) (by decide)
       clear hgo hc6 hi6 hh6)
    | (go_at_call 24
       refine (curRow c x 2 true w8 hc8).mono ?_
       rintro e w9 ⟨rfl, h9⟩
       subst h9)
    | (go_at_call 40
       refine (curNext c x 2 [1, 2] w8 hc8 (q8.ids (by simp)) (by simp)).mono ?_
       rintro e w10 ⟨id2, ok2, hb2, rfl, hc10, k10⟩
       obtain ⟨e5, e6⟩ := tup_inj ((besideV.at_ (k := 1) (by decide) rfl hb2).trans at12_2)
       subst e5 e6
       have C10 : Chg w.heap.size [146] [] w8 w10 := chg_cells hc8 k10 (by simp) (by omega)
       have hh10 := hh8.chg C10 (by decide) (by decide)
       clear hb2)
    | (go_at_call 64; refine (curDead c x 0 false false _ hc10).mono ?_; rintro e w11 ⟨rfl, h11⟩; subst h11)
    | (go_at_call 65; refine (hubLen h _ _ hh10).mono ?_; rintro e w12 ⟨rfl, h12⟩; subst h12))
  go_ret
  exact ⟨rfl, C10.keeps (C8.keeps (C6.keeps (C35.keeps K3 (Nat.le_refl _)) (Nat.le_refl _)) (Nat.le_refl _)) (Nat.le_refl _)⟩

/-- The numbers from 1 on. -/
def upTo (k : Nat) : List Int := (List.range k).map fun (i : Nat) => (i : Int) + 1
theorem upTo_succ (k : Nat) : upTo (k + 1) = upTo k ++ [(k : Int) + 1] := by unfold upTo; rw [List.range_succ]; simp
theorem upTo_mem {k : Nat} {a : Int} : a ∈ upTo k ↔ 1 ≤ a ∧ a ≤ k := by
  unfold upTo
  rw [List.mem_map]
  constructor
  · rintro ⟨i, hi, rfl⟩
    have := List.mem_range.1 hi
    omega
  · rintro ⟨h1, h2⟩
    exact ⟨(a - 1).toNat, List.mem_range.2 (by omega), by omega⟩
theorem upTo_len (k : Nat) : (upTo k).length = k := by simp [upTo]

/-- What seq answers. -/
def SeqP (k : Nat) (w : World) (e : Ending) (w' : World) : Prop :=
  ∃ x km sx t m h lg vs, e = .returned (.tuple #[ptr x, ptr h, ptr lg]) ∧ IdxQ w.heap.size w' x km k sx t m k (upTo k) ∧ HubAt w.heap.size w' h [] ∧ LogAt w.heap.size w' lg vs ∧ Hid (vs.length = k) ∧ Keeps [] w w'

set_option maxRecDepth 100000 in
set_option maxHeartbeats 1600000 in
theorem seq23 (n : Nat) (w : World) (hn : n ≤ 1000) : Calls Tryz.prog 19 #[.int .i64 n] w (SeqP n w) := by
  go_enter Tryz.func19, Tryz.ntmps19
  go_wp2_with (first
    | (go_at_call 9
       refine (idxNewSeq (β := w.heap.size) _ w (Nat.le_refl _)).mono ?_
       rintro e w1 ⟨x, km, sx, t, m, rfl, q1, k1, hx⟩
       have s1 := k1.size)
    | (go_at_call 11
       refine (logNew (β := w.heap.size) w1 (by omega)).mono ?_
       rintro e w3 ⟨lg, rfl, l3, k3, hll⟩
       have q3 := q1.same k3
       have K3 : Keeps [] w w3 := k1.trans_nil k3
       clear q1))
  go_loopw [7] (fun i wr => ∃ (k : Nat) (vs : List Value), k ≤ n ∧ i = .int .i64 ((k : Int) + 1) ∧ IdxQ w.heap.size wr x km k sx t m k (upTo k) ∧ LogAt w.heap.size wr lg vs ∧ Hid (vs.length = k) ∧ Keeps [] w wr) (fun i _ => n + 1 - (intOf i).toNat)
  case atStart => exact ⟨0, [], Nat.zero_le _, rfl, q3, l3, rfl, K3⟩
  case round =>
    obtain ⟨k, vs, hk, rfl, q, l, hv, K⟩ := hrel
    have k0 : (0 : Int) ≤ k := by omega
    by_cases hlt : k < n
    · have b1 : (k : Int) + 1 ≤ n := by omega
      have hno : ((k : Int) + 1) ∉ upTo k := fun h => by have := (upTo_mem.1 h).2; omega
      have hins := qInsert x km k sx t m k lg vs (upTo k) ((k : Int) + 1) wr q l (wf_small (by omega) (by omega)) hno (by rw [upTo_len]; omega) (by omega) (by omega) (by rw [hv.out]; omega)
      rw [← upTo_succ] at hins
      have Hno := Lib.hid hno
      clear hno
      go_wp2_with (go_at_call 17; refine hins.mono ?_; rintro e w4 ⟨rfl, q4, ⟨v4, l4⟩, C4⟩)
      go_roundw
      case rel => exact ⟨k + 1, vs ++ [v4], by omega, by go_num, q4, l4, by unfold Hid; rw [List.length_append, hv.out]; rfl, C4.keeps K (Nat.le_refl _)⟩
      case measure => simp [intOf]; omega
    · have b1 : ¬ (k : Int) + 1 ≤ n := by omega
      obtain rfl : k = n := by omega
      go_wp2_with (go_at_call 38
                   refine (hubNew (β := w.heap.size) _ K.size).mono ?_
                   rintro e w5 ⟨h, rfl, hh5, k5, hhl⟩)
      go_ret3
      exact ⟨x, km, sx, t, m, h, lg, vs, rfl, q.same k5, hh5, l.chg (Chg.of_keeps (S := []) (B := []) k5) (by simp) (by simp), hv, K.trans_nil k5⟩
end Go.Proofs.YtkngjgblfappoaaGreatDoor
