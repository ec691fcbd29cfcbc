/-
  rialtolaw23.ViewTells: what the arguments' reading gives of memory.
-/
import Derived.Test.YtkngjgblfappoaaGreatDoorTells5
import Derived.ChangeSlices
import Derived.Deep.Slices
import Derived.ProofKit
import Derived.OpenShut
namespace Go.Proofs.YtkngjgblfappoaaGreatDoor
open Go.ChangeShapes Go.WideShapes Go.RowKit Go.Deep

theorem plainAddr {W : World} {a : Addr} {v : Value} (h : W.cell? a = some v) : ∃ g off, a = ⟨g, off, none⟩ ∧ g < W.heap.size := by
  obtain ⟨g, off, sp⟩ := a
  refine ⟨g, off, ?_, World.block_lt_of_cell? W _ h⟩
  unfold World.cell? at h
  split at h
  · cases sp with
    | none => rfl
    | some s => simp at h
  · cases h
theorem addLit (g off m : Nat) : (⟨g, off, none⟩ : Addr).add m = ⟨g, off + m, none⟩ := by
  unfold Addr.add; split <;> simp_all
theorem rc_of {W : World} {g off n k : Nat} (hg : g < W.heap.size) (h : ∀ j, j < n * k → ∃ u, W.cell? ⟨g, off + j, none⟩ = some u ∧ u.oneCell' = true) : ∃ xs, Rc W k (some ⟨g, off, none⟩) n xs := by
  refine ⟨(List.range (n * k)).map fun j => (W.cell? ⟨g, off + j, none⟩).getD undef, by simp, ?_, fun _ => ⟨g, off, rfl, hg, ?_⟩⟩
  · intro u hu
    obtain ⟨j, hj, rfl⟩ := List.mem_map.1 hu
    obtain ⟨v, hv, h1⟩ := h j (List.mem_range.1 hj)
    rw [hv]; exact h1
  · intro j u hu
    rw [List.getElem?_map] at hu
    obtain ⟨j', hj', rfl⟩ := Option.map_eq_some_iff.1 hu
    have hjl : j < n * k := by
      have := (List.getElem?_eq_some_iff.1 hj').1
      simpa using this
    have e : j = j' := by
      rw [List.getElem?_range hjl] at hj'
      injection hj'
    subst e
    obtain ⟨v, hv, _⟩ := h j hjl
    rw [hv]; rfl

section
variable {H : Type} {enc : TypeId × Value → H} {W : World}
theorem trod_float {P : Program} {t : TypeId} {k : FloatKind} {base fuel : Nat} {spare : Nat → Bool} {held : Bool} {cs : List Value} {x : DataW H × List MemPlace} (ht : P.underlying t = some (.float k)) (h : DataW.trod enc P W base spare held fuel t cs = some x) : ∃ b, cs = [.float k b] := by
  cases fuel with
  | zero => simp [DataW.trod] at h
  | succ n =>
    unfold DataW.trod at h
    rw [ht] at h
    split at h <;> simp_all

theorem uVal : ∃ f0 f1 f2 f3 : Field, Tryz.prog.underlying 125 = some (.struct #[f0, f1, f2, f3]) ∧ (f0.offset = 0 ∧ f1.offset = 1 ∧ f2.offset = 2 ∧ f3.offset = 3) ∧ f0.type = 3 ∧ f1.type = 2 ∧ f2.type = 9 ∧ Tryz.prog.underlying f3.type = some (.float .f64) ∧ Tryz.prog.cellsOf f3.type = 1 := ⟨_, _, _, _, Tryz.underlying125, ⟨rfl, rfl, rfl, rfl⟩, rfl, rfl, rfl, by kernel_rfl, by kernel_rfl⟩
theorem uChange : ∃ f0 f1 f2 f3 : Field, Tryz.prog.underlying 71 = some (.struct #[f0, f1, f2, f3]) ∧ (f0.offset = 0 ∧ f1.offset = 1 ∧ f2.offset = 2 ∧ f3.offset = 3) ∧ f0.type = 9 ∧ f1.type = 2 ∧ f2.type = 41 ∧ f3.type = 41 := ⟨_, _, _, _, Tryz.underlying71, ⟨rfl, rfl, rfl, rfl⟩, rfl, rfl, rfl, rfl⟩
theorem cVal : Tryz.prog.cellsOf 125 = 4 := by kernel_rfl
theorem cChange : Tryz.prog.cellsOf 71 = 4 := by kernel_rfl
theorem cInt : Tryz.prog.cellsOf 3 = 1 := by kernel_rfl
theorem cI64 : Tryz.prog.cellsOf 2 = 1 := by kernel_rfl
theorem cStr : Tryz.prog.cellsOf 9 = 1 := by kernel_rfl
theorem cVals : Tryz.prog.cellsOf 41 = 1 := by kernel_rfl

/-- Four cells of a struct. -/
theorem four {cs : List Value} (h : cs.length = 4) : ∃ a b c d, cs = [a, b, c, d] := by
  match cs, h with
  | [a, b, c, d], _ => exact ⟨a, b, c, d, rfl⟩
/-- A value's four cells. -/
theorem openVal {fuel : Nat} {cs : List Value} {x : DataW H × List MemPlace} (hl : cs.length = 4) (h : DataW.trod enc Tryz.prog W 0 (fun _ => true) true fuel 125 cs = some x) :
    ∃ k i s f, cs = [.int .i64 k, .int .i64 i, .string s, .float .f64 f] ∧ s.size ≤ maxLen := by
  obtain ⟨f0, f1, f2, f3, hu, ⟨o0, o1, o2, o3⟩, t0, t1, t2, t3, c3⟩ := uVal
  obtain ⟨xs, n, rfl, _, _, hxl, hf⟩ := DataW.trod_struct hu h
  obtain ⟨a, b, c, d, rfl⟩ := four hl
  have hxl : xs.length = 4 := hxl
  have g0 := hf 0 f0 rfl
  have g1 := hf 1 f1 rfl
  have g2 := hf 2 f2 rfl
  have g3 := hf 3 f3 rfl
  rw [List.getElem?_eq_getElem (by omega)] at g0 g1 g2 g3
  simp only [o0, o1, o2, o3, t0, t1, t2, cInt, cI64, cStr, c3, List.drop_zero, List.drop_succ_cons, List.take_succ_cons, List.take_zero] at g0 g1 g2 g3
  obtain ⟨k, e0, _⟩ := DataW.trod_int Tryz.underlying3 g0
  obtain ⟨i, e1, _⟩ := DataW.trod_int Tryz.underlying2 g1
  obtain ⟨s, e2, _, hs⟩ := DataW.trod_string Tryz.underlying9 g2
  obtain ⟨f, e3⟩ := trod_float t3 g3
  injection e0 with e0; injection e1 with e1; injection e2 with e2; injection e3 with e3
  exact ⟨k, i, s, f, by rw [e0, e1, e2, e3], hs⟩

theorem cellsAt {g off n k i : Nat} {cs : List Value} (h : W.cells? 0 ((⟨g, off, none⟩ : Addr).add (i * k)) n = some cs) : cs.length = n ∧ ∀ j, j < n → W.cell? ⟨g, off + i * k + j, none⟩ = cs[j]? := by
  obtain ⟨_, hl, hc⟩ := World.cells?_some h
  refine ⟨hl, fun j hj => ?_⟩
  have := hc j hj
  rw [addLit, addLit] at this
  exact this
/-- A slice of values. -/
theorem openVals {fuel : Nat} {A : Option Addr} {n c : Nat} {x : DataW H × List MemPlace} (h : DataW.trod enc Tryz.prog W 0 (fun _ => true) true fuel 41 [.slice A n c] = some x) :
    (∃ sz, StrsAt W A n sz) ∧ n ≤ maxLen ∧ ∃ xs, Rc W 4 A n xs := by
  rcases open_slice Tryz.underlying41 h with ⟨h0, _⟩ | ⟨a, len, cap, m, N, D, Pl, h0, _, hlc, hcm, hm, _, hx⟩
  · injection h0 with h0; injection h0 with e1 e2 e3
    subst e1 e2
    exact ⟨⟨fun _ => 0, fun i hi => absurd hi (by omega)⟩, Nat.zero_le _, [], by simp, Cells1.nil, fun h => absurd h (by omega)⟩
  · injection h0 with h0; injection h0 with e1 e2 e3
    subst e1 e2 e3
    have hm : m = c := by simpa using hm
    rw [cVal] at hx
    refine ⟨?_, Nat.le_trans hlc hcm, ?_⟩
    all_goals
      rcases Nat.eq_zero_or_pos n with hn | hn
    · subst hn; exact ⟨fun _ => 0, fun i hi => absurd hi (by omega)⟩
    · obtain ⟨cs0, q0, r0⟩ := hx 0 (by omega)
      obtain ⟨k, i, s, f, rfl, _⟩ := openVal (World.cells?_some q0).2.1 r0
      have hc0 := (World.cells?_some q0).2.2 0 (by omega)
      obtain ⟨g, off, rfl, hg⟩ : ∃ g off, a = ⟨g, off, none⟩ ∧ g < W.heap.size := plainAddr (v := .int .i64 k) (by simpa [Addr.add] using hc0)
      have hall : ∀ i, ∃ z : Nat, i < n → ∃ s : ByteArray, W.cell? ⟨g, off + i * 4 + 2, none⟩ = some (.string s) ∧ s.size = z ∧ s.size ≤ maxLen := by
        intro i
        by_cases hi : i < n
        · obtain ⟨cs, q, r⟩ := hx i (by omega)
          obtain ⟨hl, hc⟩ := cellsAt q
          obtain ⟨k, i', s, f, rfl, hs⟩ := openVal hl r
          exact ⟨s.size, fun _ => ⟨s, hc 2 (by omega), rfl, hs⟩⟩
        · exact ⟨0, fun h => absurd h hi⟩
      refine ⟨fun i => Classical.choose (hall i), fun i hi => ?_⟩
      obtain ⟨s, h1, h2, h3⟩ := Classical.choose_spec (hall i) hi
      exact ⟨g, off, s, rfl, h1, h2, h3⟩
    · subst hn; exact ⟨[], by simp, Cells1.nil, fun h => absurd h (by omega)⟩
    · obtain ⟨cs0, q0, r0⟩ := hx 0 (by omega)
      obtain ⟨k, i, s, f, rfl, _⟩ := openVal (World.cells?_some q0).2.1 r0
      have hc0 := (World.cells?_some q0).2.2 0 (by omega)
      obtain ⟨g, off, rfl, hg⟩ : ∃ g off, a = ⟨g, off, none⟩ ∧ g < W.heap.size := plainAddr (v := .int .i64 k) (by simpa [Addr.add] using hc0)
      refine rc_of hg fun j hj => ?_
      obtain ⟨cs, q, r⟩ := hx (j / 4) (by omega)
      obtain ⟨hl, hc⟩ := cellsAt q
      obtain ⟨k, i', s, f, rfl, hs⟩ := openVal hl r
      have e : off + j = off + j / 4 * 4 + j % 4 := by omega
      rw [e, hc (j % 4) (Nat.mod_lt _ (by omega))]
      rcases (show j % 4 = 0 ∨ j % 4 = 1 ∨ j % 4 = 2 ∨ j % 4 = 3 by omega) with h | h | h | h <;> rw [h] <;> exact ⟨_, rfl, rfl⟩

/-- What is read of a change. -/
theorem openChange {fuel : Nat} {cs : List Value} {x : DataW H × List MemPlace} (hl : cs.length = 4) (h : DataW.trod enc Tryz.prog W 0 (fun _ => true) true fuel 71 cs = some x) :
    ∃ ch : Chv, cs = ch.cells.toList ∧ ChIn W ch := by
  obtain ⟨f0, f1, f2, f3, hu, ⟨o0, o1, o2, o3⟩, t0, t1, t2, t3⟩ := uChange
  obtain ⟨xs, n, rfl, _, _, hxl, hf⟩ := DataW.trod_struct hu h
  obtain ⟨a, b, c, d, rfl⟩ := four hl
  have hxl : xs.length = 4 := hxl
  have g0 := hf 0 f0 rfl
  have g1 := hf 1 f1 rfl
  have g2 := hf 2 f2 rfl
  have g3 := hf 3 f3 rfl
  rw [List.getElem?_eq_getElem (by omega)] at g0 g1 g2 g3
  simp only [o0, o1, o2, o3, t0, t1, t2, t3, cI64, cStr, cVals, List.drop_zero, List.drop_succ_cons, List.take_succ_cons, List.take_zero] at g0 g1 g2 g3
  obtain ⟨s, e0, _, hs⟩ := DataW.trod_string Tryz.underlying9 g0
  obtain ⟨i, e1, _⟩ := DataW.trod_int Tryz.underlying2 g1
  have hsl : ∀ {v : Value} {y : DataW H × List MemPlace}, DataW.trod enc Tryz.prog W 0 (fun _ => true) true n 41 [v] = some y → ∃ A m k, v = .slice A m k := by
    intro v y hy
    rcases DataW.trod_slice Tryz.underlying41 hy with ⟨h0, _⟩ | ⟨a, len, cap, _, _, _, _, h0, _⟩
    · injection h0 with h0; exact ⟨_, _, _, h0⟩
    · injection h0 with h0; exact ⟨_, _, _, h0⟩
  obtain ⟨A2, n2, c2, rfl⟩ := hsl g2
  obtain ⟨A3, n3, c3, rfl⟩ := hsl g3
  injection e0 with e0; injection e1 with e1
  obtain ⟨p1, p2, p3⟩ := openVals g2
  obtain ⟨q1, q2, q3⟩ := openVals g3
  unfold maxLen at p2 q2
  exact ⟨⟨s, i, A2, n2, c2, A3, n3, c3⟩, by rw [e0, e1]; rfl, ⟨p1, q1, by omega, by omega, hs, p3, q3⟩⟩

theorem openChanges {fuel : Nat} {A : Option Addr} {n c : Nat} {x : DataW H × List MemPlace} (h : DataW.trod enc Tryz.prog W 0 (fun _ => true) true fuel 67 [.slice A n c] = some x) :
    ∃ chs : List Chv, chs.length = n ∧ Rc W 4 A n (chCells chs) ∧ ∀ ch, ch ∈ chs → ChIn W ch := by
  rcases open_slice Tryz.underlying67 h with ⟨h0, _⟩ | ⟨a, len, cap, m, N, D, Pl, h0, _, hlc, hcm, hm, _, hx⟩
  · injection h0 with h0; injection h0 with e1 e2 e3
    subst e1 e2
    exact ⟨[], rfl, ⟨rfl, Cells1.nil, fun h => absurd h (by omega)⟩, by simp⟩
  · injection h0 with h0; injection h0 with e1 e2 e3
    subst e1 e2 e3
    have hm : m = c := by simpa using hm
    rw [cChange] at hx
    rcases Nat.eq_zero_or_pos n with hn | hn
    · subst hn; exact ⟨[], rfl, ⟨rfl, Cells1.nil, fun h => absurd h (by omega)⟩, by simp⟩
    · obtain ⟨cs0, q0, r0⟩ := hx 0 (by omega)
      obtain ⟨ch0, rfl, _⟩ := openChange (World.cells?_some q0).2.1 r0
      have hc0 := (World.cells?_some q0).2.2 0 (by omega)
      obtain ⟨g, off, rfl, hg⟩ : ∃ g off, a = ⟨g, off, none⟩ ∧ g < W.heap.size := plainAddr (v := .string ch0.tb) (by simpa [Addr.add, Chv.cells] using hc0)
      have hall : ∀ i, ∃ ch : Chv, i < n → (∀ j, j < 4 → W.cell? ⟨g, off + i * 4 + j, none⟩ = ch.cells.toList[j]?) ∧ ChIn W ch := by
        intro i
        by_cases hi : i < n
        · obtain ⟨cs, q, r⟩ := hx i (by omega)
          obtain ⟨hl, hc⟩ := cellsAt q
          obtain ⟨ch, rfl, hin⟩ := openChange hl r
          exact ⟨ch, fun _ => ⟨hc, hin⟩⟩
        · exact ⟨⟨⟨#[]⟩, 0, none, 0, 0, none, 0, 0⟩, fun h => absurd h hi⟩
      obtain ⟨f, hf⟩ : ∃ f : Nat → Chv, ∀ i, i < n → (∀ j, j < 4 → W.cell? ⟨g, off + i * 4 + j, none⟩ = (f i).cells.toList[j]?) ∧ ChIn W (f i) :=
        ⟨fun i => Classical.choose (hall i), fun i hi => Classical.choose_spec (hall i) hi⟩
      have hlen : ((List.range n).map f).length = n := by simp
      refine ⟨(List.range n).map f, hlen, ⟨by rw [chCells_len, hlen], ?_, fun _ => ⟨g, off, rfl, hg, ?_⟩⟩, ?_⟩
      · intro u hu
        unfold chCells at hu
        obtain ⟨ch, _, hu⟩ := List.mem_flatMap.1 hu
        simp [Chv.cells] at hu
        rcases hu with rfl | rfl | rfl | rfl <;> rfl
      · intro j u hu
        have hj : j < n * 4 := by
          have := (List.getElem?_eq_some_iff.1 hu).1
          rwa [chCells_len, hlen] at this
        have hi : j / 4 < n := by omega
        have hat : ((List.range n).map f)[j / 4]? = some (f (j / 4)) := by
          rw [List.getElem?_map, List.getElem?_range hi]; rfl
        obtain ⟨a0, a1, a2, a3⟩ := chCells_at hat
        have e : off + j = off + j / 4 * 4 + j % 4 := by omega
        have e' : j = j / 4 * 4 + j % 4 := by omega
        rw [e, (hf _ hi).1 (j % 4) (Nat.mod_lt _ (by omega))]
        rw [e'] at hu
        rcases (show j % 4 = 0 ∨ j % 4 = 1 ∨ j % 4 = 2 ∨ j % 4 = 3 by omega) with h | h | h | h <;> rw [h] at hu ⊢
        · exact a0.symm.trans hu
        · exact a1.symm.trans hu
        · exact a2.symm.trans hu
        · exact a3.symm.trans hu
      · intro ch hch
        obtain ⟨i, hi, rfl⟩ := List.mem_map.1 hch
        exact (hf i (List.mem_range.1 hi)).2

theorem openInts {t e : TypeId} {k : IntKind} {fuel : Nat} {A : Option Addr} {n c : Nat} {x : DataW H × List MemPlace} (ht : Tryz.prog.underlying t = some (.slice e)) (he : Tryz.prog.underlying e = some (.int k)) (hc : Tryz.prog.cellsOf e = 1)
    (h : DataW.trod enc Tryz.prog W 0 (fun _ => true) true fuel t [.slice A n c] = some x) :
    ∃ zs : List Int, zs.length = n ∧ Rc W 1 A n (zs.map (Value.int k)) ∧ ∀ z, z ∈ zs → (Lit.int k z).wf = true := by
  rcases open_ints ht he hc h with ⟨h0, _⟩ | ⟨a, len, cap, zs, h0, _, hlc, _, hzl, _, hcell, hzw⟩
  · injection h0 with h0; injection h0 with e1 e2 e3
    subst e1 e2
    exact ⟨[], rfl, ⟨rfl, Cells1.nil, fun h => absurd h (by omega)⟩, by simp⟩
  · injection h0 with h0; injection h0 with e1 e2 e3
    subst e1 e2 e3
    have hzl : zs.length = c := by simpa using hzl
    refine ⟨zs.take n, by simp; omega, ?_, fun z hz => hzw z (List.mem_of_mem_take hz)⟩
    refine ⟨by simp; omega, Cells1.ints _ _, fun hn => ?_⟩
    have hc0 := hcell 0 (by omega)
    obtain ⟨g, off, rfl, hg⟩ := plainAddr (W := W) (a := a) (by simpa [Addr.add] using hc0)
    refine ⟨g, off, rfl, hg, fun j u hu => ?_⟩
    rw [List.getElem?_map] at hu
    obtain ⟨z, hz, rfl⟩ := Option.map_eq_some_iff.1 hu
    rw [List.getElem?_take] at hz
    split at hz
    · have hjl : j < zs.length := by omega
      have := hcell j hjl
      rw [addLit, List.getD_eq_getElem?_getD, hz] at this
      exact this
    · cases hz
end
end Go.Proofs.YtkngjgblfappoaaGreatDoor
