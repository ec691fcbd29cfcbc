/-
  Memory words, the second part: copy, clear, append of zeros that grows, over blocks known whole. No program is named here.
-/
import Derived.Test.YtkngjgblfappoaaGreatDoorMem
import Derived.Lib.AppendZeros
import Derived.Lib.AppendZerosOnto
import Derived.Lib.Overlaps
import Derived.Lib.SliceRun
namespace Go.Proofs.YtkngjgblfappoaaGreatDoor
open Go.RowKit (Below intOf Hid)

section own
variable {w : World} {base n k : Nat} {e : TypeId} {v : Value} {xs : List Value}
theorem own_blk (h : w.ownsRow base e k v n xs) (hn : 0 < n) : ∃ g cap cur, v = .slice (some ⟨g, 0, none⟩) n cap ∧ base ≤ g ∧ Blk w g e (List.toArray cur) ∧ n ≤ cap ∧ cap ≤ maxLen ∧ cur.length = cap * k ∧ cur.take (n * k) = xs := by
  rcases h.2 with ⟨_, rfl⟩ | ⟨g, cap, cur, rfl, hb, hg, h1, h2, h3, h4⟩
  · omega
  · exact ⟨g, cap, cur.toList, rfl, hb, by simpa [Blk] using hg, h1, h2, by simpa using h3, h4⟩
theorem own_of_blk {g cap : Nat} {cur : List Value} (hb : base ≤ g) (hg : Blk w g e (List.toArray cur)) (h1 : n ≤ cap) (h2 : cap ≤ maxLen) (h3 : cur.length = cap * k) (h4 : cur.take (n * k) = xs) :
    w.ownsRow base e k (.slice (some ⟨g, 0, none⟩) n cap) n xs := by
  have hle : n * k ≤ cap * k := Nat.mul_le_mul_right k h1
  refine ⟨by rw [← h4, List.length_take]; omega, .inr ⟨g, cap, cur.toArray, rfl, hb, hg, h1, h2, by simpa using h3, by simpa using h4⟩⟩
end own

/-- The block that a slice value lies in. -/
def obs (v : Value) : List Nat := v.ownBlock.toList
theorem obs_some (g off : Nat) (n c : Nat) : obs (.slice (some ⟨g, off, none⟩) n c) = [g] := rfl
theorem obs_none (n c : Nat) : obs (.slice none n c) = [] := rfl
theorem own_base {w : World} {base n k : Nat} {e : TypeId} {v : Value} {xs : List Value} (h : w.ownsRow base e k v n xs) {b : Nat} (hb : b ∈ obs v) : base ≤ b ∧ b < w.heap.size :=
  h.lt b (by simpa [obs] using hb)
theorem own_noTag {w : World} {base n k : Nat} {e : TypeId} {v : Value} {xs : List Value} (h : w.ownsRow base e k v n xs) {S : List TypeId} (hS : e ∉ S) {b : Nat} (hb : b ∈ obs v) : NoTag w b S := by
  rcases h.2 with ⟨rfl, _⟩ | ⟨g, cap, cur, rfl, _, hg, _⟩
  · simp [obs, Value.ownBlock] at hb
  · simp [obs, Value.ownBlock] at hb
    subst hb
    exact Blk.noTag hg hS
theorem keeps_grown {w w' : World} {v : Value} (h : w.grownBy w' v.ownBlock) : Keeps (obs v) w w' :=
  (Keeps.refl _ w).grown h (fun b hb => .inl (by simp [obs, hb]))

section splice
variable {α : Type}
theorem splice_nil (L : List α) (off : Nat) : splice L off [] = L := by simp [splice]
theorem splice_take (L cs : List α) (off T : Nat) (h : off + cs.length ≤ T) (hT : T ≤ L.length) : (splice L off cs).take T = splice (L.take T) off cs := by
  unfold splice
  rw [List.take_append, List.take_append, List.take_take, List.length_take, Nat.min_eq_left (by omega : off ≤ L.length), Nat.min_eq_right (by omega : off ≤ T)]
  rw [List.take_of_length_le (by omega : cs.length ≤ T - off), List.take_take, Nat.min_eq_left (by omega : off ≤ T), List.drop_take, Nat.sub_sub]
theorem splice_split (A B C : List α) (cs : List α) (h : cs.length = B.length) : splice (A ++ B ++ C) A.length cs = A ++ cs ++ C := by
  unfold splice
  rw [List.append_assoc, List.take_left, ← List.drop_drop, List.drop_left, h, List.drop_left, List.append_assoc]
theorem splice_drop (L cs : List α) (off p : Nat) (h : off + cs.length ≤ p) (hL : off + cs.length ≤ L.length) : (splice L off cs).drop p = L.drop p := by
  unfold splice
  have h1 : (L.take off).length = off := by rw [List.length_take]; omega
  rw [List.drop_append, h1, List.drop_eq_nil_of_le (by omega), List.nil_append, List.drop_append, List.drop_eq_nil_of_le (by omega), List.nil_append, List.drop_drop]
  congr 1
  omega
theorem splice_app (A R : List α) (cs : List α) (o : Nat) (ho : o = A.length) : splice (A ++ R) o cs = A ++ (cs ++ R.drop cs.length) := by
  subst ho
  unfold splice
  rw [List.take_left, ← List.drop_drop, List.drop_left]
theorem splice_ins (L A Y Z : List α) (o1 o2 T : Nat) (h1 : o1 = A.length) (h2 : o2 = A.length + Y.length) (hT : T = A.length + Y.length + Z.length) (hA : L.take o1 = A) :
    (splice (splice L o1 Y) o2 Z).take T = A ++ Y ++ Z := by
  have e : L = A ++ L.drop o1 := by conv => lhs; rw [← List.take_append_drop o1 L, hA]
  rw [e, splice_app A _ Y o1 h1, ← List.append_assoc, splice_app (A ++ Y) _ Z o2 (by simp [h2]), ← List.append_assoc, hT]
  have e2 : A.length + Y.length + Z.length = (A ++ Y ++ Z).length := by simp; omega
  rw [e2, List.take_left]
theorem splice_take_le (L cs : List α) (off T : Nat) (h : T ≤ off) (ho : off ≤ L.length) : (splice L off cs).take T = L.take T := by
  unfold splice
  rw [List.take_append_of_le_length (by rw [List.length_take]; omega), List.take_take, Nat.min_eq_left h]
theorem splice_take_end (L A Y : List α) (o T : Nat) (h1 : o = A.length) (hT : T = A.length + Y.length) (hA : L.take o = A) : (splice L o Y).take T = A ++ Y := by
  have e : L = A ++ L.drop o := by conv => lhs; rw [← List.take_append_drop o L, hA]
  rw [e, splice_app A _ Y o h1, ← List.append_assoc, hT, show A.length + Y.length = (A ++ Y).length from by simp, List.take_left]
/-- The other way round: what stands behind first. -/
theorem splice_ins2 (L A Y Z W : List α) (o1 o2 T : Nat) (h1 : o1 = A.length) (h2 : o2 = A.length + Y.length) (hT : T = A.length + Y.length + Z.length) (hA : L.take o2 = A ++ W) (hW : W.length = Y.length) :
    (splice (splice L o2 Z) o1 Y).take T = A ++ Y ++ Z := by
  have e : L = (A ++ W) ++ L.drop o2 := by conv => lhs; rw [← List.take_append_drop o2 L, hA]
  rw [e, splice_app (A ++ W) _ Z o2 (by simp [h2, hW]), List.append_assoc, splice_app A _ Y o1 h1, ← hW, List.drop_left, hT, ← List.append_assoc, ← List.append_assoc]
  have e2 : A.length + Y.length + Z.length = (A ++ Y ++ Z).length := by simp; omega
  rw [e2, List.take_left]
end splice

section room
variable {P : Program} (w : World)
/-- append where there is room: in place. -/
theorem run_append_room_rd (t ty e : TypeId) (i : TypeInfo) (k : Nat) (ht : P.underlying t = some (.slice e)) (hi : P.info? e = some i) (hk : i.size = k)
    (g n cap : Nat) (cur : List Value) (hg : Blk w g e cur.toArray) (A : Addr) (m c : Nat) (ys : List Value) (hr : Rd w e k (some A) m ys) (hroom : n + m ≤ cap) (hfit : n * k + m * k ≤ cur.length) :
    ∃ w', (Builtin.append_ #[t, t] ty #[.slice (some ⟨g, 0, none⟩) n cap, .slice (some A) m c]).run P w = .ok (.slice (some ⟨g, 0, none⟩) (n + m) cap) w' ∧ Blk w' g e (splice cur (n * k) ys).toArray ∧ Keeps [g] w w' := by
  subst hk
  have hcells : ∀ j u, ys[j]? = some u → w.cell? (A.add j) = some u := by
    intro j u hu
    obtain ⟨g, off, he, _, hc⟩ := hr.cellAt hu
    injection he with he
    subst he
    rw [add_lit]; exact hc
  refine ⟨_, run_append_room w t ty e i ht hi g n cap cur.toArray hg A m c ys hr.1 hcells hr.2.1 hroom (by rw [hr.1]; simpa using hfit), ?_, ?_⟩
  · unfold Blk
    rw [setRow_heap w g _ _ e _ hg]
    simp [splice]
  · exact ⟨rfl, rfl, rfl, by simp, fun b _ hb => setRow_other w g b _ (by simpa using hb)⟩
theorem step_append_room_rd {ops : Array Oper} {o : Oper} {a : Act} {K : Act → World → Prop} {Q : Exit → Act → World → Prop} {X : Prop} (hgd : o.guard = none) (s x : Operand) (t : TypeId)
    (ho : o.op = .call { callee := .builtin .append, args := #[s, x], argTypes := #[t, t] }) (e : TypeId) (i : TypeInfo) (k : Nat) (ht : P.underlying t = some (.slice e)) (hi : P.info? e = some i) (hk : i.size = k)
    (g n cap : Nat) (hs : a.eval s = .slice (some ⟨g, 0, none⟩) n cap) (cur : List Value) (hg : Blk w g e cur.toArray) (A : Addr) (m c : Nat) (hx : a.eval x = .slice (some A) m c) (ys : List Value) (hr : Rd w e k (some A) m ys)
    (hroom : n + m ≤ cap) (hfit : n * k + m * k ≤ cur.length) (T : Nat) (hT : n + m = T)
    (h : ∀ w', Blk w' g e (splice cur (n * k) ys).toArray → Keeps [g] w w' → K (a.put o.dst (.slice (some ⟨g, 0, none⟩) T cap)) w') :
    if Region.wanted o (yielded ops a.tmps) = true then Oper.wp P o a w K Q else X := by
  subst hT
  have hw : Region.wanted o (yielded ops a.tmps) = true := by simp [Region.wanted, hgd]
  rw [if_pos hw]
  obtain ⟨w', hrun, h1, h2⟩ := run_append_room_rd (P := P) w t o.type e i k ht hi hk g n cap cur hg A m c ys hr hroom hfit
  unfold Oper.wp execOp
  simp only [ho, resolve, invoke, builtin, Sem.run_bind, Sem.run_pure, Result.andThen_ok, List.map_toArray, List.map_cons, List.map_nil, hs, hx, hrun]
  exact h w' h1 h2
theorem wpList_append_room_rd {ops : Array Oper} {rest : List Oper} {o : Oper} {a : Act} {Q : Exit → Act → World → Prop} (hgd : o.guard = none) (s x : Operand) (t : TypeId)
    (ho : o.op = .call { callee := .builtin .append, args := #[s, x], argTypes := #[t, t] }) (e : TypeId) (i : TypeInfo) (k : Nat) (ht : P.underlying t = some (.slice e)) (hi : P.info? e = some i) (hk : i.size = k)
    (g n cap : Nat) (hs : a.eval s = .slice (some ⟨g, 0, none⟩) n cap) (cur : List Value) (hg : Blk w g e cur.toArray) (A : Addr) (m c : Nat) (hx : a.eval x = .slice (some A) m c) (ys : List Value) (hr : Rd w e k (some A) m ys)
    (hroom : n + m ≤ cap) (hfit : n * k + m * k ≤ cur.length) (T : Nat) (hT : n + m = T)
    (h : ∀ w', Blk w' g e (splice cur (n * k) ys).toArray → Keeps [g] w w' → wpList P ops Q rest (a.put o.dst (.slice (some ⟨g, 0, none⟩) T cap)) w') : wpList P ops Q (o :: rest) a w := by
  subst hT
  refine wpList_plain hgd fun K hK => ?_
  obtain ⟨w', hrun, h1, h2⟩ := run_append_room_rd (P := P) w t o.type e i k ht hi hk g n cap cur hg A m c ys hr hroom hfit
  unfold Oper.wp execOp
  simp only [ho, resolve, invoke, builtin, Sem.run_bind, Sem.run_pure, Result.andThen_ok, List.map_toArray, List.map_cons, List.map_nil, hs, hx, hrun]
  exact hK _ _ (h w' h1 h2)
end room

section copy
variable {P : Program} (w : World)
theorem run_copy_rd (dT sT ty elem : TypeId) (i : TypeInfo) (k : Nat) (hu : P.underlying dT = some (.slice elem)) (hi : P.info? elem = some i) (hk : i.size = k)
    (D A : Option Addr) (dn dc n c : Nat) (e : TypeId) (m : Nat) (hm : Nat.min n dn = m) (cs : List Value) (hr : Rd w e k A m cs) (g off : Nat) (cur : List Value) (E : TypeId) (hg : Blk w g E cur.toArray)
    (hD : 0 < m → D = some ⟨g, off, none⟩) (hfit : off + m * k ≤ cur.length) :
    ∃ w', (Builtin.copy_ #[dT, sT] ty #[.slice D dn dc, .slice A n c]).run P w = .ok (goInt m) w' ∧ Blk w' g E (splice cur off cs).toArray ∧ Keeps [g] w w' := by
  subst hk
  by_cases h0 : m = 0
  · subst h0
    have hcs : cs = [] := List.eq_nil_of_length_eq_zero (by simpa using hr.1)
    subst hcs
    refine ⟨w, ?_, by simpa [splice_nil] using hg, Keeps.refl _ _⟩
    have hl : ∀ (x : Addr), (loadCells x 0).run P w = .ok #[] w := fun x => by simpa using run_loadCells_list (P := P) w x [] (by simp)
    cases D <;> cases A <;> simp [Builtin.copy_, run_underlying hu, Builtin.lenOf, Builtin.firstCells, sizeOf, typeInfo, hi, hm, storeCells, hl]
  · obtain rfl := hD (by omega)
    obtain ⟨ag, aoff, rfl, _, hc⟩ := hr.addr (by omega)
    have hf := run_firstCells_some (P := P) w i.size m ⟨ag, aoff, none⟩ n c cs hr.1 (fun j v hj => by rw [add_lit]; exact hc j v hj)
    have hst := run_storeCells_at P g off E cs 0 cur.toArray w hg (by rw [hr.1]; simpa using hfit) hr.2.1
    refine ⟨w.setRow g (cur.take off ++ (cs ++ cur.drop (off + cs.length))).toArray, ?_, ?_, ?_⟩
    · simp only [Nat.add_zero] at hst
      simp [Builtin.copy_, run_underlying hu, Builtin.lenOf, sizeOf, typeInfo, hi, hm, hf, hst]
    · exact setRow_heap w g _ _ E _ hg
    · exact ⟨rfl, rfl, rfl, by simp, fun b _ hb => setRow_other w g b _ (by simpa using hb)⟩
theorem wp_copy_rd {o : Oper} {a : Act} {K : Act → World → Prop} {Q : Exit → Act → World → Prop} (d s : Operand) (dT sT : TypeId)
    (ho : o.op = .call { callee := .builtin .copy, args := #[d, s], argTypes := #[dT, sT] }) (elem : TypeId) (i : TypeInfo) (k : Nat) (hu : P.underlying dT = some (.slice elem)) (hi : P.info? elem = some i) (hk : i.size = k)
    (D A : Option Addr) (dn dc n c : Nat) (hd : a.eval d = .slice D dn dc) (hs : a.eval s = .slice A n c) (e : TypeId) (m : Nat) (hm : Nat.min n dn = m) (cs : List Value) (hr : Rd w e k A m cs) (g off : Nat) (cur : List Value) (E : TypeId) (hg : Blk w g E cur.toArray)
    (hD : 0 < m → D = some ⟨g, off, none⟩) (hfit : off + m * k ≤ cur.length)
    (h : ∀ w', Blk w' g E (splice cur off cs).toArray → Keeps [g] w w' → K (a.put o.dst (goInt m)) w') : o.wp P a w K Q := by
  obtain ⟨w', hrun, h1, h2⟩ := run_copy_rd (P := P) w dT sT o.type elem i k hu hi hk D A dn dc n c e m hm cs hr g off cur E hg hD hfit
  unfold Oper.wp execOp
  simp only [ho, resolve, invoke, builtin, Sem.run_bind, Sem.run_pure, Result.andThen_ok, List.map_toArray, List.map_cons, List.map_nil, hs, hd, hrun]
  exact h w' h1 h2
theorem wpList_copy_rd {ops : Array Oper} {rest : List Oper} {o : Oper} {a : Act} {Q : Exit → Act → World → Prop} (hgd : o.guard = none) (d s : Operand) (dT sT : TypeId)
    (ho : o.op = .call { callee := .builtin .copy, args := #[d, s], argTypes := #[dT, sT] }) (elem : TypeId) (i : TypeInfo) (k : Nat) (hu : P.underlying dT = some (.slice elem)) (hi : P.info? elem = some i) (hk : i.size = k)
    (D A : Option Addr) (dn dc n c : Nat) (hd : a.eval d = .slice D dn dc) (hs : a.eval s = .slice A n c) (e : TypeId) (m : Nat) (hm : Nat.min n dn = m) (cs : List Value) (hr : Rd w e k A m cs) (g off : Nat) (cur : List Value) (E : TypeId) (hg : Blk w g E cur.toArray)
    (hD : 0 < m → D = some ⟨g, off, none⟩) (hfit : off + m * k ≤ cur.length)
    (h : ∀ w', Blk w' g E (splice cur off cs).toArray → Keeps [g] w w' → wpList P ops Q rest (a.put o.dst (goInt m)) w') : wpList P ops Q (o :: rest) a w :=
  wpList_plain hgd fun _ hK => wp_copy_rd w d s dT sT ho elem i k hu hi hk D A dn dc n c hd hs e m hm cs hr g off cur E hg hD hfit fun w' h1 h2 => hK _ _ (h w' h1 h2)
theorem step_copy_rd {ops : Array Oper} {o : Oper} {a : Act} {K : Act → World → Prop} {Q : Exit → Act → World → Prop} {X : Prop} (hgd : o.guard = none) (d s : Operand) (dT sT : TypeId)
    (ho : o.op = .call { callee := .builtin .copy, args := #[d, s], argTypes := #[dT, sT] }) (elem : TypeId) (i : TypeInfo) (k : Nat) (hu : P.underlying dT = some (.slice elem)) (hi : P.info? elem = some i) (hk : i.size = k)
    (D A : Option Addr) (dn dc n c : Nat) (hd : a.eval d = .slice D dn dc) (hs : a.eval s = .slice A n c) (e : TypeId) (m : Nat) (hm : Nat.min n dn = m) (cs : List Value) (hr : Rd w e k A m cs) (g off : Nat) (cur : List Value) (E : TypeId) (hg : Blk w g E cur.toArray)
    (hD : 0 < m → D = some ⟨g, off, none⟩) (hfit : off + m * k ≤ cur.length)
    (h : ∀ w', Blk w' g E (splice cur off cs).toArray → Keeps [g] w w' → K (a.put o.dst (goInt m)) w') :
    if Region.wanted o (yielded ops a.tmps) = true then Oper.wp P o a w K Q else X := by
  have hw : Region.wanted o (yielded ops a.tmps) = true := by simp [Region.wanted, hgd]
  rw [if_pos hw]
  exact wp_copy_rd w d s dT sT ho elem i k hu hi hk D A dn dc n c hd hs e m hm cs hr g off cur E hg hD hfit h

/-- clear of a piece of a block. -/
theorem run_clear_blk (t e ty : TypeId) (z : Value) (k : Nat) (ht : P.underlying t = some (.slice e)) (hv : ∀ w, (zeroValue e).run P w = .ok z w) (hzk : z.cells.size = k) (h1 : ∀ u ∈ z.cells.toList, u.oneCell' = true) (hk : 0 < k)
    (D : Option Addr) (n c : Nat) (g off : Nat) (cur : List Value) (E : TypeId) (hg : Blk w g E cur.toArray) (hD : 0 < n → D = some ⟨g, off, none⟩) (hfit : off + n * k ≤ cur.length) :
    ∃ w' zs, (Builtin.clear_ #[t] ty #[.slice D n c]).run P w = .ok (.tuple #[]) w' ∧ zs.length = n * k ∧ Blk w' g E (splice cur off zs).toArray ∧ Keeps [g] w w' := by
  by_cases h0 : n = 0
  · subst h0
    refine ⟨w, [], ?_, by simp, by simpa [splice_nil] using hg, Keeps.refl _ _⟩
    cases D <;> simp [Builtin.clear_, run_underlying ht]
  · obtain rfl := hD (by omega)
    have hl : (Builtin.zeroCells z.cells n).toList.length = n * k := by rw [Array.length_toList, size_zeroCells, hzk]
    have hmem : ∀ u ∈ (Builtin.zeroCells z.cells n).toList, u.oneCell' = true := by
      intro u hu
      simp only [Builtin.zeroCells, Array.toList_map, List.mem_map] at hu
      obtain ⟨q, _, rfl⟩ := hu
      have hlt : q % z.cells.size < z.cells.size := Nat.mod_lt _ (by omega)
      rw [getElem!_pos z.cells _ hlt]
      exact h1 _ (by simp)
    have hst := run_storeCells_at P g off E (Builtin.zeroCells z.cells n).toList 0 cur.toArray w hg (by rw [hl]; simpa using hfit) hmem
    refine ⟨w.setRow g (cur.take off ++ ((Builtin.zeroCells z.cells n).toList ++ cur.drop (off + (Builtin.zeroCells z.cells n).toList.length))).toArray, (Builtin.zeroCells z.cells n).toList, ?_, hl, ?_, ?_⟩
    · simp only [Nat.add_zero] at hst
      obtain ⟨m, rfl⟩ : ∃ m, n = m + 1 := ⟨n - 1, by omega⟩
      simp [Builtin.clear_, run_underlying ht, hv, hst]
    · exact setRow_heap w g _ _ E _ hg
    · exact ⟨rfl, rfl, rfl, by simp, fun b _ hb => setRow_other w g b _ (by simpa using hb)⟩
theorem wpList_clear_blk {ops : Array Oper} {rest : List Oper} {o : Oper} {a : Act} {Q : Exit → Act → World → Prop} (hgd : o.guard = none) (s : Operand) (t : TypeId)
    (ho : o.op = .call { callee := .builtin .clear, args := #[s], argTypes := #[t] }) (e : TypeId)
    (z : Value) (k : Nat) (ht : P.underlying t = some (.slice e)) (hv : ∀ w, (zeroValue e).run P w = .ok z w) (hzk : z.cells.size = k) (h1 : ∀ u ∈ z.cells.toList, u.oneCell' = true) (hk : 0 < k)
    (D : Option Addr) (n c : Nat) (hs : a.eval s = .slice D n c) (g off : Nat) (cur : List Value) (E : TypeId) (hg : Blk w g E cur.toArray) (hD : 0 < n → D = some ⟨g, off, none⟩) (hfit : off + n * k ≤ cur.length)
    (h : ∀ w' zs, zs.length = n * k → Blk w' g E (splice cur off zs).toArray → Keeps [g] w w' → wpList P ops Q rest (a.put o.dst (.tuple #[])) w') : wpList P ops Q (o :: rest) a w := by
  refine wpList_plain hgd fun K hK => ?_
  obtain ⟨w', zs, hrun, hz, h2, h3⟩ := run_clear_blk (P := P) w t e o.type z k ht hv hzk h1 hk D n c g off cur E hg hD hfit
  unfold Oper.wp execOp
  simp only [ho, resolve, invoke, builtin, Sem.run_bind, Sem.run_pure, Result.andThen_ok, List.map_toArray, List.map_cons, List.map_nil, hs, hrun]
  exact hK _ _ (h w' zs hz h2 h3)

/-- append of so many zeros that there is no room: a new block. -/
theorem wpList_append_zeros {ops : Array Oper} {rest : List Oper} {o : Oper} {a : Act} {Q : Exit → Act → World → Prop} (hgd : o.guard = none) (s x : Operand) (t tn : TypeId)
    (ho : o.op = .call { callee := .builtin .append, args := #[s, x], argTypes := #[t, tn] }) (e : TypeId) (i : TypeInfo) (z : Value) (k bytes : Nat) (kn : IntKind) (ht : P.underlying t = some (.slice e)) (htn : P.underlying tn = some (.int kn))
    (hi : P.info? e = some i) (hz : i.zero = some z) (hk : i.size = k) (hby : i.bytes = bytes) (hzs : z.cells.size = k) (hk0 : 0 < k) (A : Option Addr) (n c m : Nat) (kq : IntKind) (xs : List Value) (hs : a.eval s = .slice A n c) (hx : a.eval x = .int kq m) (E : TypeId) (hr : Rd w E k A n xs)
    (hm : 0 < m) (hg : c < n + m) (h63 : n + m ≤ maxLen) (hbytes : (n + m) * bytes ≤ 140737488355328)
    (T : Nat) (hT : n + m = T)
    (h : ∀ g cap cur w', w.heap.size ≤ g → Blk w' g e (List.toArray cur) → T ≤ cap → cap ≤ maxLen → cur.length = cap * k → cur.take (n * k) = xs → Keeps [] w w' →
      wpList P ops Q rest (a.put o.dst (.slice (some ⟨g, 0, none⟩) T cap)) w') : wpList P ops Q (o :: rest) a w := by
  subst hT
  subst hk
  subst hby
  have hmb : m * i.bytes ≤ (n + m) * i.bytes := Nat.mul_le_mul_right _ (by omega)
  have hfit := growslice_fits (old := c) (by omega) hbytes
  have hold : (Builtin.firstCells i.size n (.slice A n c)).run P w.drew = .ok xs.toArray w.drew := by
    rcases A with _ | ad
    · have hn : n = 0 := by
        rcases Nat.eq_zero_or_pos n with h0 | h0
        · exact h0
        · obtain ⟨g, off, cur, h, _⟩ := hr.2.2 h0; cases h
      subst hn
      have hxs : xs = [] := List.eq_nil_of_length_eq_zero (by simpa using hr.1)
      subst hxs
      simp [Builtin.firstCells]
    · refine run_firstCells_some (P := P) w.drew i.size n ad n c xs hr.1 (fun j v hj => ?_)
      obtain ⟨g, off, he, _, hc⟩ := hr.cellAt hj
      injection he with he
      subst he
      rw [add_lit]; exact hc
  have hrun := Lib.run_append_grow_zeros (P := P) w t tn o.type e i z kq kn ht htn hi hz A n c xs hold m hm hk0 hg (by simp only [maxLen] at h63; omega) (by omega) hfit
  have hge := grownCap_ge w (n + m) c e
  have hcm : grownCap w (n + m) c e ≤ maxLen := grownCap_le_maxLen w (n + m) c e h63
  refine wpList_plain hgd fun K hK => ?_
  unfold Oper.wp execOp
  simp only [ho, resolve, invoke, builtin, Sem.run_bind, Sem.run_pure, Result.andThen_ok, List.map_toArray, List.map_cons, List.map_nil, hs, hx, hrun]
  refine hK _ _ (h w.heap.size (grownCap w (n + m) c e) (xs ++ (Builtin.zeroCells z.cells m).toList ++ (Builtin.zeroCells z.cells (grownCap w (n + m) c e - (n + m))).toList) _ (Nat.le_refl _) ?_ hge hcm ?_ ?_ ?_)
  · show (w.drew.alloc _).heap[w.drew.heap.size]? = _
    rw [heap_alloc_new]
    congr 2
    simp
  · simp only [List.length_append, Array.length_toList, size_zeroCells, hzs, hr.1, ← Nat.add_mul]
    congr 1
    omega
  · rw [List.append_assoc, ← hr.1, List.take_left]
  · exact ((Keeps.refl [] w).drew).alloc _
end copy
end Go.Proofs.YtkngjgblfappoaaGreatDoor
