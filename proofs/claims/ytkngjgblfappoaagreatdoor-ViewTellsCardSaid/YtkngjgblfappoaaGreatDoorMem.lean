/-
  Memory words of these proofs: a block known whole, a world that keeps all old blocks but some, a slice that reads as a list, a slice that a call owns; append in these words. No program is named here.
-/
import Derived.WalkKit
import Derived.WalkLawsBesides
import Derived.Deep.QuietTactic
import Derived.BigQuiet
import Derived.Maps.AppendAt
import Derived.Deep.AppendLies
import Derived.Deep.Draws
import Derived.Lib.Hide
import Derived.Laws.CopyOwn
namespace Go.Proofs.YtkngjgblfappoaaGreatDoor
open Go.RowKit (Below intOf Hid)

/-- Block b is just these cells of element type T. -/
def Blk (w : World) (b : Nat) (T : TypeId) (cs : Array Value) : Prop := w.heap[b]? = some (.cells cs T (0, 0))

/-- A pointer to the head of a block. -/
abbrev ptr (b : Nat) : Value := .pointer (some ⟨b, 0, none⟩)

/-- All old blocks are as they were, but those of M. -/
structure Keeps (M : List Nat) (w w' : World) : Prop where
  os : w'.os = w.os
  tape : w'.tape = w.tape
  output : w'.output = w.output
  size : w.heap.size ≤ w'.heap.size
  block : ∀ b, b < w.heap.size → b ∉ M → w'.heap[b]? = w.heap[b]?

section keeps
variable {M M' : List Nat} {w w1 w2 : World}
theorem Keeps.refl (M : List Nat) (w : World) : Keeps M w w := ⟨rfl, rfl, rfl, Nat.le_refl _, fun _ _ _ => rfl⟩
theorem Keeps.trans (h : Keeps M w w1) (k : Keeps M' w1 w2) (hM : ∀ b, b ∈ M' → b ∈ M ∨ w.heap.size ≤ b) : Keeps M w w2 :=
  ⟨k.os.trans h.os, k.tape.trans h.tape, k.output.trans h.output, Nat.le_trans h.size k.size, fun b hb hn =>
    (k.block b (Nat.lt_of_lt_of_le hb h.size) (fun hm => by rcases hM b hm with h1 | h1; exact hn h1; omega)).trans (h.block b hb hn)⟩
theorem Keeps.trans_nil (h : Keeps M w w1) (k : Keeps [] w1 w2) : Keeps M w w2 := h.trans k (by simp)
theorem Keeps.mono (h : Keeps M w w1) (hM : ∀ b, b ∈ M → b ∈ M' ∨ w.heap.size ≤ b) : Keeps M' w w1 := (Keeps.refl M' w).trans h hM
theorem Keeps.drew (h : Keeps M w w1) : Keeps M w w1.drew := ⟨h.os, h.tape, h.output, h.size, h.block⟩
theorem Keeps.drewN (h : Keeps M w w1) (n : Nat) : Keeps M w (w1.drewN n) := ⟨h.os, h.tape, h.output, h.size, h.block⟩
theorem Keeps.of_drewN {n : Nat} (h : Keeps M (w.drewN n) w1) : Keeps M w w1 := ⟨h.os, h.tape, h.output, h.size, h.block⟩
theorem Keeps.of_drew (h : Keeps M w.drew w1) : Keeps M w w1 := ⟨h.os, h.tape, h.output, h.size, h.block⟩
theorem Keeps.alloc (h : Keeps M w w1) (o : Obj) : Keeps M w (w1.alloc o) :=
  h.trans_nil ⟨rfl, rfl, rfl, by simp, fun k hk _ => Below.heap_alloc _ _ k hk⟩
theorem Keeps.setCell (h : Keeps M w w1) {p : Addr} (hp : p.block ∈ M ∨ w.heap.size ≤ p.block) (u : Value) : Keeps M w (w1.setCell p u) :=
  h.trans (M' := [p.block]) ⟨rfl, rfl, rfl, by simp, fun k _ hn => heap_setCell_other _ _ _ _ (by simpa using hn)⟩ (by simpa using hp)
theorem Keeps.grown {row : Option Nat} (h : Keeps M w w1) (k : w1.grownBy w2 row) (hr : ∀ b, row = some b → b ∈ M ∨ w.heap.size ≤ b) : Keeps M w w2 :=
  h.trans (M' := row.toList) ⟨k.os, k.tape, k.output, k.size, fun b hb hn => k.block b hb (by cases row <;> simp_all [eq_comm])⟩ (by cases row <;> simp_all)
theorem Keeps.below (h : Keeps [] w w1) : Below w.heap.size w w1 := ⟨h.os, h.tape, h.output, h.size, fun b hb => h.block b hb (by simp)⟩
theorem Keeps.of_below (h : Below w.heap.size w w1) : Keeps [] w w1 := ⟨h.os, h.tape, h.output, h.size, fun b hb _ => h.block b hb⟩
theorem Keeps.blk {b : Nat} {T : TypeId} {cs : Array Value} (k : Keeps M w w1) (h : Blk w b T cs) (hn : b ∉ M) : Blk w1 b T cs :=
  (k.block b (lt_of_block h) hn).trans h
theorem Keeps.obj {b : Nat} {o : Obj} (k : Keeps M w w1) (h : w.heap[b]? = some o) (hn : b ∉ M) : w1.heap[b]? = some o :=
  (k.block b (lt_of_block h) hn).trans h
end keeps

section blk
variable {w : World} {b : Nat} {T : TypeId} {cs : Array Value}
theorem Blk.lt (h : Blk w b T cs) : b < w.heap.size := lt_of_block h
theorem Blk.cell (h : Blk w b T cs) (i : Nat) : w.cell? ⟨b, i, none⟩ = cs[i]? := cell_of_row w b i cs T (0, 0) h
theorem Blk.free (h : Blk w b T cs) (i : Nat) : w.frozen? ⟨b, i, none⟩ = false := frozen_of_row w b i cs T h
theorem Blk.drew (h : Blk w b T cs) : Blk w.drew b T cs := h
theorem Blk.drewN (h : Blk w b T cs) (n : Nat) : Blk (w.drewN n) b T cs := h
theorem Blk.alloc (h : Blk w b T cs) (o : Obj) : Blk (w.alloc o) b T cs := (Below.heap_alloc w o b h.lt).trans h
theorem Blk.new (w : World) (T : TypeId) (cs : Array Value) : Blk (w.alloc (.cells cs T)) w.heap.size T cs := heap_alloc_new w _
theorem Blk.new' {w : World} {n : Nat} (T : TypeId) (cs : Array Value) (h : n = w.heap.size) : Blk (w.alloc (.cells cs T)) n T cs := h ▸ heap_alloc_new w _
theorem Blk.set (h : Blk w b T cs) (i : Nat) (u : Value) : Blk (w.setCell ⟨b, i, none⟩ u) b T (cs.setIfInBounds i u) := by
  unfold Blk at h ⊢
  simp [World.setCell, Array.getElem?_modify, h]
theorem Blk.far (h : Blk w b T cs) {p : Addr} (hp : b ≠ p.block) (u : Value) : Blk (w.setCell p u) b T cs := (heap_setCell_other w p b u hp).trans h
theorem Blk.ne {b' : Nat} {T' : TypeId} {cs' : Array Value} (h : Blk w b T cs) (h' : Blk w b' T' cs') (hne : T ≠ T') : b ≠ b' := by
  rintro rfl
  unfold Blk at h h'
  rw [h] at h'
  injection h' with h'
  injection h' with _ ht
  exact hne ht
theorem Blk.inj {T' : TypeId} {cs' : Array Value} (h : Blk w b T cs) (h' : Blk w b T' cs') : T = T' ∧ cs = cs' := by
  unfold Blk at h h'
  rw [h] at h'
  injection h' with h'
  injection h' with h1 h2
  exact ⟨h2, h1⟩
end blk

/-- In w, block b is no block of cells of one of these element types. -/
def NoTag (w : World) (b : Nat) (S : List TypeId) : Prop := ∀ cs T f, w.heap[b]? = some (.cells cs T f) → T ∉ S
theorem Blk.noTag {w : World} {b : Nat} {T : TypeId} {cs : Array Value} (h : Blk w b T cs) {S : List TypeId} (hS : T ∉ S) : NoTag w b S := by
  intro cs' T' f h'
  unfold Blk at h
  rw [h] at h'
  injection h' with h'
  injection h' with _ ht
  exact ht ▸ hS
theorem NoTag.of_map {w : World} {b : Nat} {es : Array MapEntry} {k : Nat} (h : w.heap[b]? = some (.map es k)) (S : List TypeId) : NoTag w b S := by
  intro cs T f h'
  rw [h] at h'
  cases h'
theorem NoTag.sub {w : World} {b : Nat} {S S' : List TypeId} (h : NoTag w b S) (hS : ∀ T, T ∈ S' → T ∈ S) : NoTag w b S' :=
  fun cs T f h' hm => h cs T f h' (hS T hm)

/-- Values of one cell each. -/
def Cells1 (xs : List Value) : Prop := ∀ u ∈ xs, u.oneCell' = true
theorem Cells1.append {xs ys : List Value} (h : Cells1 xs) (k : Cells1 ys) : Cells1 (xs ++ ys) := fun u hu => by
  rcases List.mem_append.1 hu with h1 | h1
  · exact h u h1
  · exact k u h1
theorem Cells1.take {xs : List Value} (h : Cells1 xs) (n : Nat) : Cells1 (xs.take n) := fun u hu => h u (List.mem_of_mem_take hu)
theorem Cells1.drop {xs : List Value} (h : Cells1 xs) (n : Nat) : Cells1 (xs.drop n) := fun u hu => h u (List.mem_of_mem_drop hu)
theorem Cells1.nil : Cells1 [] := fun _ h => by cases h
theorem Cells1.ints (k : IntKind) (l : List Int) : Cells1 (l.map (Value.int k)) := fun u hu => by
  obtain ⟨n, _, rfl⟩ := List.mem_map.1 hu; rfl
theorem Cells1.ptrs (l : List Nat) : Cells1 (l.map ptr) := fun u hu => by
  obtain ⟨n, _, rfl⟩ := List.mem_map.1 hu; rfl

/-- The slice value '.slice A n c' (n elements of type e, k cells each) reads as the cells xs. -/
def Rd (w : World) (e : TypeId) (k : Nat) (A : Option Addr) (n : Nat) (xs : List Value) : Prop :=
  xs.length = n * k ∧ Cells1 xs ∧ (0 < n → ∃ g off cur, A = some ⟨g, off, none⟩ ∧ w.heap[g]? = some (.cells cur e (0, 0)) ∧ (cur.toList.drop off).take (n * k) = xs)

theorem add_lit (g off m : Nat) : (⟨g, off, none⟩ : Addr).add m = ⟨g, off + m, none⟩ := by
  unfold Addr.add; split <;> simp_all

section rd
variable {w w' : World} {e : TypeId} {k n : Nat} {A : Option Addr} {xs : List Value} {M : List Nat}
theorem Rd.nil (w : World) (e : TypeId) (k : Nat) (A : Option Addr) : Rd w e k A 0 [] := ⟨by simp, Cells1.nil, fun h => absurd h (by omega)⟩
theorem Rd.keep (h : Rd w e k A n xs) (hk : Keeps M w w') (hM : ∀ b, b ∈ M → NoTag w b [e]) : Rd w' e k A n xs :=
  ⟨h.1, h.2.1, fun hn => by
    obtain ⟨g, off, cur, rfl, hg, hx⟩ := h.2.2 hn
    exact ⟨g, off, cur, rfl, hk.obj hg (fun hm => hM g hm _ _ _ hg (by simp)), hx⟩⟩
theorem Rd.far (h : Rd w e k A n xs) (hk : Keeps M w w') (hM : ∀ g off, A = some ⟨g, off, none⟩ → g ∉ M) : Rd w' e k A n xs :=
  ⟨h.1, h.2.1, fun hn => by
    obtain ⟨g, off, cur, rfl, hg, hx⟩ := h.2.2 hn
    exact ⟨g, off, cur, rfl, hk.obj hg (hM g off rfl), hx⟩⟩
theorem Rd.drew (h : Rd w e k A n xs) : Rd w.drew e k A n xs := h
theorem Rd.drewN (h : Rd w e k A n xs) (m : Nat) : Rd (w.drewN m) e k A n xs := h
theorem Rd.alloc (h : Rd w e k A n xs) (o : Obj) : Rd (w.alloc o) e k A n xs := h.keep ((Keeps.refl [] w).alloc o) (by simp)
theorem Rd.cellAt (h : Rd w e k A n xs) {j : Nat} {u : Value} (hj : xs[j]? = some u) : ∃ g off, A = some ⟨g, off, none⟩ ∧ g < w.heap.size ∧ w.cell? ⟨g, off + j, none⟩ = some u := by
  have hl := (List.getElem?_eq_some_iff.1 hj).1
  have hn : 0 < n := by
    rcases Nat.eq_zero_or_pos n with h0 | h0
    · have := h.1; subst h0; simp at this; subst this; simp at hl
    · exact h0
  obtain ⟨g, off, cur, rfl, hg, hx⟩ := h.2.2 hn
  refine ⟨g, off, rfl, lt_of_block hg, ?_⟩
  rw [cell_of_row w g _ cur e _ hg, ← hj, ← hx, List.getElem?_take, if_pos (by rw [← h.1]; exact hl), List.getElem?_drop]
  simp
theorem Rd.addr (h : Rd w e k A n xs) (hn : 0 < n) : ∃ g off, A = some ⟨g, off, none⟩ ∧ g < w.heap.size ∧ ∀ j u, xs[j]? = some u → w.cell? ⟨g, off + j, none⟩ = some u := by
  obtain ⟨g, off, cur, rfl, hg, _⟩ := h.2.2 hn
  refine ⟨g, off, rfl, lt_of_block hg, fun j u hj => ?_⟩
  obtain ⟨g', off', he, _, hc⟩ := h.cellAt hj
  injection he with he
  injection he with h1 h2
  subst h1 h2
  exact hc
theorem Rd.blk {g off : Nat} (h : Rd w e k (some ⟨g, off, none⟩) n xs) (hn : 0 < n) : ∃ cur, Blk w g e cur ∧ (0 < k → cur.size ≠ 0) := by
  obtain ⟨g', off', cur, he, hg, hx⟩ := h.2.2 hn
  injection he with he
  injection he with h1 h2
  subst h1
  refine ⟨cur, hg, fun hk h0 => ?_⟩
  have hl := h.1
  have hp : 0 < n * k := Nat.mul_pos hn hk
  rw [← hx] at hl
  simp [h0] at hl
  omega
theorem rd_of_blk {g off : Nat} {cur : List Value} (hg : Blk w g e cur.toArray) (hx : (cur.drop off).take (n * k) = xs) (hl : xs.length = n * k) (h1 : Cells1 xs) : Rd w e k (some ⟨g, off, none⟩) n xs :=
  ⟨hl, h1, fun _ => ⟨g, off, cur.toArray, rfl, hg, hx⟩⟩
theorem Rd.take {m : Nat} (h : Rd w e k A n xs) (hm : m ≤ n) : Rd w e k A m (xs.take (m * k)) := by
  have hle : m * k ≤ n * k := Nat.mul_le_mul_right k hm
  refine ⟨by rw [List.length_take, h.1]; omega, h.2.1.take _, fun h0 => ?_⟩
  obtain ⟨g, off, cur, rfl, hg, hx⟩ := h.2.2 (by omega)
  exact ⟨g, off, cur, rfl, hg, by rw [← hx, List.take_take, Nat.min_eq_left hle]⟩
theorem Rd.dropAdd {m : Nat} (h : Rd w e k A n xs) (hm : m ≤ n) : Rd w e k (A.map (·.add (m * k))) (n - m) (xs.drop (m * k)) := by
  refine ⟨by rw [List.length_drop, h.1, Nat.sub_mul], h.2.1.drop _, fun h0 => ?_⟩
  obtain ⟨g, off, cur, rfl, hg, hx⟩ := h.2.2 (by omega)
  refine ⟨g, off + m * k, cur, by simp [add_lit], hg, ?_⟩
  rw [← hx, List.drop_take, List.drop_drop, Nat.sub_mul]
theorem Rd.cut {m cap : Nat} (h : Rd w e k A n xs) (hm : m ≤ n) (hc : n ≤ cap) :
    Rd w e k (if cap = m then A else A.map (·.add (m * k))) (n - m) (xs.drop (m * k)) := by
  split
  · have : n - m = 0 := by omega
    rw [this]
    have hx : xs.drop (m * k) = [] := by
      rw [List.drop_eq_nil_iff, h.1]; exact Nat.mul_le_mul_right k (by omega)
    rw [hx]
    exact Rd.nil w e k A
  · exact h.dropAdd hm
end rd

section own
variable {w w' : World} {base n k : Nat} {e : TypeId} {v : Value} {xs : List Value} {M : List Nat}
theorem own_form (h : w.ownsRow base e k v n xs) : ∃ A c, v = .slice A n c ∧ n ≤ c ∧ c ≤ maxLen := by
  rcases h.2 with ⟨rfl, rfl⟩ | ⟨g, cap, cur, rfl, _, _, h1, h2, _⟩
  · exact ⟨none, 0, rfl, Nat.le_refl _, by decide⟩
  · exact ⟨_, cap, rfl, h1, h2⟩
theorem own_rd {A : Option Addr} {c m : Nat} (h : w.ownsRow base e k (.slice A m c) n xs) (hx : Cells1 xs) : Rd w e k A n xs := by
  refine ⟨h.1, hx, fun hn => ?_⟩
  rcases h.2 with ⟨hv, rfl⟩ | ⟨g, cap, cur, hv, _, hg, _, _, _, ht⟩
  · omega
  · injection hv with hA
    subst hA
    exact ⟨g, 0, cur, rfl, hg, by simpa using ht⟩
theorem own_len {A : Option Addr} {c m : Nat} (h : w.ownsRow base e k (.slice A m c) n xs) : m = n ∧ n ≤ c := by
  obtain ⟨A', c', h1, h2, _⟩ := own_form h
  injection h1 with _ h3 h4
  subst h3 h4
  exact ⟨rfl, h2⟩
theorem own_keep (h : w.ownsRow base e k v n xs) (hk : Keeps M w w') (hM : ∀ b, b ∈ M → v.ownBlock ≠ some b) : w'.ownsRow base e k v n xs := by
  refine ⟨h.1, ?_⟩
  rcases h.2 with hn | ⟨g, cap, cur, rfl, hb, hgg, rest⟩
  · exact .inl hn
  · exact .inr ⟨g, cap, cur, rfl, hb, hk.obj hgg (fun hm => hM g hm rfl), rest⟩
theorem own_new {cs : Array Value} {m : Nat} (hb : base ≤ w.heap.size) (hm : m ≤ maxLen) (hs : cs.size = m * k) :
    (w.alloc (.cells cs e)).ownsRow base e k (.slice (some ⟨w.heap.size, 0, none⟩) m m) m cs.toList :=
  World.ownsRow_lit w cs m hb hm hs
end own

section append
variable {P : Program} (w : World)
/-- append of a slice that reads as ys onto a slice that the call owns. -/
theorem run_append_rd (base : Nat) (t ty e : TypeId) (i : TypeInfo) (z : Value) (k bytes : Nat) (ht : P.underlying t = some (.slice e)) (hi : P.info? e = some i) (hz : i.zero = some z)
    (hk : i.size = k) (hby : i.bytes = bytes) (hzs : z.cells.size = k) (hk0 : 0 < k)
    (v : Value) (n : Nat) (xs : List Value) (hown : w.ownsRow base e k v n xs) (A : Option Addr) (m c : Nat) (ys : List Value) (hr : Rd w e k A m ys)
    (h63 : n + m ≤ maxLen) (hbytes : (n + m) * bytes ≤ 140737488355328) (hbase : base ≤ w.heap.size) :
    ∃ v' w', (Builtin.append_ #[t, t] ty #[v, .slice A m c]).run P w = .ok v' w' ∧ w'.ownsRow base e k v' (n + m) (xs ++ ys) ∧ w.grownBy w' v.ownBlock ∧
      (v'.ownBlock = v.ownBlock ∨ v'.ownBlock = some w.heap.size) := by
  rcases A with _ | ad
  · have hm : m = 0 := by
      rcases Nat.eq_zero_or_pos m with h0 | h0
      · exact h0
      · obtain ⟨g, off, cur, h, _⟩ := hr.2.2 h0; cases h
    subst hm
    have hy : ys = [] := List.eq_nil_of_length_eq_zero (by simpa using hr.1)
    subst hy
    refine ⟨v, w, ?_, by simpa using hown, ⟨rfl, rfl, rfl, Nat.le_refl _, fun _ _ _ => rfl⟩, .inl rfl⟩
    rcases hown.2 with ⟨rfl, rfl⟩ | ⟨g, cap, cur, rfl, _, _, hnc, _⟩
    · simp [Builtin.append_, run_underlying ht, sizeOf, typeInfo, hi, Builtin.lenOf, Builtin.firstCells]
    · simp [Builtin.append_, run_underlying ht, sizeOf, typeInfo, hi, Builtin.lenOf, Builtin.firstCells, hnc, storeCells]
  · have hcells : ∀ j u, ys[j]? = some u → w.cell? (ad.add j) = some u := by
      intro j u hu
      obtain ⟨g, off, he, _, hc⟩ := hr.cellAt hu
      injection he with he
      subst he
      rw [add_lit]; exact hc
    obtain ⟨v', w', hrun, h2, h3, _, h5⟩ := run_append_own_at (P := P) w base t ty e i z k bytes ht hi hz hk hby hzs hk0 v n xs hown ad m c ys hr.1 hcells hr.2.1 h63 hbytes hbase
    exact ⟨v', w', hrun, h2, h3, h5⟩

theorem wp_append_rd {o : Oper} {a : Act} {K : Act → World → Prop} {Q : Exit → Act → World → Prop} (s x : Operand) (t : TypeId)
    (ho : o.op = .call { callee := .builtin .append, args := #[s, x], argTypes := #[t, t] })
    (base : Nat) (e : TypeId) (i : TypeInfo) (z : Value) (k bytes : Nat) (ht : P.underlying t = some (.slice e)) (hi : P.info? e = some i) (hz : i.zero = some z)
    (hk : i.size = k) (hby : i.bytes = bytes) (hzs : z.cells.size = k) (hk0 : 0 < k)
    (v : Value) (n : Nat) (xs : List Value) (hs : a.eval s = v) (hown : w.ownsRow base e k v n xs)
    (A : Option Addr) (m c : Nat) (ys : List Value) (hx : a.eval x = .slice A m c) (hr : Rd w e k A m ys)
    (h63 : n + m ≤ maxLen) (hbytes : (n + m) * bytes ≤ 140737488355328) (hbase : base ≤ w.heap.size)
    (h : ∀ v' w', w'.ownsRow base e k v' (n + m) (xs ++ ys) → w.grownBy w' v.ownBlock → (v'.ownBlock = v.ownBlock ∨ v'.ownBlock = some w.heap.size) → K (a.put o.dst v') w') : o.wp P a w K Q := by
  obtain ⟨v', w', hrun, h2, h3, h4⟩ := run_append_rd (P := P) w base t o.type e i z k bytes ht hi hz hk hby hzs hk0 v n xs hown A m c ys hr h63 hbytes hbase
  unfold Oper.wp execOp
  simp only [ho, resolve, invoke, builtin, Sem.run_bind, Sem.run_pure, Result.andThen_ok, List.map_toArray, List.map_cons, List.map_nil, hs, hx, hrun]
  exact h v' w' h2 h3 h4

theorem wpList_append_rd {ops : Array Oper} {rest : List Oper} {o : Oper} {a : Act} {Q : Exit → Act → World → Prop} (hgd : o.guard = none) (s x : Operand) (t : TypeId)
    (ho : o.op = .call { callee := .builtin .append, args := #[s, x], argTypes := #[t, t] })
    (base : Nat) (e : TypeId) (i : TypeInfo) (z : Value) (k bytes : Nat) (ht : P.underlying t = some (.slice e)) (hi : P.info? e = some i) (hz : i.zero = some z)
    (hk : i.size = k) (hby : i.bytes = bytes) (hzs : z.cells.size = k) (hk0 : 0 < k)
    (v : Value) (n : Nat) (xs : List Value) (hs : a.eval s = v) (hown : w.ownsRow base e k v n xs)
    (A : Option Addr) (m c : Nat) (ys : List Value) (hx : a.eval x = .slice A m c) (hr : Rd w e k A m ys)
    (h63 : n + m ≤ maxLen) (hbytes : (n + m) * bytes ≤ 140737488355328) (hbase : base ≤ w.heap.size)
    (h : ∀ v' w', w'.ownsRow base e k v' (n + m) (xs ++ ys) → w.grownBy w' v.ownBlock → (v'.ownBlock = v.ownBlock ∨ v'.ownBlock = some w.heap.size) → wpList P ops Q rest (a.put o.dst v') w') :
    wpList P ops Q (o :: rest) a w :=
  wpList_plain hgd fun _ hK => wp_append_rd w s x t ho base e i z k bytes ht hi hz hk hby hzs hk0 v n xs hs hown A m c ys hx hr h63 hbytes hbase fun v' w' h2 h3 h4 => hK _ _ (h v' w' h2 h3 h4)

theorem step_append_rd {ops : Array Oper} {o : Oper} {a : Act} {K : Act → World → Prop} {Q : Exit → Act → World → Prop} {E : Prop} (hgd : o.guard = none) (s x : Operand) (t : TypeId)
    (ho : o.op = .call { callee := .builtin .append, args := #[s, x], argTypes := #[t, t] })
    (base : Nat) (e : TypeId) (i : TypeInfo) (z : Value) (k bytes : Nat) (ht : P.underlying t = some (.slice e)) (hi : P.info? e = some i) (hz : i.zero = some z)
    (hk : i.size = k) (hby : i.bytes = bytes) (hzs : z.cells.size = k) (hk0 : 0 < k)
    (v : Value) (n : Nat) (xs : List Value) (hs : a.eval s = v) (hown : w.ownsRow base e k v n xs)
    (A : Option Addr) (m c : Nat) (ys : List Value) (hx : a.eval x = .slice A m c) (hr : Rd w e k A m ys)
    (h63 : n + m ≤ maxLen) (hbytes : (n + m) * bytes ≤ 140737488355328) (hbase : base ≤ w.heap.size)
    (h : ∀ v' w', w'.ownsRow base e k v' (n + m) (xs ++ ys) → w.grownBy w' v.ownBlock → (v'.ownBlock = v.ownBlock ∨ v'.ownBlock = some w.heap.size) → K (a.put o.dst v') w') :
    if Region.wanted o (yielded ops a.tmps) = true then Oper.wp P o a w K Q else E := by
  have hw : Region.wanted o (yielded ops a.tmps) = true := by simp [Region.wanted, hgd]
  rw [if_pos hw]
  exact wp_append_rd w s x t ho base e i z k bytes ht hi hz hk hby hzs hk0 v n xs hs hown A m c ys hx hr h63 hbytes hbase h
end append
end Go.Proofs.YtkngjgblfappoaaGreatDoor
