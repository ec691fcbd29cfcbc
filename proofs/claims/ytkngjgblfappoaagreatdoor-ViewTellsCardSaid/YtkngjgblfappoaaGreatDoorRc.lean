/-
  A slice that reads as cells, wherever they lie (an argument). No program is named here.
-/
import Derived.Test.YtkngjgblfappoaaGreatDoorMem4
namespace Go.Proofs.YtkngjgblfappoaaGreatDoor
open Go.RowKit (Below intOf Hid)

/-- The slice value '.slice A n c' (n elements, k cells each) reads as the cells xs. -/
def Rc (w : World) (k : Nat) (A : Option Addr) (n : Nat) (xs : List Value) : Prop :=
  xs.length = n * k ∧ Cells1 xs ∧ (0 < n → ∃ g off, A = some ⟨g, off, none⟩ ∧ g < w.heap.size ∧ ∀ j u, xs[j]? = some u → w.cell? ⟨g, off + j, none⟩ = some u)
section
variable {w w' : World} {e : TypeId} {k n : Nat} {A : Option Addr} {xs : List Value} {M : List Nat}
theorem Rd.rc (h : Rd w e k A n xs) : Rc w k A n xs := ⟨h.1, h.2.1, fun hn => h.addr hn⟩
theorem Rc.keep (h : Rc w k A n xs) (hk : Keeps M w w') (hM : ∀ g off, A = some ⟨g, off, none⟩ → g ∉ M) : Rc w' k A n xs :=
  ⟨h.1, h.2.1, fun hn => by
    obtain ⟨g, off, rfl, hg, hx⟩ := h.2.2 hn
    exact ⟨g, off, rfl, Nat.lt_of_lt_of_le hg hk.size, fun j u hu => hk.cell (hx j u hu) (hM g off rfl)⟩⟩
theorem Rc.drew (h : Rc w k A n xs) : Rc w.drew k A n xs := h
theorem Rc.alloc (h : Rc w k A n xs) (o : Obj) : Rc (w.alloc o) k A n xs := h.keep ((Keeps.refl [] w).alloc o) (by simp)
theorem Rc.addr (h : Rc w k A n xs) (hn : 0 < n) : ∃ g off, A = some ⟨g, off, none⟩ ∧ g < w.heap.size ∧ ∀ j u, xs[j]? = some u → w.cell? ⟨g, off + j, none⟩ = some u := h.2.2 hn
theorem Rc.chg {β : Nat} {S : List TypeId} {B : List Nat} (hr : Rc w k A n xs) (h : Chg β S B w w') (ho : 0 < n → ∀ g off, A = some ⟨g, off, none⟩ → g < β) : Rc w' k A n xs := by
  obtain ⟨M, hk, hM⟩ := h
  refine ⟨hr.1, hr.2.1, fun hn => ?_⟩
  exact (hr.keep hk (fun g off hA hm => by have := (hM g hm).1; have := ho hn g off hA; omega)).2.2 hn
end
section
variable {P : Program} (w : World)
theorem run_append_rc (base : Nat) (t ty e : TypeId) (i : TypeInfo) (z : Value) (k bytes : Nat) (ht : P.underlying t = some (.slice e)) (hi : P.info? e = some i) (hz : i.zero = some z)
    (hk : i.size = k) (hby : i.bytes = bytes) (hzs : z.cells.size = k) (hk0 : 0 < k)
    (v : Value) (n : Nat) (xs : List Value) (hown : w.ownsRow base e k v n xs) (A : Option Addr) (m c : Nat) (ys : List Value) (hr : Rc w k A m ys)
    (h63 : n + m ≤ maxLen) (hbytes : (n + m) * bytes ≤ 140737488355328) (hbase : base ≤ w.heap.size) :
    ∃ v' w', (Builtin.append_ #[t, t] ty #[v, .slice A m c]).run P w = .ok v' w' ∧ w'.ownsRow base e k v' (n + m) (xs ++ ys) ∧ w.grownBy w' v.ownBlock ∧
      (v'.ownBlock = v.ownBlock ∨ v'.ownBlock = some w.heap.size) := by
  rcases Nat.eq_zero_or_pos m with h0 | h0
  · subst h0
    have hy : ys = [] := List.eq_nil_of_length_eq_zero (by simpa using hr.1)
    subst hy
    exact run_append_rd w base t ty e i z k bytes ht hi hz hk hby hzs hk0 v n xs hown A 0 c [] (Rd.nil _ _ _ _) h63 hbytes hbase
  · obtain ⟨g, off, rfl, _, hc⟩ := hr.2.2 h0
    obtain ⟨v', w', hrun, h2, h3, _, h5⟩ := run_append_own_at (P := P) w base t ty e i z k bytes ht hi hz hk hby hzs hk0 v n xs hown ⟨g, off, none⟩ m c ys hr.1 (fun j u hu => by rw [add_lit]; exact hc j u hu) hr.2.1 h63 hbytes hbase
    exact ⟨v', w', hrun, h2, h3, h5⟩
theorem wp_append_rc {o : Oper} {a : Act} {K : Act → World → Prop} {Q : Exit → Act → World → Prop} (s x : Operand) (t : TypeId)
    (ho : o.op = .call { callee := .builtin .append, args := #[s, x], argTypes := #[t, t] })
    (base : Nat) (e : TypeId) (i : TypeInfo) (z : Value) (k bytes : Nat) (ht : P.underlying t = some (.slice e)) (hi : P.info? e = some i) (hz : i.zero = some z)
    (hk : i.size = k) (hby : i.bytes = bytes) (hzs : z.cells.size = k) (hk0 : 0 < k)
    (v : Value) (n : Nat) (xs : List Value) (hs : a.eval s = v) (hown : w.ownsRow base e k v n xs)
    (A : Option Addr) (m c : Nat) (ys : List Value) (hx : a.eval x = .slice A m c) (hr : Rc w k A m ys)
    (h63 : n + m ≤ maxLen) (hbytes : (n + m) * bytes ≤ 140737488355328) (hbase : base ≤ w.heap.size)
    (h : ∀ v' w', w'.ownsRow base e k v' (n + m) (xs ++ ys) → w.grownBy w' v.ownBlock → (v'.ownBlock = v.ownBlock ∨ v'.ownBlock = some w.heap.size) → K (a.put o.dst v') w') : o.wp P a w K Q := by
  obtain ⟨v', w', hrun, h2, h3, h4⟩ := run_append_rc (P := P) w base t o.type e i z k bytes ht hi hz hk hby hzs hk0 v n xs hown A m c ys hr h63 hbytes hbase
  unfold Oper.wp execOp
  simp only [ho, resolve, invoke, builtin, Sem.run_bind, Sem.run_pure, Result.andThen_ok, List.map_toArray, List.map_cons, List.map_nil, hs, hx, hrun]
  exact h v' w' h2 h3 h4
theorem wpList_append_rc {ops : Array Oper} {rest : List Oper} {o : Oper} {a : Act} {Q : Exit → Act → World → Prop} (hgd : o.guard = none) (s x : Operand) (t : TypeId)
    (ho : o.op = .call { callee := .builtin .append, args := #[s, x], argTypes := #[t, t] })
    (base : Nat) (e : TypeId) (i : TypeInfo) (z : Value) (k bytes : Nat) (ht : P.underlying t = some (.slice e)) (hi : P.info? e = some i) (hz : i.zero = some z)
    (hk : i.size = k) (hby : i.bytes = bytes) (hzs : z.cells.size = k) (hk0 : 0 < k)
    (v : Value) (n : Nat) (xs : List Value) (hs : a.eval s = v) (hown : w.ownsRow base e k v n xs)
    (A : Option Addr) (m c : Nat) (ys : List Value) (hx : a.eval x = .slice A m c) (hr : Rc w k A m ys)
    (h63 : n + m ≤ maxLen) (hbytes : (n + m) * bytes ≤ 140737488355328) (hbase : base ≤ w.heap.size)
    (h : ∀ v' w', w'.ownsRow base e k v' (n + m) (xs ++ ys) → w.grownBy w' v.ownBlock → (v'.ownBlock = v.ownBlock ∨ v'.ownBlock = some w.heap.size) → wpList P ops Q rest (a.put o.dst v') w') :
    wpList P ops Q (o :: rest) a w :=
  wpList_plain hgd fun _ hK => wp_append_rc w s x t ho base e i z k bytes ht hi hz hk hby hzs hk0 v n xs hs hown A m c ys hx hr h63 hbytes hbase fun v' w' h2 h3 h4 => hK _ _ (h v' w' h2 h3 h4)
end
end Go.Proofs.YtkngjgblfappoaaGreatDoor
