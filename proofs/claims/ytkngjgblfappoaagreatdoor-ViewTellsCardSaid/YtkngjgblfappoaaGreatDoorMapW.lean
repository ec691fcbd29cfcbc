/-
  Maps in these words: a block that is a map of known keys and values. No program is named here.
-/
import Derived.Test.YtkngjgblfappoaaGreatDoorMem3
import Derived.Maps.OwnSet
import Derived.Maps.OwnOps
namespace Go.Proofs.YtkngjgblfappoaaGreatDoor
open Go.RowKit (Below intOf Hid)

/-- A value read as itself. -/
def vR (v : Value) : Option (DataW Value × List MemPlace) := some (.held v, [])

/-- Block b is a map with at most n entries: f tells what it has. -/
def MapAt (P : Program) (k : TypeId) (w : World) (b n : Nat) (f : Lit → Option Value) : Prop :=
  ∃ D, w.ownsMap P k vR b n D ∧ ∀ l, Maps.KeysOf P k l → Maps.has D l = (f l).isSome ∧ ∀ z, D.atKey l (.held z) = .held ((f l).getD z)

open Classical in
/-- f, but v at one key. -/
noncomputable def upd (f : Lit → Option Value) (l : Lit) (v : Option Value) : Lit → Option Value := fun l' => if l' = l then v else f l'

section
variable {P : Program} {k : TypeId} {w w' : World} {b n : Nat} {f : Lit → Option Value} {M : List Nat}
theorem MapAt.lt (h : MapAt P k w b n f) : b < w.heap.size := by obtain ⟨D, ho, _⟩ := h; exact ho.lt
theorem MapAt.keep (h : MapAt P k w b n f) (hk : Keeps M w w') (hb : b ∉ M) : MapAt P k w' b n f := by
  obtain ⟨D, ⟨es, cl, hes, F, hs, hD⟩, hf⟩ := h
  exact ⟨D, ⟨es, cl, hk.obj hes hb, F, hs, hD⟩, hf⟩
theorem MapAt.mono {n' : Nat} (h : MapAt P k w b n f) (hn : n ≤ n') : MapAt P k w b n' f := by
  obtain ⟨D, ho, hf⟩ := h; exact ⟨D, ho.mono hn, hf⟩
theorem MapAt.noTag (h : MapAt P k w b n f) (S : List TypeId) : NoTag w b S := by
  obtain ⟨D, ⟨es, cl, hes, _⟩, _⟩ := h
  exact NoTag.of_map hes S
theorem MapAt.new (P : Program) (k : TypeId) (w : World) : MapAt P k (w.alloc (.map #[] 0)) w.heap.size 0 (fun _ => none) :=
  ⟨_, World.ownsMap_made w P k vR, fun _ _ => ⟨rfl, fun _ => rfl⟩⟩
theorem MapAt.congr {g : Lit → Option Value} (h : MapAt P k w b n f) (hg : ∀ l, Maps.KeysOf P k l → f l = g l) : MapAt P k w b n g := by
  obtain ⟨D, ho, hf⟩ := h
  exact ⟨D, ho, fun l hl => by rw [← hg l hl]; exact hf l hl⟩
theorem turned_keeps (h : w.mapTurned w' b) : Keeps [b] w w' := (Keeps.refl [b] w).grown h.grown (fun b' hb => .inl (by simp at hb; simp [hb]))
theorem MapAt.put {D : DataW Value} {l : Lit} {v : Value} (K : Maps.Keyed P k) (hl : Maps.KeysOf P k l) (hf : ∀ l, Maps.KeysOf P k l → Maps.has D l = (f l).isSome ∧ ∀ z, D.atKey l (.held z) = .held ((f l).getD z)) (hD : Maps.IsMap D)
    (ho : w'.ownsMap P k vR b n (D.put l (.held v))) : MapAt P k w' b n (upd f l (some v)) := by
  have hkl : WideAt.IsKeyLit l := by obtain ⟨x, hx⟩ := hl; exact K.key hx
  refine ⟨_, ho, fun l' hl' => ?_⟩
  by_cases e : l' = l
  · subst e
    simp only [upd, if_pos]
    exact ⟨Maps.has_put_same hD hkl _, fun z => Maps.atKey_put_same hD hkl _ _⟩
  · simp only [upd, if_neg e]
    refine ⟨?_, fun z => ?_⟩
    · rw [Maps.has_put_other e]; exact (hf l' hl').1
    · rw [Maps.atKey_put_other e]; exact (hf l' hl').2 z
theorem MapAt.del {D : DataW Value} {l : Lit} (hf : ∀ l, Maps.KeysOf P k l → Maps.has D l = (f l).isSome ∧ ∀ z, D.atKey l (.held z) = .held ((f l).getD z))
    (ho : w'.ownsMap P k vR b n (D.del l)) : MapAt P k w' b n (upd f l none) := by
  refine ⟨_, ho, fun l' hl' => ?_⟩
  by_cases e : l' = l
  · subst e
    simp only [upd, if_pos]
    exact ⟨Maps.has_del_same, fun z => Maps.atKey_del_same _⟩
  · simp only [upd, if_neg e]
    refine ⟨?_, fun z => ?_⟩
    · rw [Maps.has_del_other e]; exact (hf l' hl').1
    · rw [Maps.atKey_del_other e]; exact (hf l' hl').2 z
end

section
variable {P : Program} (w : World) {ops : Array Oper} {rest : List Oper} {o : Oper} {a : Act} {Q : Exit → Act → World → Prop}
/-- v, ok := m[k]. -/
theorem wpList_look_ok (hg : o.guard = none) (m x : Operand) (t : TypeId) (hop : o.op = Op.lookup t m x true) (k e : TypeId) (K : Maps.Keyed P k) (ht : P.underlying t = some (.map k e)) {z : Value} (hz : (zeroValue e).run P w = .ok z w)
    (b n : Nat) (f : Lit → Option Value) (hm : a.eval m = .map (some b)) (hown : MapAt P k w b n f) (key : Value) (kl : Lit) (hx : a.eval x = key) (hkey : keyOf P k key = some kl)
    (hK : wpList P ops Q rest (a.put o.dst (.tuple #[(f kl).getD z, .bool (f kl).isSome])) w) : wpList P ops Q (o :: rest) a w := by
  obtain ⟨D, ho, hf⟩ := hown
  refine wpList_lookup_own_ok w hg m x t hop k e K ht vR hz (.held z) [] rfl b n D hm ho key kl hx hkey (fun v ps hv => ?_)
  have hf' := hf kl ⟨_, hkey⟩
  rw [hf'.2 z] at hv
  have e1 : v = (f kl).getD z := by simp [vR] at hv; exact hv.1
  rw [e1, hf'.1]
  exact hK
/-- m[k]. -/
theorem wpList_look (hg : o.guard = none) (m x : Operand) (t : TypeId) (hop : o.op = Op.lookup t m x false) (k e : TypeId) (K : Maps.Keyed P k) (ht : P.underlying t = some (.map k e)) {z : Value} (hz : (zeroValue e).run P w = .ok z w)
    (b n : Nat) (f : Lit → Option Value) (hm : a.eval m = .map (some b)) (hown : MapAt P k w b n f) (key : Value) (kl : Lit) (hx : a.eval x = key) (hkey : keyOf P k key = some kl)
    (hK : wpList P ops Q rest (a.put o.dst ((f kl).getD z)) w) : wpList P ops Q (o :: rest) a w := by
  obtain ⟨D, ho, hf⟩ := hown
  refine wpList_plain hg fun K' hK' => ?_
  obtain ⟨v, ps, hrun, hv⟩ := ho.lookup K ht hz (R := vR) (zd := .held z) rfl hkey
  have hf' := hf kl ⟨_, hkey⟩
  rw [hf'.2 z] at hv
  have e1 : v = (f kl).getD z := by simp [vR] at hv; exact hv.1
  subst e1
  unfold Oper.wp
  simp [execOp, hop, hm, hx, hrun, Result.andThen]
  exact hK' _ _ hK
/-- m[k] = v. -/
theorem wpList_store (hg : o.guard = none) (m x v : Operand) (t : TypeId) (hop : o.op = Op.mapUpdate t m x v) (k e : TypeId) (K : Maps.Keyed P k) (ht : P.underlying t = some (.map k e))
    (b n : Nat) (f : Lit → Option Value) (hm : a.eval m = .map (some b)) (hown : MapAt P k w b n f) (hn : n < maxLen) (key val : Value) (kl : Lit) (hx : a.eval x = key) (hv : a.eval v = val) (hkey : keyOf P k key = some kl)
    (hK : ∀ w', MapAt P k w' b (n + 1) (upd f kl (some val)) → Keeps [b] w w' → wpList P ops Q rest (a.put o.dst undef) w') : wpList P ops Q (o :: rest) a w := by
  obtain ⟨D, ho, hf⟩ := hown
  exact wpList_mapUpdate_in w hg m x v t hop k e K ht vR b n D hm ho hn key val kl hx hv hkey (.held val) [] rfl (fun w' ho' ht' => hK w' (MapAt.put K ⟨_, hkey⟩ hf ho.isMap ho') (turned_keeps ht'))
/-- delete(m, k). -/
theorem wpList_drop (hg : o.guard = none) (m x : Operand) (t k : TypeId) (hop : o.op = Op.call { callee := Callee.builtin Builtin.delete, args := #[m, x], argTypes := #[t, k] }) (e : TypeId) (K : Maps.Keyed P k) (ht : P.underlying t = some (.map k e))
    (b n : Nat) (f : Lit → Option Value) (hm : a.eval m = .map (some b)) (hown : MapAt P k w b n f) (key : Value) (kl : Lit) (hx : a.eval x = key) (hkey : keyOf P k key = some kl)
    (hK : ∀ w', MapAt P k w' b n (upd f kl none) → Keeps [b] w w' → wpList P ops Q rest (a.put o.dst (.tuple #[])) w') : wpList P ops Q (o :: rest) a w := by
  obtain ⟨D, ho, hf⟩ := hown
  exact wpList_delete_own w hg m x t k hop e K ht vR b n D hm ho key kl hx hkey (fun w' ho' ht' => hK w' (MapAt.del hf ho') (turned_keeps ht'))
end
/-- v, ok := m[k], as an equation. -/
theorem MapAt.run_ok {P : Program} {w : World} {t k e : TypeId} {b n : Nat} {f : Lit → Option Value} (h : MapAt P k w b n f) (K : Maps.Keyed P k) (ht : P.underlying t = some (.map k e)) {z : Value} (hz : (zeroValue e).run P w = .ok z w) {key : Value} {kl : Lit} (hkey : keyOf P k key = some kl) :
    (Instr.lookup t (.map (some b)) key true).run P w = .ok (.tuple #[(f kl).getD z, .bool (f kl).isSome]) w := by
  obtain ⟨D, ho, hf⟩ := h
  obtain ⟨v, ps, hrun, hv⟩ := ho.look_ok K ht hz (R := vR) (zd := .held z) rfl hkey
  have hf' := hf kl ⟨_, hkey⟩
  rw [hf'.2 z] at hv
  have e1 : v = (f kl).getD z := by simp [vR] at hv; exact hv.1
  rw [e1, hf'.1] at hrun
  exact hrun
end Go.Proofs.YtkngjgblfappoaaGreatDoor
