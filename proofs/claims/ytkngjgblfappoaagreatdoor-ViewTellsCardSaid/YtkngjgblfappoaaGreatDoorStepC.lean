/-
  A call met by its contract as a step law of a region that draws its order. No program is named here.
-/
import Derived.Test.YtkngjgblfappoaaGreatDoorMem4
import Derived.Deep.RegionLaw
namespace Go.Proofs.YtkngjgblfappoaaGreatDoor

theorem step_call {P : Program} {ops : Array Oper} {o : Oper} {a : Act} {K : Act → World → Prop} {Q : Exit → Act → World → Prop} {E : Prop} {w : World} (f : FuncId) (args : Array Value) (R : Ending → World → Prop)
    (hgd : o.guard = none) (hop : (execOp a.eval o).run P w = .ok (.enter f args) w) (h : Calls P f args w R) (hK : ∀ e w', R e w' → ∃ v, e = .returned v ∧ K (a.put o.dst v) w') :
    if Region.wanted o (yielded ops a.tmps) = true then Oper.wp P o a w K Q else E := by
  have hw : Region.wanted o (yielded ops a.tmps) = true := by simp [Region.wanted, hgd]
  rw [if_pos hw]
  unfold Oper.wp
  rw [hop, Oper.upon_enter]
  refine h.mono fun e w' hr => ?_
  obtain ⟨v, rfl, hk⟩ := hK e w' hr
  exact hk
theorem own_mono {w : World} {base base' n k : Nat} {e : TypeId} {v : Value} {xs : List Value} (h : w.ownsRow base e k v n xs) (hb : base' ≤ base) : w.ownsRow base' e k v n xs := by
  refine ⟨h.1, ?_⟩
  rcases h.2 with h | ⟨g, cap, cur, rfl, h1, rest⟩
  · exact .inl h
  · exact .inr ⟨g, cap, cur, rfl, Nat.le_trans hb h1, rest⟩
end Go.Proofs.YtkngjgblfappoaaGreatDoor
