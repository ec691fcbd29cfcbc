/-
  rialtolaw23.ViewGoing, for every input: true; the input reads behind the call as it did. (The listed variable errors.errorType reads as the row lists it.)
-/
import Derived.Test.YtkngjgblfappoaaGreatDoorRows
import Derived.Test.YtkngjgblfappoaaGreatDoorLaw23C
import Derived.ChangeSame
import Derived.ChangeVars
import Derived.ChangeSlices
import Derived.JoinedOf
import Derived.RowKit
import Derived.RowKitTokens
import Derived.LaidLaws
import Derived.LaidHandle
import Derived.Stop.Joined
import Derived.Carry
import Derived.ProofKit
import Derived.OpenShut
namespace Go.Proofs.YtkngjgblfappoaaGreatDoor
open Go.ChangeShapes Go.WideShapes Go.RowKit

theorem tzOwn : ownKnob Tryz.prog.godebug = none := by kernel_rfl
theorem tzLaidOut : laidOutB Tryz.prog = true := by kernel_rfl

/-- A world that meets the condition: the settled one, the variable's cell laid. -/
noncomputable def laidWorld (os : Os) : World :=
  let w0 := World.holding Tryz.prog os ⟨#[], #[], []⟩
  { w0 with heap := w0.heap.modify 0 fun
      | .cells _ t frozen => .cells #[.iface 263 (.agg #[typeHandle Tryz.prog 43])] t frozen
      | o => o }
theorem laidWorld_met (os : Os) (args : Array Value) : laidMetH Tryz.prog [("errors.errorType", Rows.laid_errors_errorType)] ((laidWorld os).forCall (fun _ _ => 0) ⟨#[], args, []⟩).memory :=
  laidMetH_of_parts (laidMet_nil _ _) (by kernel_rfl)

set_option maxRecDepth 100000 in
theorem goingLifted (os : Os) (started : os.Started) (H : Type) (enc : TypeId × Value → H) :
    ReturnsInHanded {} Tryz.checked os 4 .any (fun w args => (Rows.viewGoingSpec.pre enc Tryz.prog Tryz.f4 [] false w args ∧ laidMetH Tryz.prog [("errors.errorType", Rows.laid_errors_errorType)] w) ∧ sizedMet enc Tryz.prog Tryz.f4 (OpenSpec.ofChange Rows.viewGoingSpec) false w args)
      (Rows.viewGoingSpec.post enc Tryz.prog Tryz.f4 false true false false) := by
  refine returnsInHanded_of_change_and (C := Tryz.checked) (X := fun w _ => laidMetH Tryz.prog [("errors.errorType", Rows.laid_errors_errorType)] w) (fun _ _ _ hh h => h.of_heap hh) tzOwn started (by kernel_rfl) Tryz.func4
    (ChangeSpec.witness_at (enc := enc) (C := Tryz.checked) (os := os) (X := fun w _ => laidMetH Tryz.prog [("errors.errorType", Rows.laid_errors_errorType)] w) false (laidWorld os) #[.int .u8 0, .int .u8 0, .slice none 0 0] 8 rfl (by kernel_rfl) (by kernel_rfl) (by kernel_rfl) (by kernel_rfl) (by kernel_rfl) (laidWorld_met os _)) ?_
  intro W base args ds gs before hval0 hW _ _ hL _
  have hval : ∀ (j : Nat) t v, Tryz.f4.params[j]? = some t → args[j]? = some v → Value.okWide Tryz.prog W .any base t v := hval0
  have hW' := hW
  obtain ⟨p, q, hA0, hV0, rfl, hfz, hnd⟩ := hW
  have hA : DataW.TrodAll enc Tryz.prog W 0 (fun _ => true) true Tryz.f4.params.toList args.toList ds p := hA0
  have hV : DataW.TrodVars enc Tryz.prog W (fun _ => true) [] gs q := hV0
  rw [Tryz.params4] at hA hval
  obtain ⟨v0, vs0, d0, ds0, p0, q0, hargs, rfl, rfl, h0, r0⟩ := trodAll_cons hA
  obtain ⟨v1, vs1, d1, ds1, p1, q1, rfl, rfl, rfl, h1, r1⟩ := trodAll_cons r0
  obtain ⟨v2, vs2, d2, ds2, p2, q2, rfl, rfl, rfl, h2, r2⟩ := trodAll_cons r1
  obtain ⟨rfl, rfl, rfl⟩ := trodAll_nil r2
  have hargs' : args = #[v0, v1, v2] := Array.ext' hargs
  subst hargs'
  obtain ⟨rfl, rfl⟩ : gs = [] ∧ q = [] := by
    cases gs with
    | nil => exact ⟨rfl, hV⟩
    | cons g r => exact absurd hV (by intro h; cases h)
  have hlt : ∀ x ∈ p0 ++ (p1 ++ (p2 ++ [])) ++ [], x.block < W.heap.size := fun x hx => by simpa using hW'.lt x hx
  have k0 := h0
  have k1 := h1
  have k2 := h2
  obtain ⟨n, rfl, rfl, rfl, wn⟩ := open_int Tryz.underlying5 (hval 0 5 v0 rfl rfl) h0
  obtain ⟨a, rfl, rfl, rfl, wa⟩ := open_int Tryz.underlying5 (hval 1 5 v1 rfl rfl) h1
  obtain ⟨A, len, cap, rfl⟩ := okWide_slice Tryz.underlying52 (hval 2 52 v2 rfl rfl)
  obtain ⟨fuel, hf⟩ := h2
  have hwf : ∀ z : Int, (Lit.int .u8 z).wf = true → ∃ o : Nat, z = o ∧ o < 256 := by
    intro z hz
    have := Go.bounds_u8 hz
    exact ⟨z.toNat, by omega, by omega⟩
  obtain ⟨n', rfl, hn⟩ := hwf n wn
  obtain ⟨a', rfl, ha⟩ := hwf a wa
  have hos : ∃ os : List Nat, os.length = len ∧ (∀ (i o : Nat), os[i]? = some o → ∃ a, A = some a ∧ W.cell? (a.add i) = some (.int .u8 o)) ∧ ∀ o, o ∈ os → o < 256 := by
    rcases open_ints Tryz.underlying52 Tryz.underlying5 (by kernel_rfl) hf with ⟨hcs, _⟩ | ⟨ad, ln, cp, zs, hcs, _, hlc, _, hzl, _, hcell, hzw⟩
    · simp [Value.cells] at hcs
      obtain ⟨rfl, rfl, rfl⟩ := hcs
      exact ⟨[], rfl, by simp, by simp⟩
    · simp [Value.cells] at hcs
      obtain ⟨rfl, rfl, rfl⟩ := hcs
      simp at hzl
      refine ⟨(zs.take len).map Int.toNat, by simp; omega, fun i o hi => ⟨ad, rfl, ?_⟩, fun o ho => ?_⟩
      · rw [List.getElem?_map, List.getElem?_take] at hi
        split at hi
        · rename_i hil
          have hlt2 : i < zs.length := by omega
          rw [List.getElem?_eq_getElem hlt2] at hi
          have hz := hzw zs[i] (List.getElem_mem hlt2)
          have hb := Go.bounds_u8 hz
          have hc := hcell i hlt2
          rw [List.getD_eq_getElem?_getD, List.getElem?_eq_getElem hlt2] at hc
          have ho : zs[i].toNat = o := by simpa using hi
          have hzo : zs[i] = (o : Int) := by omega
          rw [hc]
          simp [hzo]
        · cases hi
      · obtain ⟨z, hz, rfl⟩ := List.mem_map.1 ho
        have := Go.bounds_u8 (hzw z (List.mem_of_mem_take hz))
        omega
  obtain ⟨os', ho1, ho2, ho3⟩ := hos
  have e1 : Rows.viewGoingSpec.fn H ([.lit (.int .u8 n'), .lit (.int .u8 a'), d2] ++ []) = { results := [.lit (.bool true)], args := [.lit (.int .u8 n'), .lit (.int .u8 a'), d2] } := rfl
  refine (viewGoing n' a' A len cap os' W hn ha ho1 ho2 ho3).mono fun e W' ⟨he, hk⟩ => ?_
  subst he
  have bel := hk.below
  refine ⟨_, rfl, _, _, _, [], [] ++ ([] ++ (p2 ++ [])), [], hW', ?_, ?_, ?_, bel.frame _, fun h => by cases h⟩
  · rw [e1]; exact trodAll_mk1 (shut_bool Tryz.underlying4 true)
  · rw [e1]
    exact trodAll_cons_mk (Below.trod tzLaidOut (by kernel_rfl) (of_decide_eq_true (by kernel_rfl)) k0 bel (fun x hx => by cases hx)) (trodAll_cons_mk (Below.trod tzLaidOut (by kernel_rfl) (of_decide_eq_true (by kernel_rfl)) k1 bel (fun x hx => by cases hx)) (trodAll_cons_mk (Below.trod tzLaidOut (by kernel_rfl) (of_decide_eq_true (by kernel_rfl)) k2 bel (fun x hx => hlt x (by simp [hx]))) trodAll_mk0))
  · rw [e1]; rfl

set_option maxHeartbeats 4000000 in
theorem goingFacts : joinedFacts Tryz.prog 4 Tryz.f4 Rows.viewGoingSpec Rows.viewGoingRow = true := by
  unfold joinedFacts
  simp only [Bool.and_eq_true]
  repeat' apply And.intro
  all_goals (as_aux_lemma => kernel_rfl)
theorem goingName : Tryz.prog.funcNamed "rialto/rialtolaw23.ViewGoing" = some 4 := by kernel_rfl

set_option maxHeartbeats 4000000 in
theorem viewGoing_row : Rows.ViewGoingSaid :=
  OpenClaim.holds_of_wide 4 Tryz.f4 rfl rfl rfl rfl rfl rfl rfl ⟨rfl, rfl, rfl, rfl, rfl⟩ rfl rfl rfl rfl rfl goingName Tryz.func4 goingFacts
    (of_decide_eq_true (by kernel_rfl)) (by unfold Func.isWrapper; rw [if_neg (of_decide_eq_false (by kernel_rfl))]; exact ⟨rfl, rfl⟩)
    (fun os started H enc _ => goingLifted os started H enc)
end Go.Proofs.YtkngjgblfappoaaGreatDoor
