/-
  rialtolaw23.ViewTells, for every input: true; the input reads behind the call as it did. (The listed variable errors.errorType reads as the row lists it.)
-/
import Derived.Test.YtkngjgblfappoaaGreatDoorPBase
import Derived.Test.YtkngjgblfappoaaGreatDoorArgsT
namespace Go.Proofs.YtkngjgblfappoaaGreatDoor
open Go.ChangeShapes Go.WideShapes Go.RowKit

set_option maxRecDepth 100000 in
theorem tellsLifted (os : Os) (started : os.Started) (H : Type) (enc : TypeId × Value → H) :
    ReturnsInHanded {} Tryz.checked os 5 .any (fun w args => (Rows.viewTellsSpec.pre enc Tryz.prog Tryz.f5 [] false w args ∧ laidMetH Tryz.prog tzLaid w) ∧ sizedMet enc Tryz.prog Tryz.f5 (OpenSpec.ofChange Rows.viewTellsSpec) false w args)
      (Rows.viewTellsSpec.post enc Tryz.prog Tryz.f5 false true false false) := by
  refine returnsInHanded_of_change_and (C := Tryz.checked) (X := fun w _ => laidMetH Tryz.prog tzLaid w) (fun _ _ _ hh h => h.of_heap hh) tzOwn started (by kernel_rfl) Tryz.func5
    (ChangeSpec.witness_at (enc := enc) (C := Tryz.checked) (os := os) (X := fun w _ => laidMetH Tryz.prog tzLaid w) false (laidWorld os) #[.slice none 0 0, .slice none 0 0, .slice none 0 0] 8 rfl (by kernel_rfl) (by kernel_rfl) (by kernel_rfl) (by kernel_rfl) (by kernel_rfl) (laidWorld_met os _)) ?_
  intro W base args ds gs before hval0 hW _ _ hL _
  have hval : ∀ (j : Nat) t v, Tryz.f5.params[j]? = some t → args[j]? = some v → Value.okWide Tryz.prog W .any base t v := hval0
  have hW' := hW
  obtain ⟨p, q, hA0, hV0, rfl, hfz, hnd⟩ := hW
  have hA : DataW.TrodAll enc Tryz.prog W 0 (fun _ => true) true Tryz.f5.params.toList args.toList ds p := hA0
  have hV : DataW.TrodVars enc Tryz.prog W (fun _ => true) [] gs q := hV0
  rw [Tryz.params5] at hA hval
  obtain ⟨v0, vs0, d0, ds0, p0, q0, hargs, rfl, rfl, h0, r0⟩ := trodAll_cons hA
  obtain ⟨v1, vs1, d1, ds1, p1, q1, rfl, rfl, rfl, h1, r1⟩ := trodAll_cons r0
  obtain ⟨v2, vs2, d2, ds2, p2, q2, rfl, rfl, rfl, h2, r2⟩ := trodAll_cons r1
  obtain ⟨rfl, rfl, rfl⟩ := trodAll_nil r2
  have hargs' : args = #[v0, v1, v2] := Array.ext' hargs
  subst hargs'
  obtain ⟨rfl, rfl⟩ : gs = [] ∧ q = [] := by
    cases gs with
    | nil => exact ⟨rfl, hV⟩
    | cons g r => exact absurd hV (by intro h; cases h)
  have hlt : ∀ x ∈ p0 ++ (p1 ++ (p2 ++ [])) ++ [], x.block < W.heap.size := fun x hx => by simpa using hW'.lt x hx
  have k0 := h0
  have k1 := h1
  have k2 := h2
  obtain ⟨A, n, c, rfl⟩ := okWide_slice Tryz.underlying67 (hval 0 67 v0 rfl rfl)
  obtain ⟨Ah, K, hc, rfl⟩ := okWide_slice Tryz.underlying68 (hval 1 68 v1 rfl rfl)
  obtain ⟨Ar, R, rc, rfl⟩ := okWide_slice Tryz.underlying52 (hval 2 52 v2 rfl rfl)
  obtain ⟨u0, g0⟩ := h0
  obtain ⟨u1, g1⟩ := h1
  obtain ⟨u2, g2⟩ := h2
  obtain ⟨chs, cl, cr, ci⟩ := openChanges (A := A) (n := n) (c := c) g0
  obtain ⟨hs, hl, hr, _⟩ := openInts (A := Ah) (n := K) (c := hc) Tryz.underlying68 Tryz.underlying3 cInt g1
  obtain ⟨zs, zl, zr, zw⟩ := openInts (A := Ar) (n := R) (c := rc) Tryz.underlying52 Tryz.underlying5 (by kernel_rfl) g2
  have hT : TellsIn W A n chs Ah K hs Ar R (zs.map Int.toNat) := by
    refine ⟨cl, cr, ci, hl, hr, by rw [List.length_map]; exact zl, ?_, ?_, laid_of_met hL⟩
    · rw [List.map_map]
      have e : zs.map ((fun (r : Nat) => Value.int .u8 r) ∘ Int.toNat) = zs.map (Value.int .u8) := by
        refine List.map_congr_left fun z hz => ?_
        have := Go.bounds_u8 (zw z hz)
        show Value.int .u8 ((z.toNat : Nat) : Int) = _
        congr 1
        omega
      rw [e]; exact zr
    · intro r hr
      obtain ⟨z, hz, rfl⟩ := List.mem_map.1 hr
      have := Go.bounds_u8 (zw z hz)
      omega
  have e1 : Rows.viewTellsSpec.fn H ([d0, d1, d2] ++ []) = { results := [.lit (.bool true)], args := [d0, d1, d2] } := rfl
  refine (viewTells A n c chs Ah K hc hs Ar R rc (zs.map Int.toNat) W hT).mono fun e W' ⟨he, hk⟩ => ?_
  subst he
  have bel := hk.below
  refine ⟨_, rfl, _, _, _, [], p0 ++ (p1 ++ (p2 ++ [])), [], hW', ?_, ?_, ?_, bel.frame _, fun h => by cases h⟩
  · rw [e1]; exact trodAll_mk1 (shut_bool Tryz.underlying4 true)
  · rw [e1]
    exact trodAll_cons_mk (Below.trod tzLaidOut (by kernel_rfl) (of_decide_eq_true (by kernel_rfl)) k0 bel (fun x hx => hlt x (by simp [hx]))) (trodAll_cons_mk (Below.trod tzLaidOut (by kernel_rfl) (of_decide_eq_true (by kernel_rfl)) k1 bel (fun x hx => hlt x (by simp [hx]))) (trodAll_cons_mk (Below.trod tzLaidOut (by kernel_rfl) (of_decide_eq_true (by kernel_rfl)) k2 bel (fun x hx => hlt x (by simp [hx]))) trodAll_mk0))
  · rw [e1]; rfl

set_option maxHeartbeats 4000000 in
theorem tellsFacts : joinedFacts Tryz.prog 5 Tryz.f5 Rows.viewTellsSpec Rows.viewTellsRow = true := by
  unfold joinedFacts
  simp only [Bool.and_eq_true]
  repeat' apply And.intro
  all_goals (as_aux_lemma => kernel_rfl)
theorem tellsName : Tryz.prog.funcNamed "rialto/rialtolaw23.ViewTells" = some 5 := by kernel_rfl

set_option maxHeartbeats 4000000 in
theorem viewTells_row : Rows.ViewTellsSaid :=
  OpenClaim.holds_of_wide 5 Tryz.f5 rfl rfl rfl rfl rfl rfl rfl ⟨rfl, rfl, rfl, rfl, rfl⟩ rfl rfl rfl rfl rfl tellsName Tryz.func5 tellsFacts
    (of_decide_eq_true (by kernel_rfl)) (by unfold Func.isWrapper; rw [if_neg (of_decide_eq_false (by kernel_rfl))]; exact ⟨rfl, rfl⟩)
    (fun os started H enc _ => tellsLifted os started H enc)
end Go.Proofs.YtkngjgblfappoaaGreatDoor
