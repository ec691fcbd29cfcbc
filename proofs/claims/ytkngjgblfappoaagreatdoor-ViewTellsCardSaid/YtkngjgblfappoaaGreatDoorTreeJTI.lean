/-
  The counted tree: EraseAt.
-/
import Derived.Test.YtkngjgblfappoaaGreatDoorTreeFTI
import Derived.Test.YtkngjgblfappoaaGreatDoorTreeITI
namespace Go.Proofs.YtkngjgblfappoaaGreatDoor
open Go.RowKit (Below intOf Hid)

/-- How many nodes there are below one. -/
def degTI : (h : Nat) → Tr Int h → Nat
  | 0, _ => 0
  | _ + 1, t => (Tr.kids t).length
theorem node_degTI {F : Nat → Prop} {w : World} : ∀ {h p : Nat} {tr : Tr Int h}, NodeIn LTI F w h p tr → ∃ A c, w.cell? ⟨p, 1, none⟩ = some (.slice A (degTI h tr) c)
  | 0, _, _, ⟨_, _, hb, _⟩ => ⟨none, 0, hb.cell 1⟩
  | _ + 1, _, _, ⟨A, c, _, hb, _⟩ => ⟨A, c, hb.cell 1⟩
theorem deg_okTI {h lo : Nat} {tr : Tr Int h} (o : Tr.Ok lo h tr) (hlo : 2 ≤ lo) : ((degTI h tr : Int) == 1) = false := by
  cases h with
  | zero => rfl
  | succ h =>
    have : lo ≤ (Tr.kids tr).length := o.1
    have hd : degTI (h + 1) tr = (Tr.kids tr).length := rfl
    rw [hd]
    simp
    omega

set_option maxRecDepth 100000 in
set_option maxHeartbeats 3200000 in
theorem eraseAtTI (t i : Nat) (l : List Int) (x : Int) (w : World) (ht : TreeTI w t l) (hx : l[i]? = some x) (hB : l.length ≤ 900000) :
    Calls Tryz.prog 169 #[ptr t, .int .i64 i] w fun e w' => e = .returned (.tuple #[(.int .i64 x), .int .i64 0]) ∧ TreeTI w' t (l.take i ++ l.drop (i + 1)) ∧ Keeps [t] w w' := by
  have hat := at_yesTI t i l x w ht hx (by omega)
  have hil := (List.getElem?_eq_some_iff.1 hx).1
  obtain ⟨root, hd, hr⟩ := treeTI_hd.1 ht
  have r0 := hd.root
  rcases hr with ⟨rfl, rfl⟩ | ⟨h, p, tr, rfl, hn, ho, hl⟩
  · simp at hx
  · have hera := erasedTI t (ptr p) h (if h = 0 then 1 else 2) p i tr _ w (fun h0 => by rw [if_neg (by omega)]; omega) hd hn ho (by rw [← hl]; exact hil) (by rw [← hl]; omega)
    have Hl := Lib.hid hl
    have Hat := Lib.hid hat
    have Hera0 := Lib.hid hera
    have Ho := Lib.hid ho
    clear hat hx hl hera ho hn ht
    go_enter Tryz.func169, Tryz.ntmps169
    go_wp2_with (first
      | (go_at_call 214; refine Hat.out.mono ?_; rintro e w1 ⟨rfl, rfl⟩)
      | (go_at_call 215
         refine Hera0.out.mono ?_
         rintro e w1 ⟨q, tr', rfl, hn1, hera, hd1, hk1⟩
         have rt1 := hd1.root
         have rf1 := hd1.free 0))
    have hs1 := hd1.store (v := ptr q)
    have K1 : Keeps [t] w1 (w1.setCell ⟨t, 0, none⟩ (ptr q)) := (Keeps.refl _ _).setCell (.inl (by simp)) _
    generalize w1.setCell ⟨t, 0, none⟩ (ptr q) = w2 at *
    have K2 : Keeps [t] w w2 := hk1.trans K1 (fun b hb => .inl hb)
    have hn2 := hn1.keep K1 hd1.noTags
    have rt2 := hs1.root
    have rf2 := hs1.free 0
    have hc2 := hn2.count
    obtain ⟨A2, c2, hdeg2⟩ := node_degTI hn2
    have hfl : l.take i ++ l.drop (i + 1) = Tr.flat h tr' := by rw [hera.flat_eq, Hl.out]
    have Hfl := Lib.hid hfl
    have Hok := Lib.hid hera.ok
    clear hfl hera
    by_cases hd1' : degTI h tr' = 1
    · -- one node below: it is the root
      have b1 : ((degTI h tr' : Int) == 1) = true := by rw [hd1']; rfl
      cases h with
      | zero => exact absurd hd1' (by simp [degTI])
      | succ h =>
        have hd1'' : (Tr.kids tr').length = 1 := hd1'
        obtain ⟨u, hu⟩ : ∃ u, Tr.kids tr' = [u] := List.length_eq_one_iff.1 hd1''
        have hn2' := hn2
        obtain ⟨A3, c3, ps, hb3, hr3, _, hall3, _, _⟩ := hn2
        rw [hd1''] at hr3
        have hdeg3 : w2.cell? ⟨q, 1, none⟩ = some (.slice A3 1 c3) := by have := hb3.cell 1; rw [hd1''] at this; exact this
        obtain ⟨g, off, rfl, _, hcell⟩ := hr3.addr (by omega)
        obtain ⟨q1, hq1, hnq1⟩ := hall3.get (i := 0) (t := u) (by rw [hu]; rfl)
        have e1 : w2.cell? ⟨g, off, none⟩ = some (ptr q1) := hcell 0 _ (by rw [List.getElem?_map, hq1]; rfl)
        have hokU : Tr.Ok 4 h u := Hok.out.2.2 u (by rw [hu]; simp)
        have hs3 := hs1.store (v := ptr q1)
        have K3 : Keeps [t] w2 (w2.setCell ⟨t, 0, none⟩ (ptr q1)) := (Keeps.refl _ _).setCell (.inl (by simp)) _
        have hn3 := hnq1.keep K3 hs1.noTags
        have hfu : l.take i ++ l.drop (i + 1) = Tr.flat h u := by
          rw [Hfl.out]
          show (Tr.kids tr').flatMap (Tr.flat h) = _
          rw [hu]; simp
        have hfg := hokU.flat_ge
        have bz : (((Tr.flat h u).length : Int) == 0) = false := by rw [beq_eq_false_iff_ne]; omega
        have bd := deg_okTI hokU (by omega)
        have rt3 := hs3.root
        have hc3 := hn3.count
        obtain ⟨A4, c4, hdeg4⟩ := node_degTI hn3
        have Hfu := Lib.hid hfu
        have Hu := Lib.hid hu
        have HokU := Lib.hid hokU
        clear hfu hu hokU hdeg2 hd1' b1 hd1'' hq1 hcell hr3 hall3 Hok Hfl hc2
        refine wp_loop_rounds 2 ?_
        rw [rounds_succ]
        go_wp2
        rw [rounds_succ]
        go_wp2
        go_ret2
        refine ⟨rfl, treeTI_hd.2 ⟨_, hs3, .inr ⟨h, q1, u, rfl, hn3.at_, ?_, Hfu.out⟩⟩, K2.trans K3 (fun b hb => .inl hb)⟩
        have := HokU.out.size_ge
        exact HokU.out.with (by split <;> omega)
    · have b1 : ((degTI h tr' : Int) == 1) = false := by simp; omega
      refine wp_loop_rounds 1 ?_
      rw [rounds_succ]
      by_cases hz : (Tr.flat h tr').length = 0
      · have b2 : (((Tr.flat h tr').length : Int) == 0) = true := by simp [hz]
        go_wp2
        go_ret2
        exact ⟨rfl, treeTI_hd.2 ⟨_, hs1.store, (Or.inl ⟨rfl, by rw [Hfl.out]; exact List.eq_nil_of_length_eq_zero hz⟩)⟩, K2.setCell (.inl (by simp)) _⟩
      · have b2 : (((Tr.flat h tr').length : Int) == 0) = false := by rw [beq_eq_false_iff_ne]; omega
        go_wp2
        go_ret2
        refine ⟨rfl, treeTI_hd.2 ⟨_, hs1, .inr ⟨h, q, tr', rfl, hn2.at_, ?_, Hfl.out⟩⟩, K2⟩
        cases h with
        | zero => exact Hok.out.with (by have : 0 < (Tr.els tr').length := Nat.pos_of_ne_zero hz; exact this)
        | succ h =>
          have h1 : 2 - 1 ≤ (Tr.kids tr').length := Hok.out.1
          have h2 : degTI (h + 1) tr' = (Tr.kids tr').length := rfl
          exact Hok.out.with (show 2 ≤ (Tr.kids tr').length by omega)
end Go.Proofs.YtkngjgblfappoaaGreatDoor
