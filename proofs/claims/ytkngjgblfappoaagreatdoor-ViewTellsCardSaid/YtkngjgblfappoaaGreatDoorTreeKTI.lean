/-
  The counted tree: gathers, Slice.
-/
import Derived.Test.YtkngjgblfappoaaGreatDoorTreeHTI
import Derived.Lib.MinMax
namespace Go.Proofs.YtkngjgblfappoaaGreatDoor
open Go.RowKit (Below intOf Hid)

/-- The elements from one place on up to another one. -/
def prtTI (l : List Int) (f t : Int) : List Int := (l.take t.toNat).drop f.toNat
theorem prtTI_append (a b : List Int) (f t : Int) : prtTI (a ++ b) f t = prtTI a f t ++ prtTI b (f - a.length) (t - a.length) := by
  unfold prtTI
  have e1 : (t - (a.length : Int)).toNat = t.toNat - a.length := by omega
  have e2 : (f - (a.length : Int)).toNat = f.toNat - a.length := by omega
  rw [e1, e2, List.take_append, List.drop_append, List.length_take]
  by_cases h : a.length ≤ t.toNat
  · rw [Nat.min_eq_right h]
  · have : t.toNat - a.length = 0 := by omega
    simp [this]
theorem prtTI_none (l : List Int) (f t : Int) (h : ¬ (f < l.length ∧ 0 < t)) : prtTI l f t = [] := by
  unfold prtTI
  rw [List.drop_eq_nil_iff, List.length_take]
  omega
theorem prtTI_nil (f t : Int) : prtTI [] f t = [] := by simp [prtTI]
theorem prtTI_len (l : List Int) (f t : Int) : (prtTI l f t).length ≤ l.length := by
  unfold prtTI
  rw [List.length_drop, List.length_take]
  omega

/-- What gathers answers. -/
def GathTI (B : Nat) (A : Option Addr) (n c : Nat) (ys : List Int) (w : World) (e : Ending) (w' : World) : Prop :=
  ∃ A' n' c', e = .returned (.slice A' n' c') ∧ ys.length = n' ∧ w'.ownsRow B 2 1 (.slice A' n' c') n' (LTI.cells ys) ∧ Keeps (obs (.slice A n c)) w w' ∧ ∀ b, b ∈ obs (.slice A' n' c') → b ∈ obs (.slice A n c) ∨ w.heap.size ≤ b

set_option maxRecDepth 100000 in
set_option maxHeartbeats 1600000 in
theorem gathers_leafTI (B p lo : Nat) (tr : Tr Int 0) (A : Option Addr) (n c : Nat) (xs : List Int) (f t : Int) (w : World) (hn : NodeIn LTI (fun b => b < B) w 0 p tr) (ho : Tr.Ok lo 0 tr) (hlo : 1 ≤ lo) (hB : B ≤ w.heap.size)
    (hl : xs.length = n) (hown : w.ownsRow B 2 1 (.slice A n c) n (LTI.cells xs)) (hft : f ≤ t) (h1 : f ≤ (Tr.els tr).length) (h2 : 0 ≤ t) (hn2 : n ≤ 1000000) :
    Calls Tryz.prog 184 #[ptr p, .slice A n c, .int .i64 f, .int .i64 t] w (GathTI B A n c (xs ++ prtTI (Tr.els tr) f t) w) := by
  obtain ⟨i0, hi0, hz0, hz1, hz2⟩ := info_parts infoInt
  obtain ⟨A2, c2, hb, hr, hc, hpB, _⟩ := hn
  have h8 : (Tr.els tr).length ≤ 8 := ho.2
  have h01 : lo ≤ (Tr.els tr).length := ho.1
  have hx1 := LTI.cells1 xs
  generalize hm : (Tr.els tr).length = m at *
  have c0 : w.cell? ⟨p, 0, none⟩ = some (.slice A2 m c2) := hb.cell 0
  have c1 : w.cell? ⟨p, 1, none⟩ = some (.slice none 0 0) := hb.cell 1
  obtain ⟨a, hmax, ha⟩ : ∃ a : Nat, max f 0 = (a : Int) ∧ a = f.toNat := ⟨_, by omega, rfl⟩
  obtain ⟨b, hmin, hbb⟩ : ∃ b : Nat, min t (m : Int) = (b : Int) ∧ b = min t.toNat m := ⟨_, by omega, rfl⟩
  have hab : a ≤ b := by omega
  have hbm : b ≤ m := by omega
  have hp : (LTI.cells (prtTI (Tr.els tr) f t)) = ((LTI.cells (Tr.els tr)).take (b * 1)).drop (a * 1) := by
    have e1 := LTI.cells_take (Tr.els tr) b
    have e2 := LTI.cells_drop ((Tr.els tr).take b) a
    have e3 : prtTI (Tr.els tr) f t = ((Tr.els tr).take b).drop a := by
      unfold prtTI
      rw [hbb, ← ha]
      by_cases hh : t.toNat ≤ m
      · rw [Nat.min_eq_left hh]
      · rw [Nat.min_eq_right (by omega), List.take_of_length_le (by omega), List.take_of_length_le (by omega)]
    rw [e3, ← e2, ← e1]
    rfl
  have hlp : (xs ++ prtTI (Tr.els tr) f t).length = n + (b - a) := by
    rw [List.length_append, hl]
    unfold prtTI
    rw [List.length_drop, List.length_take, hm]
    omega
  obtain ⟨g, off, rfl, hgl, _⟩ := hr.addr (by omega)
  have hrc : Rd w 2 1 (if c2 = a then some ⟨g, off, none⟩ else some ⟨g, off + a, none⟩) (b - a) (LTI.cells (prtTI (Tr.els tr) f t)) := by
    have h := (hr.take hbm).cut (m := a) (cap := c2) hab (by omega)
    rw [hp]
    by_cases hca : c2 = a
    · rw [if_pos hca] at h ⊢; exact h
    · rw [if_neg hca] at h ⊢
      have e : (some ⟨g, off, none⟩ : Option Addr).map (fun x => x.add (a * LTI.k)) = some ⟨g, off + a, none⟩ := by simp [LTI, add_lit]
      rw [e] at h
      exact h
  have hpo : p ∉ obs (.slice A n c) := fun h => by have := (own_base hown h).1; omega
  have a0 : (0 : Int) ≤ a := by omega
  have a1 : (a : Int) ≤ b := by omega
  have a2 : (b : Int) ≤ m := by omega
  have a3 : (b : Int) ≤ c2 := by omega
  have a4 : (a : Int) ≤ c2 := by omega
  have a5 : (m : Int) ≤ c2 := by omega
  have a6 : (0 : Int) ≤ b := by omega
  have Hp := Lib.hid hp
  have Hlp := Lib.hid hlp
  have Hl := Lib.hid hl
  clear hp hlp hl ha hbb hm h1 h2 hft hr
  have hfin : ∀ (v' : Value) (w' : World), w'.ownsRow B 2 1 v' (n + (b - a)) (LTI.cells xs ++ LTI.cells (prtTI (Tr.els tr) f t)) → w.drew.grownBy w' (Value.slice A n c).ownBlock → (v'.ownBlock = (Value.slice A n c).ownBlock ∨ v'.ownBlock = some w.drew.heap.size) →
      ∃ A' c', v' = .slice A' (n + (b - a)) c' ∧ w'.ownsRow B 2 1 (.slice A' (n + (b - a)) c') (n + (b - a)) (LTI.cells (xs ++ prtTI (Tr.els tr) f t)) ∧ Keeps (obs (.slice A n c)) w w' ∧ ∀ b', b' ∈ obs (.slice A' (n + (b - a)) c') → b' ∈ obs (.slice A n c) ∨ w.heap.size ≤ b' := by
    intro v' w' ho hg hv
    obtain ⟨A', c', rfl, _, _⟩ := own_form ho
    refine ⟨A', c', rfl, by rw [LTI.cells_append]; exact ho, Keeps.of_drew (keeps_grown hg), fun b' hb' => ?_⟩
    unfold obs at hb' ⊢
    rcases hv with hv | hv
    · left; rw [← hv]; exact hb'
    · right; rw [hv] at hb'; simp at hb'; subst hb'; exact Nat.le_refl _
  by_cases hca : c2 = a
  · rw [if_pos hca] at hrc
    obtain rfl : b = a := by omega
    obtain rfl : m = b := by omega
    obtain rfl : c2 = m := by omega
    simp only [Nat.sub_self, Nat.add_zero] at hrc hfin ⊢
    have Hrc := Lib.hid hrc
    clear hrc hca a3 a4 a5 a1 a2
    go_enter Tryz.func184, Tryz.ntmps184
    go_wp2_with fail
    go_region_held3 (fun w' => w'.cell? ⟨p, 0, none⟩ = some (.slice (some ⟨g, off, none⟩) c2 c2) ∧ Keeps (obs (.slice A n c)) w w')
      (first
        | exact ⟨c0, (Keeps.refl _ _).drew⟩
        | exact ⟨hk1.cell c0 hpo, hk1⟩)
      ((refine step_append_rd _ rfl (.tmp 17) (.tmp 31) _ rfl B 2 i0 _ 1 8 Tryz.underlying74 hi0 hz0 hz1 hz2 rfl (by omega) (.slice A n c) n (LTI.cells xs) rfl hown (some ⟨g, off, none⟩) 0 0 (LTI.cells (prtTI (Tr.els tr) f t)) rfl Hrc.out.drew (by unfold maxLen; omega) (by omega) hB ?_; intro v1 w1 hown1 hg1 hv1; obtain ⟨A', c', rfl, hown2, hk1, hor⟩ := hfin v1 w1 hown1 hg1 hv1))
    all_goals
      go_wp2
      go_ret
      exact ⟨A', _, c', rfl, by rw [Hlp.out]; simp, hown2, hk1, hor⟩
  · rw [if_neg hca] at hrc
    have Hrc := Lib.hid hrc
    clear hrc
    go_enter Tryz.func184, Tryz.ntmps184
    go_wp2_with fail
    go_region_held3 (fun w' => w'.cell? ⟨p, 0, none⟩ = some (.slice (some ⟨g, off, none⟩) m c2) ∧ Keeps (obs (.slice A n c)) w w')
      (first
        | exact ⟨c0, (Keeps.refl _ _).drew⟩
        | exact ⟨hk1.cell c0 hpo, hk1⟩)
      ((refine step_append_rd _ rfl (.tmp 17) (.tmp 31) _ rfl B 2 i0 _ 1 8 Tryz.underlying74 hi0 hz0 hz1 hz2 rfl (by omega) (.slice A n c) n (LTI.cells xs) rfl hown (some ⟨g, off + a, none⟩) (b - a) (c2 - a) (LTI.cells (prtTI (Tr.els tr) f t)) rfl Hrc.out.drew (by unfold maxLen; omega) (by omega) hB ?_; intro v1 w1 hown1 hg1 hv1; obtain ⟨A', c', rfl, hown2, hk1, hor⟩ := hfin v1 w1 hown1 hg1 hv1))
    all_goals
      go_wp2
      go_ret
      exact ⟨A', _, c', rfl, Hlp.out, hown2, hk1, hor⟩

theorem node_FTI {F : Nat → Prop} {w : World} : ∀ {h p : Nat} {tr : Tr Int h}, NodeIn LTI F w h p tr → F p
  | 0, _, _, ⟨_, _, _, _, _, hp, _⟩ => hp
  | _ + 1, _, _, ⟨_, _, _, _, _, _, _, hp, _⟩ => hp

/-- Where gathers' loop stands: behind the first k nodes. -/
structure GatSTI (B : Nat) (A0 : Option Addr) (n0 c0 : Nat) (ys : List Int) (A : Option Addr) (n c : Nat) (w wr : World) : Prop where
  own : wr.ownsRow B 2 1 (.slice A n c) n (LTI.cells ys)
  len : ys.length = n
  keeps : Keeps (obs (.slice A0 n0 c0)) w wr
  src : ∀ b, b ∈ obs (.slice A n c) → b ∈ obs (.slice A0 n0 c0) ∨ w.heap.size ≤ b
/-- The elements of the first k nodes. -/
def fstTI {h : Nat} (ks : List (Tr Int h)) (k : Nat) : List Int := (ks.take k).flatMap (Tr.flat h)
theorem fstTI_len {h : Nat} (ks : List (Tr Int h)) (k : Nat) : (fstTI ks k).length = cntTI ks k := rfl
theorem fstTI_succ {h : Nat} {ks : List (Tr Int h)} {k : Nat} {u : Tr Int h} (hu : ks[k]? = some u) : fstTI ks (k + 1) = fstTI ks k ++ Tr.flat h u := by
  unfold fstTI
  rw [List.take_add_one, hu]
  simp [List.flatMap_append]
theorem fstTI_all {h : Nat} (ks : List (Tr Int h)) {k : Nat} (hk : ks.length ≤ k) : fstTI ks k = ks.flatMap (Tr.flat h) := by
  unfold fstTI; rw [List.take_of_length_le hk]
def GatRTI {h : Nat} (B : Nat) (A0 : Option Addr) (n0 c0 : Nat) (xs : List Int) (ks : List (Tr Int h)) (f t : Int) (m : Nat) (w : World) (vo vf vt vk : Value) (wr : World) : Prop :=
  ∃ (k : Nat) (A : Option Addr) (n c : Nat), k ≤ m ∧ vk = .int .i64 k ∧ vo = .slice A n c ∧ vf = .int .i64 (f - cntTI ks k) ∧ vt = .int .i64 (t - cntTI ks k) ∧ GatSTI B A0 n0 c0 (xs ++ prtTI (fstTI ks k) f t) A n c w wr

set_option maxRecDepth 100000 in
set_option maxHeartbeats 1600000 in
theorem gathers_innerTI (h B p : Nat) (tr : Tr Int (h + 1)) (A0 : Option Addr) (n0 c0 : Nat) (xs : List Int) (f t : Int) (w : World) (hn : NodeIn LTI (fun b => b < B) w (h + 1) p tr) (ho : Tr.Ok 1 (h + 1) tr) (hB : B ≤ w.heap.size)
    (hl : xs.length = n0) (hown : w.ownsRow B 2 1 (.slice A0 n0 c0) n0 (LTI.cells xs)) (hft : f ≤ t) (f1 : -3000000 + ((Tr.flat (h + 1) tr).length : Int) ≤ f) (f2 : f ≤ 1000000) (t2 : t ≤ 1000000) (hn2 : n0 + (Tr.flat (h + 1) tr).length ≤ 1000000)
    (ih : Hid (∀ (q : Nat) (u : Tr Int h) (A : Option Addr) (n c : Nat) (ys : List Int) (f t : Int) (w1 : World), NodeIn LTI (fun b => b < B) w1 h q u → Tr.Ok 1 h u → B ≤ w1.heap.size → ys.length = n → w1.ownsRow B 2 1 (.slice A n c) n (LTI.cells ys) → f ≤ t → f ≤ (Tr.flat h u).length → 0 ≤ t →
      -3000000 + ((Tr.flat h u).length : Int) ≤ f → f ≤ 1000000 → t ≤ 1000000 → n + (Tr.flat h u).length ≤ 1000000 →
      Calls Tryz.prog 184 #[ptr q, .slice A n c, .int .i64 f, .int .i64 t] w1 (GathTI B A n c (ys ++ prtTI (Tr.flat h u) f t) w1))) :
    Calls Tryz.prog 184 #[ptr p, .slice A0 n0 c0, .int .i64 f, .int .i64 t] w (GathTI B A0 n0 c0 (xs ++ prtTI (Tr.flat (h + 1) tr) f t) w) := by
  obtain ⟨A, c, ps, hb, hr, hc, ha, hpB, hAB⟩ := hn
  have h8 : (Tr.kids tr).length ≤ 8 := ho.2.1
  have h01 : 1 ≤ (Tr.kids tr).length := ho.1
  have hfl : Tr.flat (h + 1) tr = (Tr.kids tr).flatMap (Tr.flat h) := rfl
  generalize hm : (Tr.kids tr).length = m at *
  have Hm := Lib.hid hm
  have Ho := Lib.hid ho
  have Ha := Lib.hid ha
  have Hfl := Lib.hid hfl
  have hz : ((m : Int) == 0) = false := by simp; omega
  have c1 : w.cell? ⟨p, 1, none⟩ = some (.slice A m c) := hb.cell 1
  obtain ⟨g, off, rfl, hgl, hcell⟩ := hr.addr (by omega)
  have hgB : g < B := hAB (by omega) g off rfl
  have hob : ∀ b, b ∈ obs (.slice A0 n0 c0) → B ≤ b := fun b hb => (own_base hown hb).1
  have Hob := Lib.hid hob
  have Hcell := Lib.hid hcell
  have Hl := Lib.hid hl
  have hS : GatSTI B A0 n0 c0 (xs ++ prtTI (fstTI (Tr.kids tr) 0) f t) A0 n0 c0 w w := by
    refine ⟨?_, ?_, Keeps.refl _ _, fun b hb => .inl hb⟩
    · simpa [fstTI, prtTI_nil] using hown
    · simpa [fstTI, prtTI_nil] using hl
  clear hm ho ha hfl hcell hl hob hr
  go_enter Tryz.func184, Tryz.ntmps184
  go_wp2
  go_loopw [1, 2, 3, 38] (fun vo vf vt vk wr => GatRTI B A0 n0 c0 xs (Tr.kids tr) f t m w vo vf vt vk wr) (fun _ _ _ vk _ => m - (intOf vk).toNat)
  case atStart => exact ⟨0, A0, n0, c0, Nat.zero_le _, rfl, rfl, by rw [cntTI_zero]; simp, by rw [cntTI_zero]; simp, hS⟩
  case round =>
    obtain ⟨k, A, n, cc, hk, rfl, rfl, rfl, rfl, hS⟩ := hrel
    have hS' := hS
    obtain ⟨hown', hlen', hkp, hsrc⟩ := hS'
    have Hsrc := Lib.hid hsrc
    have Hlen := Lib.hid hlen'
    have hyb := cntTI_le (Tr.kids tr) k
    rw [← Hfl.out] at hyb
    by_cases hkm : k < m
    · obtain ⟨u, hu⟩ : ∃ u, (Tr.kids tr)[k]? = some u := ⟨_, List.getElem?_eq_getElem (by rw [Hm.out]; exact hkm)⟩
      obtain ⟨q, hq, hnq0⟩ := Ha.out.get hu
      have hnq := hnq0.keepF hkp (fun b hb => .inr (by have := Hob.out b hb; omega))
      have e1 : wr.cell? ⟨g, off + k, none⟩ = some (ptr q) := hkp.cell (Hcell.out k _ (by rw [List.getElem?_map, hq]; rfl)) (fun h => by have := Hob.out _ h; simp at this; omega)
      have e2 := hnq.count
      have hsum := cntTI_succ hu
      have hyb2 := cntTI_le (Tr.kids tr) (k + 1)
      rw [← Hfl.out] at hyb2
      have hfs := fstTI_succ hu
      have hfl2 : (fstTI (Tr.kids tr) k).length = cntTI (Tr.kids tr) k := rfl
      have hpl := prtTI_len (fstTI (Tr.kids tr) k) f t
      have hqB : q < B := node_FTI (F := fun b => b < B) hnq
      have hok : Tr.Ok 1 h u := by
        have h4 := Ho.out.2.2 u (List.mem_of_getElem? hu)
        exact h4.with (by have := h4.size_ge; omega)
      have hnn : n + (Tr.flat h u).length ≤ 1000000 := by
        rw [← hlen', List.length_append, Hl.out]
        omega
      have hp2 := prtTI_append (fstTI (Tr.kids tr) k) (Tr.flat h u) f t
      rw [← hfs, hfl2] at hp2
      have hih := ih.out q u A n cc (xs ++ prtTI (fstTI (Tr.kids tr) k) f t) (f - cntTI (Tr.kids tr) k) (t - cntTI (Tr.kids tr) k) wr hnq hok (by have := hkp.size; omega) hlen' hown' (by omega)
      have hno := prtTI_none (Tr.flat h u) (f - cntTI (Tr.kids tr) k) (t - cntTI (Tr.kids tr) k)
      have Hp2 := Lib.hid hp2
      have Hsum := Lib.hid hsum
      have Hih := Lib.hid hih
      have Hno := Lib.hid hno
      have Hu := Lib.hid hu
      rw [hsum] at hyb2
      clear hu hq hnq0 hnq hfs hfl2 hpl hok hp2 hsum hih hno hlen' hsrc
      generalize hz : (Tr.flat h u).length = z at *
      have Hz := Lib.hid hz
      generalize hy : cntTI (Tr.kids tr) k = y at *
      have Hy := Lib.hid hy
      clear hz hy
      have k0 : (0 : Int) ≤ k := by omega
      have k1 : (k : Int) < m := by omega
      have y0 : (0 : Int) ≤ y := by omega
      by_cases hc1 : f - (y : Int) < z
      · by_cases hc2 : 0 < t - (y : Int)
        · have b1 : decide (f - (y : Int) < z) = true := by simp; omega
          have b2 : decide (0 < t - (y : Int)) = true := by simp; omega
          have hcall := Hih.out (by omega) (by omega) (by omega) (by omega) (by omega) hnn
          go_wp2_with (go_at_call 184; refine hcall.mono ?_; rintro e w2 ⟨A2, n2, c2, rfl, hn2', hown2, hk2, hsrc2⟩; have Hn2 := Lib.hid hn2'; clear hn2'; have e3 := hk2.cell (a := ⟨q, 2, none⟩) e2 (fun (hh : q ∈ _) => by have := (own_base hown' hh).1; omega))
          go_roundw
          case rel =>
            refine ⟨k + 1, A2, n2, c2, by omega, by go_num, rfl, by rw [Hsum.out]; go_num, by rw [Hsum.out]; go_num, ?_⟩
            have he : xs ++ prtTI (fstTI (Tr.kids tr) (k + 1)) f t = xs ++ prtTI (fstTI (Tr.kids tr) k) f t ++ prtTI (Tr.flat h u) (f - y) (t - y) := by rw [Hp2.out, List.append_assoc]
            rw [he]
            refine ⟨hown2, Hn2.out, hkp.trans hk2 Hsrc.out, fun b hb => ?_⟩
            rcases hsrc2 b hb with h | h
            · exact Hsrc.out b h
            · have := hkp.size
              exact .inr (by omega)
          case measure => simp [intOf]; omega
        · have b1 : decide (f - (y : Int) < z) = true := by simp; omega
          have b2 : decide (0 < t - (y : Int)) = false := by simp; omega
          go_wp2
          go_roundw
          case rel =>
            refine ⟨k + 1, A, n, cc, by omega, by go_num, rfl, by rw [Hsum.out]; go_num, by rw [Hsum.out]; go_num, ?_⟩
            rw [Hp2.out, Hno.out (fun h => hc2 h.2), List.append_nil]
            exact hS
          case measure => simp [intOf]; omega
      · have b1 : decide (f - (y : Int) < z) = false := by simp; omega
        go_wp2
        go_roundw
        case rel =>
          refine ⟨k + 1, A, n, cc, by omega, by go_num, rfl, by rw [Hsum.out]; go_num, by rw [Hsum.out]; go_num, ?_⟩
          rw [Hp2.out, Hno.out (fun h => hc1 h.1), List.append_nil]
          exact hS
        case measure => simp [intOf]; omega
    · have k1 : ¬ (k : Int) < m := by omega
      go_wp2
      go_ret
      have hkk : k = m := by omega
      subst hkk
      have he : fstTI (Tr.kids tr) k = Tr.flat (h + 1) tr := by rw [Hfl.out]; exact fstTI_all _ (Nat.le_of_eq Hm.out)
      rw [he] at hown' Hlen
      have hn' := Hlen.out
      subst hn'
      exact ⟨A, _, cc, rfl, rfl, hown', hkp, Hsrc.out⟩

theorem gathersTI (B : Nat) : ∀ (h p : Nat) (tr : Tr Int h) (A : Option Addr) (n c : Nat) (xs : List Int) (f t : Int) (w : World), NodeIn LTI (fun b => b < B) w h p tr → Tr.Ok 1 h tr → B ≤ w.heap.size → xs.length = n → w.ownsRow B 2 1 (.slice A n c) n (LTI.cells xs) → f ≤ t → f ≤ (Tr.flat h tr).length → 0 ≤ t →
      -3000000 + ((Tr.flat h tr).length : Int) ≤ f → f ≤ 1000000 → t ≤ 1000000 → n + (Tr.flat h tr).length ≤ 1000000 →
    Calls Tryz.prog 184 #[ptr p, .slice A n c, .int .i64 f, .int .i64 t] w (GathTI B A n c (xs ++ prtTI (Tr.flat h tr) f t) w)
  | 0, p, tr, A, n, c, xs, f, t, w, hn, ho, hB, hl, hown, hft, h1, h2, _, _, _, hn2 => gathers_leafTI B p 1 tr A n c xs f t w hn ho (Nat.le_refl _) hB hl hown hft h1 h2 (by omega)
  | h + 1, p, tr, A, n, c, xs, f, t, w, hn, ho, hB, hl, hown, hft, _, _, f1, f2, t2, hn2 => gathers_innerTI h B p tr A n c xs f t w hn ho hB hl hown hft f1 f2 t2 hn2
      (fun q u A n c ys f t w1 a1 a2 a3 a4 a5 a6 a7 a8 a9 a10 a11 a12 => gathersTI B h q u A n c ys f t w1 a1 a2 a3 a4 a5 a6 a7 a8 a9 a10 a11 a12)

set_option maxRecDepth 100000 in
set_option maxHeartbeats 800000 in
theorem sliceTI (t : Nat) (f g : Int) (l : List Int) (w : World) (ht : TreeTI w t l) (hB : l.length ≤ 1000000) :
    Calls Tryz.prog 130 #[ptr t, .int .i64 f, .int .i64 g] w fun e w' => ∃ A' n c', e = .returned (.slice A' n c') ∧ w'.ownsRow w.heap.size 2 1 (.slice A' n c') n (LTI.cells (prtTI l f g)) ∧ n = (prtTI l f g).length ∧ Keeps [] w w' := by
  have hlen := lenTI t l w ht
  obtain ⟨root, hd, hr⟩ := treeTI_hd.1 ht
  have r0 := hd.root
  have hl0 : (0 : Int) ≤ l.length := by omega
  by_cases hc : max f 0 < min g (l.length : Int)
  · have b1 : decide (min g (l.length : Int) ≤ max f 0) = false := by simp; omega
    rcases hr with ⟨rfl, rfl⟩ | ⟨h, p, tr, rfl, hn, ho, hl⟩
    · simp at hc; omega
    · have hpr : prtTI l (max f 0) (min g (l.length : Int)) = prtTI l f g := by
        unfold prtTI
        have e1 : (max f 0).toNat = f.toNat := by omega
        rw [e1]
        by_cases hg : g ≤ l.length
        · rw [Int.min_eq_left hg]
        · rw [Int.min_eq_right (by omega), List.take_of_length_le (by omega), List.take_of_length_le (by omega)]
      have hok : Tr.Ok 1 h tr := ho.with (by have := ho.size_ge; split at this <;> omega)
      have hn' : NodeIn LTI (fun b => b < w.heap.size) w h p tr := hn.there.mono fun _ h => h.2
      have hg := gathersTI w.heap.size h p tr none 0 0 [] (max f 0) (min g (l.length : Int)) w hn' hok (Nat.le_refl _) rfl (World.ownsRow_nil _ _ _ _) (by omega) (by rw [← hl]; omega) (by omega) (by rw [← hl]; omega) (by omega) (by omega) (by rw [← hl]; omega)
      rw [← hl, hpr, List.nil_append] at hg
      clear hpr hl hok hn' hn ho
      obtain ⟨a, hmax⟩ : ∃ a, max f 0 = a := ⟨_, rfl⟩
      obtain ⟨b, hmin⟩ : ∃ b, min g (l.length : Int) = b := ⟨_, rfl⟩
      rw [hmax, hmin] at hg
      rw [hmax, hmin] at b1
      clear hc
      go_enter Tryz.func130, Tryz.ntmps130
      go_wp2_with (first
        | (go_at_call 183; refine hlen.mono ?_; rintro e w1 ⟨rfl, rfl⟩)
        | (go_at_call 184; refine hg.mono ?_; rintro e w2 ⟨A2, n2, c2, rfl, hn2, hown2, hk2, hsrc2⟩))
      go_ret
      exact ⟨A2, n2, c2, rfl, hown2, hn2.symm, hk2⟩
  · have b1 : decide (min g (l.length : Int) ≤ max f 0) = true := by simp; omega
    have hpr : prtTI l f g = [] := by
      unfold prtTI
      rw [List.drop_eq_nil_iff, List.length_take]
      omega
    go_enter Tryz.func130, Tryz.ntmps130
    go_wp2_with (first
      | (go_at_call 183; refine hlen.mono ?_; rintro e w1 ⟨rfl, rfl⟩))
    go_ret
    rw [hpr]
    exact ⟨none, 0, 0, rfl, World.ownsRow_nil _ _ _ _, rfl, Keeps.refl _ _⟩
/-- All the elements. -/
theorem prtTI_all (l : List Int) : prtTI l 0 l.length = l := by simp [prtTI]
end Go.Proofs.YtkngjgblfappoaaGreatDoor
