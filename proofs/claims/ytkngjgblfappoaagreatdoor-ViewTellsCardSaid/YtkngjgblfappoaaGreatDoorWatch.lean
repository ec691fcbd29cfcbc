/-
  view: watches: NewWatch, Add, Remove.
-/
import Derived.Test.YtkngjgblfappoaaGreatDoorObs
import Derived.Test.YtkngjgblfappoaaGreatDoorSlGOb
import Derived.Test.YtkngjgblfappoaaGreatDoorSlDOb
import Derived.Test.YtkngjgblfappoaaGreatDoorStepC
import Derived.IntWalk
namespace Go.Proofs.YtkngjgblfappoaaGreatDoor
open Go.RowKit (Below intOf Hid)
variable {β : Nat}

/-- Observers: what is called, and the number. -/
abbrev Obv := Value × Nat
def obCells (l : List Obv) : List Value := l.flatMap fun o => [o.1, .int .i64 o.2]
theorem obCells_len (l : List Obv) : (obCells l).length = l.length * 2 := by
  unfold obCells
  induction l with
  | nil => rfl
  | cons o r ih => rw [List.flatMap_cons, List.length_append, ih]; simp; omega
theorem obCells_app (l r : List Obv) : obCells (l ++ r) = obCells l ++ obCells r := by unfold obCells; rw [List.flatMap_append]
theorem obCells_split {l : List Obv} {k : Nat} {o : Obv} (h : l[k]? = some o) : obCells l = obCells (l.take k) ++ ([o.1, .int .i64 o.2] ++ obCells (l.drop (k + 1))) := by
  have hk := List.getElem?_eq_some_iff.1 h
  conv => lhs; rw [← List.take_append_drop k l, List.drop_eq_getElem_cons hk.1, hk.2, obCells_app]
  rfl
theorem obCells_at {l : List Obv} {k : Nat} {o : Obv} (h : l[k]? = some o) : (obCells l)[k * 2]? = some o.1 ∧ (obCells l)[k * 2 + 1]? = some (.int .i64 o.2) := by
  have hk := (List.getElem?_eq_some_iff.1 h).1
  have hl : (obCells (l.take k)).length = k * 2 := by rw [obCells_len, List.length_take, Nat.min_eq_left (by omega)]
  rw [obCells_split h]
  constructor
  · rw [List.getElem?_append_right (by omega), hl]; simp
  · rw [List.getElem?_append_right (by omega), hl, show k * 2 + 1 - k * 2 = 1 from by omega]; rfl
theorem obCells_era {l : List Obv} {k : Nat} (hk : k < l.length) : (obCells l).take (k * 2) ++ (obCells l).drop ((k + 1) * 2) = obCells (l.eraseIdx k) := by
  have h : l[k]? = some l[k] := List.getElem?_eq_getElem hk
  have hl : (obCells (l.take k)).length = k * 2 := by rw [obCells_len, List.length_take, Nat.min_eq_left (by omega)]
  rw [obCells_split h, List.take_append_of_le_length (by omega), List.take_of_length_le (by omega), List.drop_append, hl, List.drop_eq_nil_of_le (by omega), show (k + 1) * 2 - k * 2 = 2 from by omega, List.eraseIdx_eq_take_drop_succ, obCells_app]
  rfl
/-- Observers whose values are functions. -/
def Fns (l : List Obv) : Prop := ∀ o, o ∈ l → o.1.oneCell' = true
theorem obCells_one {l : List Obv} (h : Fns l) : Cells1 (obCells l) := by
  intro u hu
  unfold obCells at hu
  obtain ⟨o, ho, hu⟩ := List.mem_flatMap.1 hu
  simp at hu
  rcases hu with rfl | rfl
  · exact h o ho
  · rfl

/-- A watch in memory. -/
def WatchAt (β : Nat) (w : World) (b : Nat) (l : List Obv) (last : Nat) : Prop := β ≤ b ∧ Fns l ∧ ∃ A n c, Hid (l.length = n) ∧ Blk w b 155 #[.slice A n c, .int .i64 last] ∧ w.ownsRow β 159 2 (.slice A n c) n (obCells l)
theorem WatchAt.chg {S : List TypeId} {B : List Nat} {w w' : World} {b : Nat} {l : List Obv} {last : Nat} (h : WatchAt β w b l last) (k : Chg β S B w w') (h1 : 155 ∉ S) (h2 : 159 ∉ S) : WatchAt β w' b l last := by
  obtain ⟨h0, hf, A, n, c, hl, hb, ho⟩ := h
  exact ⟨h0, hf, A, n, c, hl, k.blk hb h1, k.own ho h2⟩

theorem watchNew (w : World) (hβ : β ≤ w.heap.size) : Calls Tryz.prog 26 #[] w fun e w' => ∃ b, e = .returned (ptr b) ∧ WatchAt β w' b [] 0 ∧ Keeps [] w w' := by
  go_enter Tryz.func26, Tryz.ntmps26
  go_wp2
  go_ret
  exact ⟨_, rfl, ⟨hβ, (by intro o h; cases h), none, 0, 0, rfl, Blk.new _ _ _, World.ownsRow_nil _ _ _ _⟩, (Keeps.refl _ _).alloc _⟩

set_option maxHeartbeats 800000 in
theorem numOf (n m : Int) (f : Value) (w : World) : Calls Tryz.prog 73 #[.int .i64 n, .agg #[f, .int .i64 m]] w fun e w' => e = .returned (.bool (m == n)) ∧ Keeps [] w w' := by
  go_enter Tryz.func73, Tryz.ntmps73
  go_wp2
  go_ret
  exact ⟨rfl, (Keeps.refl _ _).alloc _⟩
theorem entNumOf (args : Array Value) (w : World) : (callFunc 73 args).run Tryz.prog w = .ok (.enter 73 args) w := by kernel_rfl

/-- The first place of an observer's number; -1: there is none. -/
def ObIdx (l : List Obv) (n r : Int) : Prop := (r = -1 ∧ ∀ o, o ∈ l → (o.2 : Int) ≠ n) ∨ ∃ (k : Nat) (o : Obv), r = k ∧ l[k]? = some o ∧ (o.2 : Int) = n

set_option maxRecDepth 100000 in
set_option maxHeartbeats 1600000 in
theorem indexFuncOb (A : Option Addr) (n c : Nat) (l : List Obv) (v : Int) (w : World) (hr : Rd w 159 2 A n (obCells l)) (hl : l.length = n) (hn : n ≤ 100000) :
    Calls Tryz.prog 72 #[.slice A n c, .func (.func 73) #[.int .i64 v] #[]] w fun e w' => ∃ r, e = .returned (.int .i64 r) ∧ ObIdx l v r ∧ Keeps [] w w' := by
  have hent := entNumOf
  rcases Nat.eq_zero_or_pos n with h0 | h0
  · subst h0
    have hx : l = [] := List.eq_nil_of_length_eq_zero hl
    subst hx
    go_enter Tryz.func72, Tryz.ntmps72
    go_wp2
    refine wp_loop_rounds 1 ?_
    rw [rounds_succ]
    go_wp2
    go_ret
    exact ⟨_, rfl, .inl ⟨rfl, by simp⟩, Keeps.refl _ _⟩
  · obtain ⟨g, off, rfl, _, hc⟩ := hr.addr h0
    have Hl := Lib.hid hl
    have Hc := Lib.hid hc
    have Hr := Lib.hid hr
    clear hl hc hr
    go_enter Tryz.func72, Tryz.ntmps72
    go_wp2
    go_loopw [8] (fun i wr => ∃ k : Nat, k ≤ n ∧ i = .int .i64 k ∧ Hid (∀ o, o ∈ l.take k → (o.2 : Int) ≠ v) ∧ Keeps [] w wr) (fun i _ => n - (intOf i).toNat)
    case atStart => exact ⟨0, Nat.zero_le _, rfl, (by unfold Hid; simp), Keeps.refl _ _⟩
    case round =>
      obtain ⟨k, hk, rfl, hnot, K⟩ := hrel
      by_cases hlt : k < n
      · obtain ⟨u, hu⟩ : ∃ u, l[k]? = some u := ⟨_, List.getElem?_eq_getElem (by rw [Hl.out]; exact hlt)⟩
        have hrk := Hr.out.keep K (by simp)
        have hcell : wr.cell? ⟨g, off + k * 2, none⟩ = some u.1 := by
          obtain ⟨g', off', he, _, h⟩ := hrk.cellAt (obCells_at hu).1
          injection he with he; injection he with e1 e2; subst e1 e2; exact h
        have hcell2 : wr.cell? ⟨g, off + k * 2 + 1, none⟩ = some (.int .i64 u.2) := by
          obtain ⟨g', off', he, _, h⟩ := hrk.cellAt (obCells_at hu).2
          injection he with he; injection he with e1 e2; subst e1 e2; exact h
        have Hu := Lib.hid hu
        clear hu hrk
        have k0 : (0 : Int) ≤ k := by omega
        have k1 : (k : Int) < n := by omega
        have hnum := numOf v u.2 u.1 wr
        by_cases hv : (u.2 : Int) = v
        · rw [show ((u.2 : Int) == v) = true from by simpa using hv] at hnum
          have Hv := Lib.hid hv
          clear hv
          go_wp2_with (go_at_call 73; refine hnum.mono ?_; rintro e w2 ⟨rfl, k2⟩)
          go_ret
          exact ⟨_, rfl, .inr ⟨k, u, rfl, Hu.out, Hv.out⟩, K.trans_nil k2⟩
        · rw [show ((u.2 : Int) == v) = false from by simpa using hv] at hnum
          have Hv := Lib.hid hv
          clear hv
          go_wp2_with (go_at_call 73; refine hnum.mono ?_; rintro e w2 ⟨rfl, k2⟩)
          go_roundw
          case rel =>
            refine ⟨k + 1, by omega, by go_num, ?_, K.trans_nil k2⟩
            unfold Hid
            rw [List.take_add_one, Hu.out]
            intro o ho
            simp only [Option.toList_some, List.mem_append, List.mem_singleton] at ho
            rcases ho with ho | rfl
            · exact hnot.out o ho
            · exact Hv.out
          case measure => simp [intOf]; omega
      · have k1 : ¬ (k : Int) < n := by omega
        go_wp2
        go_ret
        refine ⟨_, rfl, .inl ⟨rfl, ?_⟩, K⟩
        have := hnot.out
        rwa [List.take_of_length_le (by rw [Hl.out]; omega)] at this

theorem infoObs : (Tryz.prog.info? 159).map (fun i => (i.zero, i.size, i.bytes)) = some (some (.agg #[.nilFunc, .int .i64 0]), 2, 16) := by kernel_rfl

set_option maxRecDepth 100000 in
set_option maxHeartbeats 1600000 in
theorem watchAdd (b : Nat) (l : List Obv) (last : Nat) (fn : Fn) (first cap : Array Value) (w : World) (h : WatchAt β w b l last) (hβ : β ≤ w.heap.size) (hN : l.length ≤ 1000) (hlast : last ≤ 100000) :
    Calls Tryz.prog 27 #[ptr b, .func fn first cap] w fun e w' => e = .returned (.int .i64 ((last : Int) + 1)) ∧ WatchAt β w' b (l ++ [(.func fn first cap, last + 1)]) (last + 1) ∧ Chg β [155] [] w w' := by
  obtain ⟨i0, hi0, hz0, hz1, hz2⟩ := info_parts infoObs
  obtain ⟨h0, hf, A, n, c, hl, hb, ho⟩ := h
  have hbs := hb.lt
  have c0 : w.cell? ⟨b, 0, none⟩ = some (.slice A n c) := hb.cell 0
  have c1 : w.cell? ⟨b, 1, none⟩ = some (.int .i64 last) := hb.cell 1
  have f1 : w.frozen? ⟨b, 1, none⟩ = false := hb.free 1
  have k0 : Keeps [b] w (w.setCell ⟨b, 1, none⟩ (.int .i64 ((last : Int) + 1))) := (Keeps.refl _ _).setCell (.inl (by simp)) _
  have hrd := (own_rd ho (obCells_one hf)).keep k0 (by intro b' hb'; rw [List.mem_singleton.1 hb']; exact hb.noTag (by decide))
  have hb1 := hb.set 1 (.int .i64 ((last : Int) + 1))
  have C0 : Chg β [155] [] w (w.setCell ⟨b, 1, none⟩ (.int .i64 ((last : Int) + 1))) := chg_cells hb k0 (by simp) h0
  have hs0 := k0.size
  go_enter Tryz.func27, Tryz.ntmps27
  go_wp2_with fail
  generalize w.setCell ⟨b, 1, none⟩ (.int .i64 ((last : Int) + 1)) = w1 at *
  have d0 : w1.cell? ⟨b, 0, none⟩ = some (.slice A n c) := hb1.cell 0
  have d1 : w1.cell? ⟨b, 1, none⟩ = some (.int .i64 ((last : Int) + 1)) := hb1.cell 1
  have hn : n ≤ 1000 := by rw [← hl.out]; exact hN
  have hb1s := hb1.lt
  clear c0 c1 f1 hN
  have hcl := cloneOb A n c (obCells l)
  have hnew : ∀ w : World, Rd (w.alloc (.cells #[.func fn first cap, .int .i64 ((last : Int) + 1)] 159)) 159 2 (some ⟨w.heap.size, 0, none⟩) 1 [.func fn first cap, .int .i64 ((last : Int) + 1)] := fun w => own_rd (own_new (base := 0) (k := 2) (Nat.zero_le _) (by decide) (by simp)) (by intro u hu; simp at hu; rcases hu with rfl | rfl <;> rfl)
  have HN := Lib.hid hnew
  clear hnew
  go_region_law (first
    | (refine step_append_rd _ rfl (.tmp 17) (.tmp 24) _ rfl w1.heap.size 159 i0 _ 2 16 Tryz.underlying153 hi0 hz0 hz1 hz2 rfl (by omega) (.slice A1 n k1) n (obCells l) rfl (by first | exact ho1 | exact ho1.alloc _) _ 1 1 [.func fn first cap, .int .i64 ((last : Int) + 1)] rfl (by first | exact HN.out _ | exact (HN.out w1).drew.keep hk1 (by simp)) (by unfold maxLen; omega) (by omega) (by first | omega | (simp; omega)) ?_
       intro v3 w3 hown hg _
       have K3 : Keeps [] w1 w3 := by first | exact kk.grown hg (fun b' hb' => .inr (ho1.lt b' hb').1) | exact (kk.alloc _).grown hg (fun b' hb' => .inr (ho1.lt b' hb').1)
       have b3 := K3.blk hb1 (by simp)
       have x0 : w3.cell? ⟨b, 0, none⟩ = some (.slice A n c) := b3.cell 0
       have x1 : w3.cell? ⟨b, 1, none⟩ = some (.int .i64 ((last : Int) + 1)) := b3.cell 1
       have y0 : w3.frozen? ⟨b, 0, none⟩ = false := b3.free 0
       obtain ⟨A', c', rfl, _, _⟩ := own_form hown)
    | (refine step_call 71 #[.slice A n c] _ rfl (by go_simp) (hcl _ (by first | exact hrd.rc.drew | exact (hrd.rc.alloc _).drew) (by omega)) ?_
       rintro e w2 ⟨A1, k1, rfl, ho1, hk1⟩
       refine ⟨_, rfl, ?_⟩
       have ho1 := own_mono (base' := w1.heap.size) ho1 (by simp)
       have kk : Keeps [] w1 w2 := by first | exact hk1.of_drew | exact (((Keeps.refl _ _).alloc _).drew).trans_nil hk1
       have hs2 := kk.size
       have b2 := kk.blk hb1 (by simp)
       have z0 : w2.cell? ⟨b, 0, none⟩ = some (.slice A n c) := b2.cell 0
       have z1 : w2.cell? ⟨b, 1, none⟩ = some (.int .i64 ((last : Int) + 1)) := b2.cell 1))
  all_goals
    go_wp2
    go_ret
    have k4 : Keeps [b] w3 (w3.setCell ⟨b, 0, none⟩ (.slice A' (n + 1) c')) := (Keeps.refl _ _).setCell (.inl (by simp)) _
    refine ⟨rfl, ⟨h0, ?_, A', n + 1, c', ?_, b3.set 0 _, ?_⟩, (C0.trans (Chg.of_keeps K3)).trans (chg_cells b3 k4 (by simp) h0)⟩
    · intro o ho
      rcases List.mem_append.1 ho with h | h
      · exact hf o h
      · rw [List.mem_singleton.1 h]; rfl
    · unfold Hid; rw [List.length_append, hl.out]; rfl
    · rw [obCells_app]
      exact own_far (own_mono hown (by omega)) b3 (by decide) k4
end Go.Proofs.YtkngjgblfappoaaGreatDoor
