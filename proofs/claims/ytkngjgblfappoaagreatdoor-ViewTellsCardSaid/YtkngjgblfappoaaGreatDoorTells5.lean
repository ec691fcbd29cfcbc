/-
  rialtolaw23.ViewTells: the walk.
-/
import Derived.Test.YtkngjgblfappoaaGreatDoorTells4
import Derived.Test.YtkngjgblfappoaaGreatDoorLaw23A
import Derived.OwnWalk
import Derived.Laws.OwnMore
namespace Go.Proofs.YtkngjgblfappoaaGreatDoor
open Go.RowKit (Below intOf Hid)

theorem StrsAt.keep {w w' : World} {A : Option Addr} {n : Nat} {sz : Nat → Nat} (h : StrsAt w A n sz) (k : Keeps [] w w') : StrsAt w' A n sz := fun i hi => by
  obtain ⟨g, off, s, rfl, hc, hs⟩ := h i hi
  exact ⟨g, off, s, rfl, k.cell hc (by simp), hs⟩

/-- What is known of a change's values. -/
structure ChIn (w : World) (c : Chv) : Prop where
  sa : ∃ sz, StrsAt w c.a c.an sz
  sb : ∃ sz, StrsAt w c.b c.bn sz
  na : c.an ≤ 9223372036854775807
  nb : c.bn ≤ 9223372036854775807
  tb : c.tb.size ≤ maxLen
  xa : ∃ xs, Rc w 4 c.a c.an xs
  xb : ∃ ys, Rc w 4 c.b c.bn ys
/-- What is known of the arguments. -/
structure TellsIn (w : World) (A : Option Addr) (n : Nat) (chs : List Chv) (Ah : Option Addr) (K : Nat) (hs : List Int) (Ar : Option Addr) (R : Nat) (rs : List Nat) : Prop where
  cl : chs.length = n
  cr : Rc w 4 A n (chCells chs)
  ci : ∀ c, c ∈ chs → ChIn w c
  hl : hs.length = K
  hr : Rc w 1 Ah K (hs.map (Value.int .i64))
  rl : rs.length = R
  rr : Rc w 1 Ar R (rs.map fun (r : Nat) => Value.int .u8 r)
  rb : ∀ r, r ∈ rs → r < 256
  laid : Laid w

/-- What stands before changes are told: k observers are made; bs: who is there. -/
structure TQ (β : Nat) (w : World) (gb hb tg b : Nat) (nb cb : Nat → Nat) (Ah : Option Addr) (K hc k : Nat) (bs : List Bool) (wr : World) : Prop where
  got : Blk wr gb 74 #[.slice none 0 0]
  nbs : ∀ m, m < k → Blk wr (nb m) 3 #[.int .i64 m]
  cbs : ∀ m, m < k → Blk wr (cb m) 3 #[.int .i64 0]
  d1 : ∀ m n, m < k → n < k → nb m ≠ cb n
  d2 : ∀ m n, m < k → n < k → cb m = cb n → m = n
  d3 : ∀ m, m < k → β ≤ cb m
  ws : WatchAt β wr b (obsOf gb hb nb cb (live bs k)) k
  th : wr.ownsRow β 4 1 (.slice (some ⟨tg, 0, none⟩) K K) K (bs.map Value.bool)
  bl : bs.length = K
  how : Blk wr hb 68 #[.slice Ah K hc]
  kp : Keeps [] w wr
/-- The observers below k are there. -/
def thL (K k : Nat) : List Bool := (List.range K).map fun m => decide (m < k)
theorem thL_len (K k : Nat) : (thL K k).length = K := by simp [thL]
theorem thL_zero (K : Nat) : thL K 0 = List.replicate K false := by
  unfold thL
  rw [List.eq_replicate_iff]
  refine ⟨by simp, fun b hb => ?_⟩
  obtain ⟨a, _, rfl⟩ := List.mem_map.1 hb
  simp
theorem thL_set {K k : Nat} : (thL K k).set k true = thL K (k + 1) := by
  refine List.ext_getElem (by simp [thL]) fun i h3 h4 => ?_
  simp only [thL, List.getElem_set, List.getElem_map, List.getElem_range]
  split
  · rename_i h; subst h; simp
  · rename_i h
    have : (i < k) ↔ (i < k + 1) := by omega
    simp only [this]
theorem thL_get {K k m : Nat} (hm : m < K) : (thL K k).getD m false = decide (m < k) := by
  rw [List.getD_eq_getElem?_getD, List.getElem?_eq_getElem (by rw [thL_len]; exact hm)]
  simp [thL]
theorem live_thL {K k : Nat} (hk : k ≤ K) : live (thL K k) k = List.range k := live_all fun m hm => by rw [thL_get (by omega)]; simpa using hm
theorem boolsSet (bs : List Bool) (j : Nat) (b : Bool) : (bs.map Value.bool).set j (.bool b) = (bs.set j b).map Value.bool := by rw [List.map_set]
theorem infoBools : (Tryz.prog.info? 4).map (fun i => (i.zero, i.size, i.bytes)) = some (some (.bool false), 1, 1) := by kernel_rfl

theorem TQ.keep {β gb hb tg b K hc k : Nat} {w wr w' : World} {nb cb : Nat → Nat} {Ah : Option Addr} {bs : List Bool} (h : TQ β w gb hb tg b nb cb Ah K hc k bs wr) (kk : Keeps [] wr w') : TQ β w gb hb tg b nb cb Ah K hc k bs w' :=
  ⟨kk.blk h.got (by simp), fun m hm => kk.blk (h.nbs m hm) (by simp), fun m hm => kk.blk (h.cbs m hm) (by simp), h.d1, h.d2, h.d3, h.ws.chg (S := []) (B := []) (Chg.of_keeps kk) (by simp) (by simp), own_keep h.th kk (by simp), h.bl, kk.blk h.how (by simp), h.kp.trans_nil kk⟩
/-- One observer more. -/
theorem TQ.add {gb hb tg b K hc k : Nat} {w wr w2 : World} {nb cb : Nat → Nat} {Ah : Option Addr} (hq : TQ w.heap.size w gb hb tg b nb cb Ah K hc k (thL K k) wr) (hk : k < K)
    (hw : WatchAt w.heap.size w2 b (obsOf gb hb nb cb (live (thL K k) k) ++ [(.func (.func 28) #[] #[ptr gb, ptr wr.heap.size, ptr (wr.heap.size + 1), ptr hb], k + 1)]) (k + 1))
    (hC : Chg w.heap.size [155] [] ((wr.alloc (.cells #[.int .i64 k] 3)).alloc (.cells #[.int .i64 0] 3)) w2) :
    w2.frozen? ⟨tg, k, none⟩ = false ∧ w2.cell? ⟨tg, k, none⟩ = some (.bool false) ∧
    TQ w.heap.size w gb hb tg b (fun m => if m = k then wr.heap.size else nb m) (fun m => if m = k then wr.heap.size + 1 else cb m) Ah K hc (k + 1) (thL K (k + 1)) (w2.setCell ⟨tg, k, none⟩ (.bool true)) := by
  have kk : Keeps [] wr ((wr.alloc (.cells #[.int .i64 k] 3)).alloc (.cells #[.int .i64 0] 3)) := ((Keeps.refl _ _).alloc _).alloc _
  have hq1 := hq.keep kk
  have hth := hC.own hq1.th (by decide)
  obtain ⟨f1, hor2⟩ := own_put hth (i := k) (by simpa using hk) (.bool true)
  rw [boolsSet, thL_set] at hor2
  have e1 : w2.cell? ⟨tg, k, none⟩ = some (.bool false) := own_at hth (by
    rw [List.getElem?_map, List.getElem?_eq_getElem (by rw [thL_len]; exact hk)]
    simp [thL])
  have hks : Keeps (obs (.slice (some ⟨tg, 0, none⟩) K K)) w2 (w2.setCell ⟨tg, k, none⟩ (.bool true)) := (Keeps.refl _ _).setCell (.inl (by simp [obs_some])) _
  have CC : Chg w.heap.size [4] [] w2 (w2.setCell ⟨tg, k, none⟩ (.bool true)) := chg_row hth hks (by simp)
  have n1 : Blk ((wr.alloc (.cells #[.int .i64 k] 3)).alloc (.cells #[.int .i64 0] 3)) wr.heap.size 3 #[.int .i64 k] := (Blk.new _ _ _).alloc _
  have n2 : Blk ((wr.alloc (.cells #[.int .i64 k] 3)).alloc (.cells #[.int .i64 0] 3)) (wr.heap.size + 1) 3 #[.int .i64 0] := Blk.new' _ _ (by simp)
  have hs := hq.kp.size
  refine ⟨f1, e1, CC.blk (hC.blk hq1.got (by decide)) (by decide), fun m hm => ?_, fun m hm => ?_, fun m n hm hn => ?_, fun m n hm hn => ?_, fun m hm => ?_, ?_, hor2, thL_len _ _, CC.blk (hC.blk hq1.how (by decide)) (by decide), CC.keeps (hC.keeps (hq.kp.trans_nil kk) (Nat.le_refl _)) (Nat.le_refl _)⟩
  · by_cases e : m = k
    · subst e; rw [if_pos rfl]; exact CC.blk (hC.blk n1 (by decide)) (by decide)
    · rw [if_neg e]; exact CC.blk (hC.blk (hq1.nbs m (by omega)) (by decide)) (by decide)
  · by_cases e : m = k
    · subst e; rw [if_pos rfl]; exact CC.blk (hC.blk n2 (by decide)) (by decide)
    · rw [if_neg e]; exact CC.blk (hC.blk (hq1.cbs m (by omega)) (by decide)) (by decide)
  · by_cases e1 : m = k <;> by_cases e2 : n = k
    · simp [e1, e2]
    · have := (hq.cbs n (by omega)).lt; simp [e1, e2]; omega
    · have := (hq.nbs m (by omega)).lt; simp [e1, e2]; omega
    · simp only [e1, e2, if_false]; exact hq.d1 m n (by omega) (by omega)
  · by_cases e1 : m = k <;> by_cases e2 : n = k
    · intro _; omega
    · have := (hq.cbs n (by omega)).lt; simp [e1, e2]; omega
    · have := (hq.cbs m (by omega)).lt; simp [e1, e2]; omega
    · simp only [e1, e2, if_false]; exact hq.d2 m n (by omega) (by omega)
  · by_cases e1 : m = k
    · simp [e1]; omega
    · simp only [e1, if_false]; exact hq.d3 m (by omega)
  · have hw2 := hw.chg CC (by decide) (by decide)
    rw [live_thL (by omega)] at hw2
    rw [live_thL (by omega), List.range_succ]
    have e : obsOf gb hb (fun m => if m = k then wr.heap.size else nb m) (fun m => if m = k then wr.heap.size + 1 else cb m) (List.range k ++ [k]) = obsOf gb hb nb cb (List.range k) ++ [(.func (.func 28) #[] #[ptr gb, ptr wr.heap.size, ptr (wr.heap.size + 1), ptr hb], k + 1)] := by
      unfold obsOf
      rw [List.map_append]
      congr 1
      · refine List.map_congr_left fun n hn => ?_
        have := List.mem_range.1 hn
        have hne : n ≠ k := by omega
        unfold ob
        simp only [if_neg hne]
      · unfold ob; simp
    rw [e]
    exact hw2

theorem removed_liveK {gb hb : Nat} {nb cb : Nat → Nat} {bs : List Bool} {v K : Nat} {ok : Bool} {l' : List Obv} (hb' : bs.length = K) (h : Removed (obsOf gb hb nb cb (live bs K)) v ok l') :
    (ok = false ∧ l' = obsOf gb hb nb cb (live bs K) ∧ ¬ (1 ≤ v ∧ v ≤ K ∧ bs.getD (v - 1) false = true)) ∨
    (ok = true ∧ l' = obsOf gb hb nb cb (live (bs.set (v - 1) false) K) ∧ 1 ≤ v ∧ v ≤ K ∧ bs.getD (v - 1) false = true) := by
  subst hb'
  exact removed_live h
/-- None goes. -/
theorem TQ.rem0 {gb hb tg b K hc : Nat} {w wr w2 : World} {nb cb : Nat → Nat} {Ah : Option Addr} {bs : List Bool} (hq : TQ w.heap.size w gb hb tg b nb cb Ah K hc K bs wr)
    (hw : WatchAt w.heap.size w2 b (obsOf gb hb nb cb (live bs K)) K) (hC : Chg w.heap.size [155] [] wr w2) : TQ w.heap.size w gb hb tg b nb cb Ah K hc K bs w2 :=
  ⟨hC.blk hq.got (by decide), fun m hm => hC.blk (hq.nbs m hm) (by decide), fun m hm => hC.blk (hq.cbs m hm) (by decide), hq.d1, hq.d2, hq.d3, hw, hC.own hq.th (by decide), hq.bl, hC.blk hq.how (by decide), hC.keeps hq.kp (Nat.le_refl _)⟩
/-- One goes. -/
theorem TQ.rem1 {gb hb tg b K hc m : Nat} {w wr w2 : World} {nb cb : Nat → Nat} {Ah : Option Addr} {bs : List Bool} (hq : TQ w.heap.size w gb hb tg b nb cb Ah K hc K bs wr) (hm : m < K)
    (hw : WatchAt w.heap.size w2 b (obsOf gb hb nb cb (live (bs.set m false) K)) K) (hC : Chg w.heap.size [155] [] wr w2) :
    w2.frozen? ⟨tg, m, none⟩ = false ∧ (∃ v, w2.cell? ⟨tg, m, none⟩ = some (.bool v)) ∧ TQ w.heap.size w gb hb tg b nb cb Ah K hc K (bs.set m false) (w2.setCell ⟨tg, m, none⟩ (.bool false)) := by
  have hth := hC.own hq.th (by decide)
  obtain ⟨f1, hor2⟩ := own_put hth (i := m) (by simpa using hm) (.bool false)
  rw [boolsSet] at hor2
  have e1 : w2.cell? ⟨tg, m, none⟩ = some (.bool (bs[m]'(by rw [hq.bl]; exact hm))) := own_at hth (by
    rw [List.getElem?_map, List.getElem?_eq_getElem (by rw [hq.bl]; exact hm)]; rfl)
  have hks : Keeps (obs (.slice (some ⟨tg, 0, none⟩) K K)) w2 (w2.setCell ⟨tg, m, none⟩ (.bool false)) := (Keeps.refl _ _).setCell (.inl (by simp [obs_some])) _
  have CC : Chg w.heap.size [4] [] w2 (w2.setCell ⟨tg, m, none⟩ (.bool false)) := chg_row hth hks (by simp)
  exact ⟨f1, ⟨_, e1⟩, CC.blk (hC.blk hq.got (by decide)) (by decide), fun m hm => CC.blk (hC.blk (hq.nbs m hm) (by decide)) (by decide), fun m hm => CC.blk (hC.blk (hq.cbs m hm) (by decide)) (by decide), hq.d1, hq.d2, hq.d3, hw.chg CC (by decide) (by decide), hor2, by rw [List.length_set]; exact hq.bl, CC.blk (hC.blk hq.how (by decide)) (by decide), CC.keeps (hC.keeps hq.kp (Nat.le_refl _)) (Nat.le_refl _)⟩

/-- The number of a fault. -/
def FV : Option (Nat × Nat) → Int
  | none => 0
  | some q => 100 + (q.2 : Int)

theorem FV_skip {x y : Option (Nat × Nat)} (h : x ≠ none ∨ y = none) : FV (x.orElse fun _ => y) = FV x := by
  cases x with
  | some q => rfl
  | none => rcases h with h | rfl
            · exact absurd rfl h
            · rfl
theorem FV_zero {x : Option (Nat × Nat)} : (FV x == 0) = x.isNone := by
  cases x with
  | none => rfl
  | some q => show ((100 + (q.2 : Int)) == 0) = false; simp; omega

def TellsPost (w : World) (e : Ending) (w' : World) : Prop := e = .returned (.bool true) ∧ Keeps [] w w'

set_option maxRecDepth 100000 in
set_option maxHeartbeats 3200000 in
theorem viewTells (A : Option Addr) (n c : Nat) (chs : List Chv) (Ah : Option Addr) (K hc : Nat) (hs : List Int) (Ar : Option Addr) (R rc : Nat) (rs : List Nat) (w : World) (T : TellsIn w A n chs Ah K hs Ar R rs) :
    Calls Tryz.prog 5 #[.slice A n c, .slice Ah K hc, .slice Ar R rc] w (TellsPost w) := by
  obtain ⟨ib, hib, hib0, hib1, hib2⟩ := info_parts infoBools
  obtain ⟨jb, hjb, hjb0, hjb1, hjb2⟩ := info_parts infoI64
  have HT := Lib.hid T
  clear T
  have K0 : Keeps [] w (w.alloc (.cells #[.slice Ah K hc] 68)) := (Keeps.refl _ _).alloc _
  have B0 : Blk (w.alloc (.cells #[.slice Ah K hc] 68)) w.heap.size 68 #[.slice Ah K hc] := Blk.new _ _ _
  by_cases hn : 12 < n
  · have b0 : decide (12 < (n : Int)) = true := by simp; omega
    go_enter Tryz.func5, Tryz.ntmps5
    go_wp2_with (go_at_call 18; refine (known23 _).mono ?_; rintro e w1 ⟨rfl, k1⟩)
    go_ret
    exact ⟨rfl, K0.trans_nil k1⟩
  have b0 : decide (12 < (n : Int)) = false := by simp; omega
  by_cases hk : 8 < K
  · have b1 : decide (8 < (K : Int)) = true := by simp; omega
    go_enter Tryz.func5, Tryz.ntmps5
    go_wp2_with (go_at_call 18
                 refine (known23 _).mono ?_
                 rintro e w1 ⟨rfl, k1⟩
                 have x1 : w1.cell? ⟨w.heap.size, 0, none⟩ = some (.slice Ah K hc) := (k1.blk B0 (by simp)).cell 0)
    go_ret
    exact ⟨rfl, K0.trans_nil k1⟩
  have b1 : decide (8 < (K : Int)) = false := by simp; omega
  by_cases hr : 8 < R
  · have b2 : decide (8 < (R : Int)) = true := by simp; omega
    go_enter Tryz.func5, Tryz.ntmps5
    go_wp2_with (go_at_call 18
                 refine (known23 _).mono ?_
                 rintro e w1 ⟨rfl, k1⟩
                 have x1 : w1.cell? ⟨w.heap.size, 0, none⟩ = some (.slice Ah K hc) := (k1.blk B0 (by simp)).cell 0)
    go_ret
    exact ⟨rfl, K0.trans_nil k1⟩
  have b2 : decide (8 < (R : Int)) = false := by simp; omega
  have n12 : n ≤ 12 := by omega
  have k8 : K ≤ 8 := by omega
  have r8 : R ≤ 8 := by omega
  clear hn hk hr
  go_enter Tryz.func5, Tryz.ntmps5
  go_wp2_with (go_at_call 18
               refine (known23 _).mono ?_
               rintro e w1 ⟨rfl, k1⟩
               have B1 := k1.blk B0 (by simp)
               have x1 : w1.cell? ⟨w.heap.size, 0, none⟩ = some (.slice Ah K hc) := B1.cell 0)
  have K1 := K0.trans_nil k1
  clear K0 k1 B0 b0 b1 b2
  go_loop [7] (fun i => ∃ k : Nat, k ≤ n ∧ i = .int .i64 k ∧ Hid (∀ ch, ch ∈ chs.take k → ch.an ≤ 6 ∧ ch.bn ≤ 6)) (fun i => n - (intOf i).toNat)
  case atStart => exact ⟨0, Nat.zero_le _, rfl, by unfold Hid; simp⟩
  case round =>
    obtain ⟨k, hk, rfl, hsm⟩ := hrel
    by_cases hlt : k < n
    · obtain ⟨ch, hch⟩ : ∃ ch, chs[k]? = some ch := ⟨_, List.getElem?_eq_getElem (by rw [HT.out.cl]; exact hlt)⟩
      have hci := HT.out.ci ch (List.mem_of_getElem? hch)
      obtain ⟨g, off, rfl, hch0, hch2, hch3⟩ : ∃ g off, A = some ⟨g, off, none⟩ ∧ w1.cell? ⟨g, off + k * 4, none⟩ = some (.string ch.tb) ∧ w1.cell? ⟨g, off + k * 4 + 2, none⟩ = some (.slice ch.a ch.an ch.ac) ∧ w1.cell? ⟨g, off + k * 4 + 3, none⟩ = some (.slice ch.b ch.bn ch.bc) := by
        obtain ⟨q0, q1, q2, q3⟩ := chCells_at hch
        obtain ⟨g, off, rfl, _, hc⟩ := (HT.out.cr.keep K1 (by simp)).addr (by omega)
        exact ⟨g, off, rfl, hc _ _ q0, hc _ _ q2, hc _ _ q3⟩
      have k0 : (0 : Int) ≤ k := by omega
      have k1 : (k : Int) < n := by omega
      obtain ⟨sz1, hs1⟩ := hci.sa
      obtain ⟨sz2, hs2⟩ := hci.sb
      have hf1 := few ch.a ch.an ch.ac 6 sz1 w1 (hs1.keep K1) hci.na
      have hf2 := few ch.b ch.bn ch.bc 6 sz2 w1 (hs2.keep K1) hci.nb
      have htb := hci.tb
      have Hch := Lib.hid hch
      unfold maxLen at htb
      clear hch hci hs1 hs2
      go_wp2_with fail
      refine hf1.mono ?_
      rintro e w2 ⟨⟨r, rfl, hr⟩, rfl⟩
      have Hr := Lib.hid hr
      clear hr
      cases r with
      | false =>
        go_wp2
        go_ret
        exact ⟨rfl, K1⟩
      | true =>
        go_wp2_with fail
        refine hf2.mono ?_
        rintro e w2 ⟨⟨r2, rfl, hr2⟩, rfl⟩
        have Hr2 := Lib.hid hr2
        clear hr2
        cases r2 with
        | false =>
          go_wp2
          go_ret
          exact ⟨rfl, K1⟩
        | true =>
          by_cases ht : (30 : Int) < ch.tb.size
          · go_wp2
            go_ret
            exact ⟨rfl, K1⟩
          · go_wp2
            go_round
            case rel =>
              refine ⟨k + 1, by omega, by go_num, ?_⟩
              unfold Hid
              rw [List.take_add_one, Hch.out]
              intro d hd
              simp only [Option.toList_some, List.mem_append, List.mem_singleton] at hd
              rcases hd with hd | rfl
              · exact hsm.out d hd
              · exact ⟨by have := Hr.out trivial; omega, by have := Hr2.out trivial; omega⟩
            case measure => simp [intOf]; omega
    · have k1 : ¬ (k : Int) < n := by omega
      obtain rfl : k = n := by omega
      have hsm2 : ∀ ch, ch ∈ chs → ch.an ≤ 6 ∧ ch.bn ≤ 6 := by have h := hsm.out; rwa [List.take_of_length_le (by rw [HT.out.cl]; omega)] at h
      have HS := Lib.hid hsm2
      clear hsm hsm2 hk
      have s1 := K1.size
      go_wp2_with (first
        | (go_at_call 26
           refine (watchNew (β := w.heap.size) w1 s1).mono ?_
           rintro e w2 ⟨b, rfl, hw2, k2⟩
           have K2 := K1.trans_nil k2
           have B2 := k2.blk B1 (by simp)
           have K3 : Keeps [] w2 (w2.alloc (.cells #[.slice none 0 0] 74)) := (Keeps.refl _ _).alloc _
           have G3 : Blk (w2.alloc (.cells #[.slice none 0 0] 74)) w2.heap.size 74 #[.slice none 0 0] := Blk.new _ _ _
           have B3 := K3.blk B2 (by simp)
           have x3 : (w2.alloc (.cells #[.slice none 0 0] 74)).cell? ⟨w.heap.size, 0, none⟩ = some (.slice Ah K hc) := B3.cell 0
           have hw3 := hw2.chg (S := []) (B := []) (Chg.of_keeps K3) (by simp) (by simp)
           have s2 := K2.size
           have s2g : w.heap.size ≤ w2.heap.size := s2)
        | (at_make
           refine wpList_make_full _ rfl _ _ 61 rfl w.heap.size 4 ib (.bool false) 1 Tryz.underlying61 hib hib0 hib1 _ _ _ _ K rfl rfl (by simp) (by simp) (by rw [hib2]; omega) (by unfold maxLen; omega) (by simp; omega) ?_
           intro w5 ho5 hg5))
      have K5 : Keeps [] (w2.alloc (.cells #[.slice none 0 0] 74)) w5 := (Keeps.refl _ _).grown hg5 (by simp)
      have Q0 : TQ w.heap.size w w2.heap.size w.heap.size (w2.heap.size + 1) b (fun _ => 0) (fun _ => 0) Ah K hc 0 (thL K 0) w5 := by
        refine ⟨K5.blk G3 (by simp), by omega, by omega, by omega, by omega, by omega, ?_, ?_, thL_len _ _, K5.blk B3 (by simp), (K2.trans_nil K3).trans_nil K5⟩
        · rw [live_thL (Nat.zero_le _)]
          exact hw3.chg (S := []) (B := []) (Chg.of_keeps K5) (by simp) (by simp)
        · rw [thL_zero, List.map_replicate]
          have e : (madeCells (Value.bool false).cells (K * 1)).toList = List.replicate K (.bool false) := by
            rw [Nat.mul_one]; exact toList_madeCells_one _ _
          rw [← e]
          simpa using ho5
      have HQ0 := Lib.hid Q0
      clear Q0 K5 K3 G3 B3 x3 hw3 hw2 B2 k2 hg5 ho5
      generalize w2.heap.size = gb at *
      go_loopw [12] (fun i wr => ∃ (k : Nat) (nb cb : Nat → Nat), k ≤ K ∧ i = .int .i64 k ∧ Hid (TQ w.heap.size w gb w.heap.size (gb + 1) b nb cb Ah K hc k (thL K k) wr)) (fun i _ => K - (intOf i).toNat)
      case atStart => exact ⟨0, _, _, Nat.zero_le _, rfl, HQ0⟩
      case round =>
        obtain ⟨k2, nb, cb, hk2, rfl, hq⟩ := hrel
        clear HQ0
        have xh : wr.cell? ⟨w.heap.size, 0, none⟩ = some (.slice Ah K hc) := hq.out.how.cell 0
        by_cases hlt : k2 < K
        · have j1 : (k2 : Int) < K := by omega
          have j0 : (0 : Int) ≤ k2 := by omega
          have hws := hq.out.ws.chg (S := []) (B := []) (w' := (wr.alloc (.cells #[.int .i64 k2] 3)).alloc (.cells #[.int .i64 0] 3)) (Chg.of_keeps (((Keeps.refl _ _).alloc _).alloc _)) (by simp) (by simp)
          have sq := hq.out.kp.size
          have hlen2 : (obsOf gb w.heap.size nb cb (live (thL K k2) k2)).length = k2 := by rw [live_thL hk2]; unfold obsOf; simp
          have hadd := watchAdd b _ k2 (.func 28) #[] #[ptr gb, ptr wr.heap.size, ptr (wr.heap.size + 1), ptr w.heap.size] _ hws (by simp; omega) (by omega) (by omega)
          have Hadd := Lib.hid hadd
          clear hadd hws hlen2
          have q1 : ((k2 : Int) + 1 != (k2 : Int) + 1) = false := by simp
          go_wp2_with (go_at_call 27
                       refine Hadd.out.mono ?_
                       rintro e w6 ⟨rfl, hw6, hC6⟩
                       obtain ⟨f6, x6, hq6⟩ := hq.out.add hlt hw6 hC6
                       have HQ6 := Lib.hid hq6
                       clear hw6 hC6 hq6)
          go_roundw
          case rel => exact ⟨k2 + 1, _, _, by omega, by go_num, HQ6⟩
          case measure => simp [intOf]; omega
        · have j1 : ¬ (k2 : Int) < K := by omega
          obtain rfl : k2 = K := by omega
          clear hk2 hlt
          go_wp2
          clear xh
          go_loopw [16] (fun i wr => ∃ (r : Nat) (bs : List Bool), r ≤ R ∧ i = .int .i64 r ∧ Hid (TQ w.heap.size w gb w.heap.size (gb + 1) b nb cb Ah k2 hc k2 bs wr)) (fun i _ => R - (intOf i).toNat)
          case atStart => exact ⟨0, _, Nat.zero_le _, rfl, hq⟩
          case round =>
            clear hq
            obtain ⟨r, bs, hr, rfl, hq⟩ := hrel
            by_cases hlr : r < R
            · obtain ⟨v, hv⟩ : ∃ v, rs[r]? = some v := ⟨_, List.getElem?_eq_getElem (by rw [HT.out.rl]; exact hlr)⟩
              have hv2 := HT.out.rb v (List.mem_of_getElem? hv)
              obtain ⟨gr, orr, rfl, hvc⟩ : ∃ gr orr, Ar = some ⟨gr, orr, none⟩ ∧ wr.cell? ⟨gr, orr + r, none⟩ = some (.int .u8 v) := by
                obtain ⟨g, off, rfl, _, hc⟩ := (HT.out.rr.keep hq.out.kp (by simp)).addr (by omega)
                exact ⟨g, off, rfl, hc _ _ (by rw [List.getElem?_map, hv]; rfl)⟩
              have r0 : (0 : Int) ≤ r := by omega
              have r1 : (r : Int) < R := by omega
              obtain ⟨N, hN⟩ : ∃ N, N = v % 10 := ⟨_, rfl⟩
              have hmod : (v : Int) % 10 = N := by omega
              have hN10 : N < 10 := by omega
              have v0 : (0 : Int) ≤ v := by omega
              have v1 : (v : Int) ≤ 255 := by omega
              have xh : wr.cell? ⟨w.heap.size, 0, none⟩ = some (.slice Ah k2 hc) := hq.out.how.cell 0
              have hbl := hq.out.bl
              have hrem := watchRemove (β := w.heap.size) b _ k2 N wr hq.out.ws hq.out.kp.size (by unfold obsOf; rw [List.length_map]; have := live_len bs k2; omega)
              have Hrem := Lib.hid hrem
              have Hbl := Lib.hid hbl
              clear hv hN hrem hbl
              by_cases hN1 : 1 ≤ N
              · by_cases hNK : N ≤ k2
                · obtain ⟨M, rfl⟩ : ∃ M, N = M + 1 := ⟨N - 1, by omega⟩
                  have i0 : (0 : Int) ≤ M := by omega
                  have i1 : (M : Int) < k2 := by omega
                  have i2 : (1 : Int) ≤ (M : Int) + 1 := by omega
                  have i3 : (M : Int) + 1 ≤ k2 := by omega
                  have xth : wr.cell? ⟨gb + 1, M, none⟩ = some (.bool (bs.getD M false)) := own_at hq.out.th (by
                    rw [List.getElem?_map, List.getD_eq_getElem?_getD, List.getElem?_eq_getElem (by rw [Hbl.out]; omega)]; rfl)
                  cases hbM : bs.getD M false with
                  | false =>
                    rw [hbM] at xth
                    have HbM := Lib.hid hbM
                    clear hbM
                    go_wp2_with fail
                    refine Hrem.out.mono ?_
                    rintro e w6 ⟨ok, l', rfl, hR, hw6, hC6⟩
                    rcases removed_liveK Hbl.out hR with ⟨rfl, rfl, _⟩ | ⟨_, _, _, _, hh⟩
                    · have HQ6 := Lib.hid (hq.out.rem0 hw6 hC6)
                      clear hR hw6 hC6
                      go_wp2
                      go_roundw
                      case rel => exact ⟨r + 1, bs, by omega, by go_num, HQ6⟩
                      case measure => simp [intOf]; omega
                    · exact absurd (hh.symm.trans HbM.out) (by simp)
                  | true =>
                    rw [hbM] at xth
                    have HbM := Lib.hid hbM
                    clear hbM
                    go_wp2_with fail
                    refine Hrem.out.mono ?_
                    rintro e w6 ⟨ok, l', rfl, hR, hw6, hC6⟩
                    rcases removed_liveK Hbl.out hR with ⟨_, _, hh⟩ | ⟨rfl, rfl, _, _, _⟩
                    · exact absurd ⟨by omega, by omega, HbM.out⟩ hh
                    · obtain ⟨f6, ⟨v6, x6⟩, hq6⟩ := hq.out.rem1 (m := M) (by omega) hw6 hC6
                      have HQ6 := Lib.hid hq6
                      clear hR hw6 hC6 hq6
                      go_wp2
                      go_roundw
                      case rel => exact ⟨r + 1, bs.set M false, by omega, by go_num, HQ6⟩
                      case measure => simp [intOf]; omega
                · have i2 : (1 : Int) ≤ N := by omega
                  have i3 : ¬ (N : Int) ≤ k2 := by omega
                  go_wp2_with fail
                  refine Hrem.out.mono ?_
                  rintro e w6 ⟨ok, l', rfl, hR, hw6, hC6⟩
                  rcases removed_liveK Hbl.out hR with ⟨rfl, rfl, _⟩ | ⟨_, _, _, hh, _⟩
                  · have HQ6 := Lib.hid (hq.out.rem0 hw6 hC6)
                    clear hR hw6 hC6
                    go_wp2
                    go_roundw
                    case rel => exact ⟨r + 1, bs, by omega, by go_num, HQ6⟩
                    case measure => simp [intOf]; omega
                  · exact absurd hh hNK
              · have N0 : ¬ (1 : Int) ≤ N := by omega
                go_wp2_with fail
                refine Hrem.out.mono ?_
                rintro e w6 ⟨ok, l', rfl, hR, hw6, hC6⟩
                rcases removed_liveK Hbl.out hR with ⟨rfl, rfl, _⟩ | ⟨_, _, hh, _, _⟩
                · have HQ6 := Lib.hid (hq.out.rem0 hw6 hC6)
                  clear hR hw6 hC6
                  go_wp2
                  go_roundw
                  case rel => exact ⟨r + 1, bs, by omega, by go_num, HQ6⟩
                  case measure => simp [intOf]; omega
                · exact absurd hh hN1
            · have r1 : ¬ (r : Int) < R := by omega
              obtain rfl : r = R := by omega
              clear hr hlr
              obtain ⟨ids, hids⟩ : ∃ ids : Nat → Int, ids = fun i => (chs.map Chv.id).getD i 0 := ⟨_, rfl⟩
              have hidc : ∀ i ch, chs[i]? = some ch → ids i = ch.id := by
                intro i ch hch
                rw [hids]
                show (chs.map Chv.id).getD i 0 = ch.id
                rw [List.getD_eq_getElem?_getD, List.getElem?_map, hch]; rfl
              have hAo : 0 < k2 → ∀ g off, Ah = some ⟨g, off, none⟩ → g < w.heap.size := fun h0 g off hA => by
                obtain ⟨g', off', hA', hl', _⟩ := HT.out.hr.addr h0
                rw [hA] at hA'
                injection hA' with hA'
                injection hA' with e1 _
                rw [e1]; exact hl'
              have hlv := live_len bs k2
              have TI := tellIn (β := w.heap.size) gb w.heap.size nb cb Ah k2 hc hs ids (live bs k2) chs (fun m hm => (live_mem.1 hm).1) (live_nodup _ _) k8 (by omega) HT.out.hl (by rw [HT.out.cl]; exact n12) hidc
                (fun d hd => by have := HS.out d hd; omega) hq.out.d1 hq.out.d2 s2g hq.out.d3 hAo
              have hst : TSt w.heap.size gb w.heap.size nb cb Ah k2 hc hs ids (live bs k2) 0 0 wr := by
                refine ⟨⟨none, 0, hq.out.got, World.ownsRow_nil _ _ _ _⟩, hq.out.nbs, fun m hm => ?_, hq.out.how, HT.out.hr.keep hq.out.kp (by simp)⟩
                rw [List.take_zero, if_neg (by simp)]
                exact hq.out.cbs m (live_mem.1 hm).1
              have htell := tell TI b k2 A k c wr hq.out.ws hq.out.kp.size (HT.out.laid.keep hq.out.kp (by simp)) HT.out.laid.lt HT.out.cl (fun w' h => HT.out.cr.keep (h.keeps hq.out.kp (Nat.le_refl _)) (by simp))
                (fun w' d h hd => by
                  have hci := HT.out.ci d hd
                  obtain ⟨xs, hx⟩ := hci.xa
                  obtain ⟨ys, hy⟩ := hci.xb
                  have kk := h.keeps hq.out.kp (Nat.le_refl _)
                  exact ⟨xs, ys, hx.keep kk (by simp), hy.keep kk (by simp)⟩) (by omega) (by unfold obsOf; rw [List.length_map]; omega) hst
              have Htell := Lib.hid htell
              have Hidc := Lib.hid hidc
              clear htell TI hst hids hidc hAo
              go_wp2_with fail
              refine Htell.out.mono ?_
              rintro e w5 ⟨hP, hS5, hC5⟩
              obtain ⟨ev, rfl⟩ : ∃ ev, e = .returned ev := by
                unfold TellP at hP
                split at hP
                · exact ⟨_, hP⟩
                · obtain ⟨_, _, h, _⟩ := hP; exact ⟨_, h⟩
              have K5 := Lib.hid (hC5.keeps hq.out.kp (Nat.le_refl _))
              have T5 := Lib.hid (hC5.own hq.out.th (by decide))
              have Hbl := Lib.hid hq.out.bl
              have HP := Lib.hid hP
              have HS5 := Lib.hid hS5
              clear hP hS5 hC5 Htell hq
              go_wp2
              go_loopw [10, 20, 21] (fun f v i wr => ∃ i0 : Nat, i0 ≤ k ∧ i = .int .i64 i0 ∧ f = .int .i64 (FV (fst1 (fun n => hs.getD n 0) (live bs k2) i0 [])) ∧ Hid (wr.ownsRow w5.heap.size 2 1 v (gotL ids (live bs k2) i0 []).length ((gotL ids (live bs k2) i0 []).map (Value.int .i64))) ∧ Hid (Keeps [] w5 wr)) (fun _ _ i _ => k - (intOf i).toNat)
              case atStart => exact ⟨0, Nat.zero_le _, rfl, rfl, World.ownsRow_nil _ _ _ _, Keeps.refl _ _⟩
              case round =>
                obtain ⟨i0, hi0, rfl, rfl, hv, hK⟩ := hrel
                by_cases hik : i0 < k
                · obtain ⟨ch, hch⟩ : ∃ ch, chs[i0]? = some ch := ⟨_, List.getElem?_eq_getElem (by rw [HT.out.cl]; exact hik)⟩
                  have hid := Hidc.out i0 ch hch
                  have p0 : (0 : Int) ≤ i0 := by omega
                  have p1 : (i0 : Int) < k := by omega
                  have Hch := Lib.hid hch
                  have Hid0 := Lib.hid hid
                  clear hch hid
                  go_wp2
                  go_loopw [10, 20, 22] (fun f v i wr => ∃ m : Nat, m ≤ k2 ∧ i = .int .i64 m ∧ f = .int .i64 (FV (fst1 (fun n => hs.getD n 0) (live bs k2) i0 (live bs m))) ∧ Hid (wr.ownsRow w5.heap.size 2 1 v (gotL ids (live bs k2) i0 (live bs m)).length ((gotL ids (live bs k2) i0 (live bs m)).map (Value.int .i64))) ∧ Hid (Keeps [] w5 wr)) (fun _ _ i _ => k2 - (intOf i).toNat)
                  case atStart => exact ⟨0, Nat.zero_le _, rfl, rfl, hv, hK⟩
                  case round =>
                    clear hv hK
                    obtain ⟨m, hm, rfl, rfl, hv, hK⟩ := hrel
                    have xh : wr.cell? ⟨w.heap.size, 0, none⟩ = some (.slice Ah k2 hc) := (hK.out.blk HS5.out.how (by simp)).cell 0
                    by_cases hmk : m < k2
                    · have m0 : (0 : Int) ≤ m := by omega
                      have m1 : (m : Int) < k2 := by omega
                      have xth : wr.cell? ⟨gb + 1, m, none⟩ = some (.bool (bs.getD m false)) := own_at (own_keep T5.out hK.out (by simp)) (by
                        rw [List.getElem?_map, List.getD_eq_getElem?_getD, List.getElem?_eq_getElem (by rw [Hbl.out]; omega)]; rfl)
                      cases hbm : bs.getD m false with
                      | false =>
                        rw [hbm] at xth
                        have Hlv := Lib.hid (show live bs (m + 1) = live bs m from by rw [live_succ, hbm]; rfl)
                        clear hbm
                        go_wp2
                        go_roundw
                        case rel => exact ⟨m + 1, by omega, by go_num, by rw [Hlv.out], by rw [Hlv.out]; exact hv, hK⟩
                        case measure => simp [intOf]; omega
                      | true =>
                        rw [hbm] at xth
                        have Hlv := Lib.hid (show live bs (m + 1) = live bs m ++ [m] from by rw [live_succ, hbm]; rfl)
                        clear hbm
                        obtain ⟨ga, oa, hA, hcid⟩ : ∃ g off, A = some ⟨g, off, none⟩ ∧ wr.cell? ⟨g, off + i0 * 4 + 1, none⟩ = some (.int .i64 ch.id) := by
                          obtain ⟨q0, q1, q2, q3⟩ := chCells_at Hch.out
                          obtain ⟨g, off, hA, _, hc⟩ := (HT.out.cr.keep (K5.out.trans_nil hK.out) (by simp)).addr (by omega)
                          exact ⟨g, off, hA, hc _ _ q1⟩
                        obtain ⟨hmv, hhm⟩ : ∃ x, hs.getD m 0 = x := ⟨_, rfl⟩
                        obtain ⟨gh, oh, hAh, hhow⟩ : ∃ g off, Ah = some ⟨g, off, none⟩ ∧ ∀ w', Keeps [] w w' → w'.cell? ⟨g, off + m, none⟩ = some (.int .i64 hmv) := by
                          have hh : (hs.map (Value.int .i64))[m]? = some (.int .i64 (hs.getD m 0)) := by
                            rw [List.getElem?_map, List.getD_eq_getElem?_getD, List.getElem?_eq_getElem (by rw [HT.out.hl]; omega)]; rfl
                          rw [hhm] at hh
                          obtain ⟨g, off, hA, _, hc⟩ := HT.out.hr.addr (by omega)
                          exact ⟨g, off, hA, fun w' k' => k'.cell (hc _ _ hh) (by simp)⟩
                        subst hA
                        subst hAh
                        have hvl := gotL_bound ids (live bs k2) (i := i0) (a := 8) (L := live bs m) (by omega) (by have := live_len bs k2; omega) (by have := live_len bs m; omega) (by omega)
                        have hsrc : Rd (wr.alloc (.cells #[.int .i64 m, .int .i64 ch.id] 2)) 2 1 (some ⟨wr.heap.size, 0, none⟩) 2 [.int .i64 m, .int .i64 ch.id] :=
                          rd_of_blk (cur := [.int .i64 m, .int .i64 ch.id]) (Blk.new _ _ _) rfl rfl (by intro u hu; simp at hu; rcases hu with rfl | rfl <;> rfl)
                        have ksz := hK.out.size
                        have Hhow := Lib.hid hhow
                        have Hsrc := Lib.hid hsrc
                        clear hhow hsrc
                        generalize hX : fst1 (fun n => hs.getD n 0) (live bs k2) i0 (live bs m) = X at *
                        have HX := Lib.hid hX
                        clear hX
                        have HG := Lib.hid (show ∀ (w8 : World) (v8 : Value), w8.ownsRow w5.heap.size 2 1 v8 ((gotL ids (live bs k2) i0 (live bs m)).length + 2) ((gotL ids (live bs k2) i0 (live bs m)).map (Value.int .i64) ++ [.int .i64 m, .int .i64 ch.id]) → w8.ownsRow w5.heap.size 2 1 v8 (gotL ids (live bs k2) i0 (live bs (m + 1))).length ((gotL ids (live bs k2) i0 (live bs (m + 1))).map (Value.int .i64)) from fun w8 v8 h => by
                          rw [Hlv.out, gotL_more, Hid0.out, List.length_append, List.map_append]; exact h)
                        obtain ⟨A0, hA0⟩ : ∃ x, bits BinOp.and .i64 hmv 3 = x := ⟨_, rfl⟩
                        obtain ⟨C0, hC0⟩ : ∃ x, bits BinOp.and .i64 (hmv / 4) 3 = x := ⟨_, rfl⟩
                        have hA0' := Lib.hid hA0
                        have hC0' := Lib.hid hC0
                        by_cases a1 : A0 = 1
                        · have qa1 : (A0 == 1) = true := by simpa using a1
                          have qa2 : (A0 == 2) = false := by rw [a1]; rfl
                          by_cases cc : (i0 : Int) + 1 = C0
                          · have qc : (C0 == (i0 : Int) + 1) = true := by rw [cc]; simp
                            have hcode : codeN (fun n => hs.getD n 0) i0 m = some (1, m) := by unfold codeN tCode; simp only [hhm, hA0, hC0]; rw [if_pos ⟨a1, cc⟩]
                            cases hX : X with
                            | none =>
                              have Hnew := Lib.hid (show Value.int .i64 (100 + (m : Int)) = .int .i64 (FV (fst1 (fun n => hs.getD n 0) (live bs k2) i0 (live bs (m + 1)))) from by rw [Hlv.out, fst1_more, HX.out]; rw [hX, hcode]; rfl)
                              subst hX
                              have qx : (FV none == 0) = true := rfl
                              clear hcode cc hhm hA0' hC0' a1
                              go_wp2_with (at_builtin
                                           refine wpList_append_rd _ rfl (.tmp 147) (.tmp 154) _ rfl w5.heap.size 2 jb _ 1 8 Tryz.underlying74 hjb hjb0 hjb1 hjb2 rfl (by omega) u20 _ _ rfl (hv.out.alloc _) (some ⟨wr.heap.size, 0, none⟩) 2 2 [.int .i64 m, .int .i64 ch.id] rfl Hsrc.out (by unfold maxLen; omega) (by omega) (by simp; omega) ?_
                                           intro v8 w8 hown8 hg8 _
                                           have K8' : Keeps [] w5 w8 := (hK.out.alloc _).trans (keeps_grown hg8) (fun b hb => .inr (own_base hv.out hb).1)
                                           have K8 := Lib.hid K8'
                                           have y1 : w8.cell? ⟨w.heap.size, 0, none⟩ = some (.slice (some ⟨gh, oh, none⟩) k2 hc) := (K8'.blk HS5.out.how (by simp)).cell 0
                                           have y2 := Hhow.out w8 (K5.out.trans_nil K8')
                                           have Hv8 := Lib.hid (HG.out w8 v8 hown8)
                                           clear hown8 hg8 K8' xth hcid xh)
                              go_roundw
                              case rel => exact ⟨m + 1, by omega, by go_num, Hnew.out, Hv8, K8⟩
                              case measure => simp [intOf]; omega
                            | some q =>
                              have Hnew := Lib.hid (show Value.int .i64 (FV X) = .int .i64 (FV (fst1 (fun n => hs.getD n 0) (live bs k2) i0 (live bs (m + 1)))) from by rw [Hlv.out, fst1_more, HX.out]; rw [FV_skip (.inl (by rw [hX]; exact nofun))])
                              subst hX
                              have qx : (FV (some q) == 0) = false := by rw [FV_zero]; rfl
                              clear hcode cc hhm hA0' hC0' a1
                              go_wp2_with (at_builtin
                                           refine wpList_append_rd _ rfl (.tmp 147) (.tmp 154) _ rfl w5.heap.size 2 jb _ 1 8 Tryz.underlying74 hjb hjb0 hjb1 hjb2 rfl (by omega) u20 _ _ rfl (hv.out.alloc _) (some ⟨wr.heap.size, 0, none⟩) 2 2 [.int .i64 m, .int .i64 ch.id] rfl Hsrc.out (by unfold maxLen; omega) (by omega) (by simp; omega) ?_
                                           intro v8 w8 hown8 hg8 _
                                           have K8' : Keeps [] w5 w8 := (hK.out.alloc _).trans (keeps_grown hg8) (fun b hb => .inr (own_base hv.out hb).1)
                                           have K8 := Lib.hid K8'
                                           have y1 : w8.cell? ⟨w.heap.size, 0, none⟩ = some (.slice (some ⟨gh, oh, none⟩) k2 hc) := (K8'.blk HS5.out.how (by simp)).cell 0
                                           have y2 := Hhow.out w8 (K5.out.trans_nil K8')
                                           have Hv8 := Lib.hid (HG.out w8 v8 hown8)
                                           clear hown8 hg8 K8' xth hcid xh)
                              go_roundw
                              case rel => exact ⟨m + 1, by omega, by go_num, Hnew.out, Hv8, K8⟩
                              case measure => simp [intOf]; omega
                          · have qc : (C0 == (i0 : Int) + 1) = false := by simpa using fun h => cc h.symm
                            have hcode : codeN (fun n => hs.getD n 0) i0 m = none := by unfold codeN tCode; simp only [hhm, hA0, hC0]; rw [if_neg (fun h => cc h.2), if_neg (fun h => cc h.2)]
                            have Hnew := Lib.hid (show Value.int .i64 (FV X) = .int .i64 (FV (fst1 (fun n => hs.getD n 0) (live bs k2) i0 (live bs (m + 1)))) from by rw [Hlv.out, fst1_more, HX.out]; rw [FV_skip (.inr hcode)])
                            clear hcode cc hhm hA0' hC0' a1
                            go_wp2_with (at_builtin
                                         refine wpList_append_rd _ rfl (.tmp 147) (.tmp 154) _ rfl w5.heap.size 2 jb _ 1 8 Tryz.underlying74 hjb hjb0 hjb1 hjb2 rfl (by omega) u20 _ _ rfl (hv.out.alloc _) (some ⟨wr.heap.size, 0, none⟩) 2 2 [.int .i64 m, .int .i64 ch.id] rfl Hsrc.out (by unfold maxLen; omega) (by omega) (by simp; omega) ?_
                                         intro v8 w8 hown8 hg8 _
                                         have K8' : Keeps [] w5 w8 := (hK.out.alloc _).trans (keeps_grown hg8) (fun b hb => .inr (own_base hv.out hb).1)
                                         have K8 := Lib.hid K8'
                                         have y1 : w8.cell? ⟨w.heap.size, 0, none⟩ = some (.slice (some ⟨gh, oh, none⟩) k2 hc) := (K8'.blk HS5.out.how (by simp)).cell 0
                                         have y2 := Hhow.out w8 (K5.out.trans_nil K8')
                                         have Hv8 := Lib.hid (HG.out w8 v8 hown8)
                                         clear hown8 hg8 K8' xth hcid xh)
                            go_roundw
                            case rel => exact ⟨m + 1, by omega, by go_num, Hnew.out, Hv8, K8⟩
                            case measure => simp [intOf]; omega
                        · have qa1 : (A0 == 1) = false := by simpa using a1
                          by_cases a2 : A0 = 2
                          · have qa2 : (A0 == 2) = true := by simpa using a2
                            by_cases cc : (i0 : Int) + 1 = C0
                            · have qc : (C0 == (i0 : Int) + 1) = true := by rw [cc]; simp
                              have hcode : codeN (fun n => hs.getD n 0) i0 m = some (2, m) := by unfold codeN tCode; simp only [hhm, hA0, hC0]; rw [if_neg (fun h => a1 h.1), if_pos ⟨a2, cc⟩]
                              cases hX : X with
                              | none =>
                                have Hnew := Lib.hid (show Value.int .i64 (100 + (m : Int)) = .int .i64 (FV (fst1 (fun n => hs.getD n 0) (live bs k2) i0 (live bs (m + 1)))) from by rw [Hlv.out, fst1_more, HX.out]; rw [hX, hcode]; rfl)
                                subst hX
                                have qx : (FV none == 0) = true := rfl
                                clear hcode cc hhm hA0' hC0' a1
                                clear a2
                                go_wp2_with (at_builtin
                                             refine wpList_append_rd _ rfl (.tmp 147) (.tmp 154) _ rfl w5.heap.size 2 jb _ 1 8 Tryz.underlying74 hjb hjb0 hjb1 hjb2 rfl (by omega) u20 _ _ rfl (hv.out.alloc _) (some ⟨wr.heap.size, 0, none⟩) 2 2 [.int .i64 m, .int .i64 ch.id] rfl Hsrc.out (by unfold maxLen; omega) (by omega) (by simp; omega) ?_
                                             intro v8 w8 hown8 hg8 _
                                             have K8' : Keeps [] w5 w8 := (hK.out.alloc _).trans (keeps_grown hg8) (fun b hb => .inr (own_base hv.out hb).1)
                                             have K8 := Lib.hid K8'
                                             have y1 : w8.cell? ⟨w.heap.size, 0, none⟩ = some (.slice (some ⟨gh, oh, none⟩) k2 hc) := (K8'.blk HS5.out.how (by simp)).cell 0
                                             have y2 := Hhow.out w8 (K5.out.trans_nil K8')
                                             have Hv8 := Lib.hid (HG.out w8 v8 hown8)
                                             clear hown8 hg8 K8' xth hcid xh)
                                go_roundw
                                case rel => exact ⟨m + 1, by omega, by go_num, Hnew.out, Hv8, K8⟩
                                case measure => simp [intOf]; omega
                              | some q =>
                                have Hnew := Lib.hid (show Value.int .i64 (FV X) = .int .i64 (FV (fst1 (fun n => hs.getD n 0) (live bs k2) i0 (live bs (m + 1)))) from by rw [Hlv.out, fst1_more, HX.out]; rw [FV_skip (.inl (by rw [hX]; exact nofun))])
                                subst hX
                                have qx : (FV (some q) == 0) = false := by rw [FV_zero]; rfl
                                clear hcode cc hhm hA0' hC0' a1
                                clear a2
                                go_wp2_with (at_builtin
                                             refine wpList_append_rd _ rfl (.tmp 147) (.tmp 154) _ rfl w5.heap.size 2 jb _ 1 8 Tryz.underlying74 hjb hjb0 hjb1 hjb2 rfl (by omega) u20 _ _ rfl (hv.out.alloc _) (some ⟨wr.heap.size, 0, none⟩) 2 2 [.int .i64 m, .int .i64 ch.id] rfl Hsrc.out (by unfold maxLen; omega) (by omega) (by simp; omega) ?_
                                             intro v8 w8 hown8 hg8 _
                                             have K8' : Keeps [] w5 w8 := (hK.out.alloc _).trans (keeps_grown hg8) (fun b hb => .inr (own_base hv.out hb).1)
                                             have K8 := Lib.hid K8'
                                             have y1 : w8.cell? ⟨w.heap.size, 0, none⟩ = some (.slice (some ⟨gh, oh, none⟩) k2 hc) := (K8'.blk HS5.out.how (by simp)).cell 0
                                             have y2 := Hhow.out w8 (K5.out.trans_nil K8')
                                             have Hv8 := Lib.hid (HG.out w8 v8 hown8)
                                             clear hown8 hg8 K8' xth hcid xh)
                                go_roundw
                                case rel => exact ⟨m + 1, by omega, by go_num, Hnew.out, Hv8, K8⟩
                                case measure => simp [intOf]; omega
                            · have qc : (C0 == (i0 : Int) + 1) = false := by simpa using fun h => cc h.symm
                              have hcode : codeN (fun n => hs.getD n 0) i0 m = none := by unfold codeN tCode; simp only [hhm, hA0, hC0]; rw [if_neg (fun h => cc h.2), if_neg (fun h => cc h.2)]
                              have Hnew := Lib.hid (show Value.int .i64 (FV X) = .int .i64 (FV (fst1 (fun n => hs.getD n 0) (live bs k2) i0 (live bs (m + 1)))) from by rw [Hlv.out, fst1_more, HX.out]; rw [FV_skip (.inr hcode)])
                              clear hcode cc hhm hA0' hC0' a1
                              clear a2
                              go_wp2_with (at_builtin
                                           refine wpList_append_rd _ rfl (.tmp 147) (.tmp 154) _ rfl w5.heap.size 2 jb _ 1 8 Tryz.underlying74 hjb hjb0 hjb1 hjb2 rfl (by omega) u20 _ _ rfl (hv.out.alloc _) (some ⟨wr.heap.size, 0, none⟩) 2 2 [.int .i64 m, .int .i64 ch.id] rfl Hsrc.out (by unfold maxLen; omega) (by omega) (by simp; omega) ?_
                                           intro v8 w8 hown8 hg8 _
                                           have K8' : Keeps [] w5 w8 := (hK.out.alloc _).trans (keeps_grown hg8) (fun b hb => .inr (own_base hv.out hb).1)
                                           have K8 := Lib.hid K8'
                                           have y1 : w8.cell? ⟨w.heap.size, 0, none⟩ = some (.slice (some ⟨gh, oh, none⟩) k2 hc) := (K8'.blk HS5.out.how (by simp)).cell 0
                                           have y2 := Hhow.out w8 (K5.out.trans_nil K8')
                                           have Hv8 := Lib.hid (HG.out w8 v8 hown8)
                                           clear hown8 hg8 K8' xth hcid xh)
                              go_roundw
                              case rel => exact ⟨m + 1, by omega, by go_num, Hnew.out, Hv8, K8⟩
                              case measure => simp [intOf]; omega
                          · have qa2 : (A0 == 2) = false := by simpa using a2
                            have hcode : codeN (fun n => hs.getD n 0) i0 m = none := by unfold codeN tCode; simp only [hhm, hA0, hC0]; rw [if_neg (fun h => a1 h.1), if_neg (fun h => a2 h.1)]
                            have Hnew := Lib.hid (show Value.int .i64 (FV X) = .int .i64 (FV (fst1 (fun n => hs.getD n 0) (live bs k2) i0 (live bs (m + 1)))) from by rw [Hlv.out, fst1_more, HX.out]; rw [FV_skip (.inr hcode)])
                            clear hcode hhm hA0' hC0' a1 a2
                            go_wp2_with (at_builtin
                                         refine wpList_append_rd _ rfl (.tmp 147) (.tmp 154) _ rfl w5.heap.size 2 jb _ 1 8 Tryz.underlying74 hjb hjb0 hjb1 hjb2 rfl (by omega) u20 _ _ rfl (hv.out.alloc _) (some ⟨wr.heap.size, 0, none⟩) 2 2 [.int .i64 m, .int .i64 ch.id] rfl Hsrc.out (by unfold maxLen; omega) (by omega) (by simp; omega) ?_
                                         intro v8 w8 hown8 hg8 _
                                         have K8' : Keeps [] w5 w8 := (hK.out.alloc _).trans (keeps_grown hg8) (fun b hb => .inr (own_base hv.out hb).1)
                                         have K8 := Lib.hid K8'
                                         have y1 : w8.cell? ⟨w.heap.size, 0, none⟩ = some (.slice (some ⟨gh, oh, none⟩) k2 hc) := (K8'.blk HS5.out.how (by simp)).cell 0
                                         have y2 := Hhow.out w8 (K5.out.trans_nil K8')
                                         have Hv8 := Lib.hid (HG.out w8 v8 hown8)
                                         clear hown8 hg8 K8' xth hcid xh)
                            go_roundw
                            case rel => exact ⟨m + 1, by omega, by go_num, Hnew.out, Hv8, K8⟩
                            case measure => simp [intOf]; omega
                    · have q1 : ¬ (m : Int) < k2 := by omega
                      obtain rfl : m = k2 := by omega
                      go_wp2
                      go_roundw
                      case rel =>
                        refine ⟨i0 + 1, by omega, by go_num, ?_, ?_, hK⟩
                        · rw [fst1_next]
                        · unfold Hid; rw [gotL_next]; exact hv.out
                      case measure => simp [intOf]; omega
                · have p1 : ¬ (i0 : Int) < k := by omega
                  obtain rfl : i0 = k := by omega
                  have hP := HP.out
                  have hS5 := HS5.out
                  rw [List.take_zero] at hP
                  obtain ⟨Ag, cg, hg1, hg2⟩ := hS5.got
                  rw [List.take_zero] at hg1 hg2
                  obtain ⟨Aw, cw, rfl, _, _⟩ := own_form hv.out
                  have hgr := own_rd (own_keep hg2 hK.out (by simp)) (Cells1.ints _ _)
                  have hwr := own_rd hv.out (Cells1.ints _ _)
                  have hvl := gotL_bound ids (live bs k2) (i := i0) (a := 8) (L := []) (by omega) (by have := live_len bs k2; omega) (by simp) (by omega)
                  have xg : wr.cell? ⟨gb, 0, none⟩ = some (.slice Ag (gotL ids (live bs k2) i0 []).length cg) := (hK.out.blk hg1 (by simp)).cell 0
                  have hids := _root_.Go.Proofs.YtkngjgblfappoaaGreatDoor.ids Ag Aw _ cg cw _ wr hgr hwr (by omega)
                  have Hids := Lib.hid hids
                  have KK := Lib.hid (K5.out.trans_nil hK.out)
                  have l5 := HT.out.laid.keep K5.out (by simp)
                  generalize hX : fst1 (fun n => hs.getD n 0) (live bs k2) i0 [] = X at *
                  clear hids hgr hwr hg1 hg2 hS5 hX
                  generalize (gotL ids (live bs k2) i0 []).length = gn at *
                  cases X with
                  | none =>
                    obtain rfl : ev = .nilIface := by injection hP
                    have qx : (FV none == 0) = true := rfl
                    clear hP
                    go_wp2_with fail
                    refine Hids.out.mono ?_
                    rintro e w9 ⟨rfl, k9⟩
                    have HF := Lib.hid (KK.out.trans_nil k9)
                    clear k9
                    go_wp2
                    go_ret
                    exact ⟨rfl, HF.out⟩
                  | some q =>
                    obtain ⟨fb, o, he, hF, _, hM⟩ := hP
                    obtain rfl : ev = .iface 126 (ptr fb) := by injection he
                    have qx : (FV (some q) == 0) = false := by rw [FV_zero]; rfl
                    have qz : (100 + (q.2 : Int) == FV (some q)) = true := by show (100 + (q.2 : Int) == 100 + (q.2 : Int)) = true; simp
                    clear he
                    go_wp2_with fail
                    refine Hids.out.mono ?_
                    rintro e w9 ⟨rfl, k9⟩
                    have k59 := hK.out.trans_nil k9
                    have hF9 : FaultAt w9 fb ⟨#[]⟩ o.err o.pan := k59.blk hF (by simp)
                    have hM9 := hM.chg (S := []) (B := []) (β := 0) (Chg.of_keeps k59) (by simp)
                    have l9 := l5.keep k59 (by simp)
                    have hst := struck fb q o w9 hF9 hM9 l9 l9.lt
                    have Hst := Lib.hid hst
                    have KF := Lib.hid (KK.out.trans_nil k9)
                    clear k9 k59 hF9 hM9 l9 hst hF hM
                    go_wp2_with fail
                    refine Hst.out.mono ?_
                    rintro e w10 ⟨rfl, k10⟩
                    have HF := Lib.hid (KF.out.trans_nil k10)
                    clear k10
                    go_wp2
                    go_ret
                    exact ⟨rfl, HF.out⟩
end Go.Proofs.YtkngjgblfappoaaGreatDoor
