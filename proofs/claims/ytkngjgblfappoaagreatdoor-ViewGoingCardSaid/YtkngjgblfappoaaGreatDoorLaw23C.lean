/-
  rialtolaw23.ViewGoing: the walk.
-/
import Derived.Test.YtkngjgblfappoaaGreatDoorLaw23B
import Derived.OwnWalk
import Derived.Laws.OwnMore
namespace Go.Proofs.YtkngjgblfappoaaGreatDoor
open Go.RowKit (Below intOf Hid)

theorem infoBool : (Tryz.prog.info? 4).map (fun i => (i.zero, i.size, i.bytes)) = some (some (.bool false), 1, 1) := by kernel_rfl

/-- What stands while rows go: the sequence, its hub, the one cursor, the log. -/
structure GoS (β : Nat) (w : World) (x km sx t m h lg c K : Nat) (l : List Int) (id : Int) (at_ : Bool) (N : Nat) (wr : World) : Prop where
  q : IdxQ β wr x km K sx t m K l
  hh : HubAt β wr h [c]
  hc : CurAt wr c x id at_ false
  hl : ∃ vs, vs.length ≤ N ∧ LogAt β wr lg vs
  kp : Keeps [] w wr
  cl : β ≤ c
theorem GoS.chg {β : Nat} {w wr w' : World} {x km sx t m h lg c K N : Nat} {l : List Int} {id : Int} {at_ : Bool} (g : GoS β w x km sx t m h lg c K l id at_ N wr) (k : Chg β [4] [] wr w') (hβ : w.heap.size ≤ β) : GoS β w x km sx t m h lg c K l id at_ N w' := by
  obtain ⟨vs, hv, hl⟩ := g.hl
  exact ⟨g.q.chg k (by simp) (by simp) (by decide), g.hh.chg k (by decide) (by decide), k.blk g.hc (by decide), ⟨vs, hv, hl.chg k (by decide) (by decide)⟩, k.keeps g.kp hβ, g.cl⟩

/-- Which rows are there: those below j. -/
def bsAt (T j : Nat) : List Bool := (List.range T).map fun a => decide (1 ≤ a ∧ a < j)
theorem bsAt_one (T : Nat) : bsAt T 1 = List.replicate T false := by
  unfold bsAt
  rw [List.eq_replicate_iff]
  refine ⟨by simp, fun b hb => ?_⟩
  obtain ⟨a, _, rfl⟩ := List.mem_map.1 hb
  simp
  omega
theorem bsAt_set {T j : Nat} (h1 : 1 ≤ j) : (bsAt T j).set j true = bsAt T (j + 1) := by
  refine List.ext_getElem (by simp [bsAt]) fun i h3 h4 => ?_
  simp only [bsAt, List.getElem_set, List.getElem_map, List.getElem_range]
  split
  · rename_i h; subst h; simp; omega
  · rename_i h
    have : (1 ≤ i ∧ i < j) ↔ (1 ≤ i ∧ i < j + 1) := by omega
    simp only [this]
theorem bsAt_len (T j : Nat) : (bsAt T j).length = T := by simp [bsAt]
theorem bools_set (bs : List Bool) (j : Nat) (b : Bool) : (bs.map Value.bool).set j (.bool b) = (bs.set j b).map Value.bool := by rw [List.map_set]

set_option maxRecDepth 100000 in
set_option maxHeartbeats 3200000 in
theorem viewGoing (n at_ : Nat) (A : Option Addr) (len cp : Nat) (os : List Nat) (w : World) (hn : n < 256) (hat : at_ < 256) (hol : os.length = len) (hr : ∀ (i o : Nat), os[i]? = some o → ∃ a, A = some a ∧ w.cell? (a.add i) = some (.int .u8 o)) (ho : ∀ o, o ∈ os → o < 256) :
    Calls Tryz.prog 4 #[.int .u8 n, .int .u8 at_, .slice A len cp] w fun e w' => e = .returned (.bool true) ∧ Keeps [] w w' := by
  obtain ⟨ib, hib, hib0, hib1, hib2⟩ := info_parts infoBool
  by_cases hlen : 40 < len
  · have b0 : decide ((40 : Int) < len) = true := by simp; omega
    clear hol ho hr hn hat
    go_enter Tryz.func4, Tryz.ntmps4
    go_wp2_with (go_at_call 18; refine (known23 w).mono ?_; rintro e w1 ⟨rfl, k1⟩)
    go_ret
    exact ⟨rfl, k1⟩
  · have b0 : decide ((40 : Int) < len) = false := by simp; omega
    obtain ⟨K, hK⟩ : ∃ K, K = n % 20 + 1 := ⟨_, rfl⟩
    have hK1 : 1 ≤ K := by omega
    have hK2 : K ≤ 20 := by omega
    have hmod : (n : Int) % 20 + 1 = K := by omega
    have kpos : (0 : Int) < K := by omega
    have kne : ((K : Int) == 0) = false := by simp; omega
    obtain ⟨wh, hwh⟩ : ∃ wh, wh = at_ % K + 1 := ⟨_, rfl⟩
    have hw1 : 1 ≤ wh := by omega
    have hw2 : wh ≤ K := by have := Nat.mod_lt at_ hK1; omega
    have hwm : (at_ : Int) % K + 1 = wh := by rw [hwh]; simp
    have Hol := Lib.hid hol
    have Ho := Lib.hid ho
    have Hr := Lib.hid hr
    clear hol ho hr hK hwh
    go_enter Tryz.func4, Tryz.ntmps4
    go_wp2_with (first
      | (go_at_call 18; refine (known23 w).mono ?_; rintro e w1 ⟨rfl, k1⟩)
      | (go_at_call 19
         refine (seq23 K w1 (by omega)).mono ?_
         rintro e w2 ⟨x, km, sx, t, m, h, lg, vs, rfl, q2, hh2, l2, hvl, k2⟩
         have hlen2 : (upTo K).length ≤ 100000 := by rw [upTo_len]; omega
         have hi2 : IdsOk x (upTo K) w2 := q2.ids hlen2)
      | (go_at_call 20
         refine (hubOpen h x [] (upTo K) w2 hh2 hi2 q2.defOk (by simp)).mono ?_
         rintro e w3 ⟨c, id, ok, rfl, hv, hc3, hh3, C3, hcl⟩
         have q3 := q2.chg C3 (by simp) (by simp) (by decide)
         have l3 := l2.chg C3 (by decide) (by decide)
         have hi3 : IdsOk x (upTo K) w3 := q3.ids hlen2
         have Hv := Lib.hid hv
         clear hv)
      | (go_at_call 21
         refine (curTo c x id ok (upTo K) wh w3 hc3 hi3 (upTo_mem.2 (by omega)) hlen2).mono ?_
         rintro e w4 ⟨rfl, hc4, k4⟩
         have s13 := k2.size
         have C4 : Chg w1.heap.size [146] [] w3 w4 := chg_cells hc3 k4 (by simp) (by omega)
         have q4 := q3.chg C4 (by simp) (by simp) (by decide)
         have l4 := l3.chg C4 (by decide) (by decide)
         have hh4 := hh3.chg C4 (by decide) (by decide)
         have K4 : Keeps [] w w4 := C4.keeps (C3.keeps (k1.trans_nil k2) k1.size) k1.size
         have s14 : w1.heap.size ≤ w4.heap.size := by have := C3.size; have := C4.size; omega)
      | (at_make
         refine wpList_make_full _ rfl _ _ 61 rfl w1.heap.size 4 ib (.bool false) 1 Tryz.underlying61 hib hib0 hib1 _ _ _ _ (K + 2) rfl rfl (by simp) (by simp) (by rw [hib2]; omega) (by unfold maxLen; omega) (by omega) ?_
         intro w5 ho5 hg5))
    have G5 : GoS w1.heap.size w x km sx t m h lg c K (upTo K) wh true K w5 := by
      have kk : Keeps [] w4 w5 := (Keeps.refl _ _).grown hg5 (by simp)
      exact ⟨q4.same kk, hh4.chg (Chg.of_keeps (S := []) (B := []) kk) (by simp) (by simp), kk.blk hc4 (by simp), ⟨vs, Nat.le_of_eq hvl.out, l4.chg (Chg.of_keeps (S := []) (B := []) kk) (by simp) (by simp)⟩, K4.trans_nil kk, by omega⟩
    have ho5' : w5.ownsRow w1.heap.size 4 1 (.slice (some ⟨w4.heap.size, 0, none⟩) (K + 2) (K + 2)) (K + 2) ((bsAt (K + 2) 1).map Value.bool) := by
      rw [bsAt_one, List.map_replicate]
      have e : (madeCells (Value.bool false).cells ((K + 2) * 1)).toList = List.replicate (K + 2) (.bool false) := by
        rw [Nat.mul_one]; exact toList_madeCells_one _ _
      rw [← e]; exact ho5
    have hβ : w.heap.size ≤ w1.heap.size := k1.size
    generalize w4.heap.size = g at *
    generalize w1.heap.size = β at *
    clear q2 q3 q4 hh2 hh3 hh4 hc3 hc4 l2 l3 l4 hi2 hi3 C3 C4 k4 K4 hg5 Hv ho5 k2 hmod hwm hvl hcl s13 s14
    go_loopw [15] (fun i wr => ∃ j : Nat, 1 ≤ j ∧ j ≤ K + 1 ∧ i = .int .i64 j ∧ wr.ownsRow β 4 1 (.slice (some ⟨g, 0, none⟩) (K + 2) (K + 2)) (K + 2) ((bsAt (K + 2) j).map Value.bool) ∧ GoS β w x km sx t m h lg c K (upTo K) wh true K wr) (fun i _ => K + 2 - (intOf i).toNat)
    case atStart => exact ⟨1, by omega, by omega, rfl, ho5', G5⟩
    case round =>
      obtain ⟨j, j1, j2, rfl, hor, G⟩ := hrel
      have j0 : (0 : Int) ≤ j := by omega
      by_cases hlt : j ≤ K
      · have b1 : (j : Int) ≤ K := by omega
        have b2 : (j : Int) < ((K + 2 : Nat) : Int) := by omega
        have b3 : (j : Int) < (K : Int) + 2 := by omega
        obtain ⟨f1, hor2⟩ := own_put hor (i := j) (by omega) (.bool true)
        rw [bools_set, bsAt_set j1] at hor2
        have e1 : wr.cell? ⟨g, j, none⟩ = some (.bool false) := own_at hor (by
          rw [List.getElem?_map, List.getElem?_eq_getElem (by rw [bsAt_len]; omega)]
          simp [bsAt])
        have hks : Keeps (obs (.slice (some ⟨g, 0, none⟩) (K + 2) (K + 2))) wr (wr.setCell ⟨g, j, none⟩ (.bool true)) := (Keeps.refl _ _).setCell (.inl (by simp [obs_some])) _
        have CC : Chg β [4] [] wr (wr.setCell ⟨g, j, none⟩ (.bool true)) := chg_row hor hks (by simp)
        have G2 := G.chg CC hβ
        go_wp2
        go_roundw
        case rel => exact ⟨j + 1, by omega, by omega, by go_num, hor2, G2⟩
        case measure => simp [intOf]; omega
      · have b1 : ¬ (j : Int) ≤ K := by omega
        obtain rfl : j = K + 1 := by omega
        have hgall : ∀ j, 1 ≤ j → j ≤ K → (bsAt (K + 2) (K + 1)).getD j false = true := by
          intro j h1 h2
          rw [List.getD_eq_getElem?_getD, List.getElem?_eq_getElem (by rw [bsAt_len]; omega)]
          simp [bsAt]
          omega
        have hla := leftOf_all hgall
        have hpos : Pos K (bsAt (K + 2) (K + 1)) wh wh true := .inl ⟨rfl, rfl, hw1, hw2, hgall wh hw1 hw2⟩
        have Hla := Lib.hid hla
        clear hgall hla G5 ho5'
        go_wp2
        go_loopw [13, 16] (fun vw vi wr => ∃ (i wh : Nat) (bs : List Bool) (id : Int) (at_ : Bool), i ≤ len ∧ vi = .int .i64 i ∧ vw = .int .i64 wh ∧ Hid (bs.length = K + 2) ∧ wr.ownsRow β 4 1 (.slice (some ⟨g, 0, none⟩) (K + 2) (K + 2)) (K + 2) (bs.map Value.bool) ∧
          GoS β w x km sx t m h lg c K (leftOf K bs) id at_ (K + i) wr ∧ 1 ≤ wh ∧ wh ≤ K + 1 ∧ Hid (Pos K bs wh id at_)) (fun _ vi _ => len - (intOf vi).toNat)
        case atStart => exact ⟨0, wh, _, _, true, Nat.zero_le _, rfl, rfl, bsAt_len _ _, hor, by rw [Hla.out]; exact G, hw1, by omega, hpos⟩
        case round =>
          clear hor G Hla hpos hw1 hw2
          obtain ⟨i, wh, bs, id, at_, hi, rfl, rfl, hbl, hor, G, hw1, hw2, hpos⟩ := hrel
          have i0 : (0 : Int) ≤ i := by omega
          by_cases hlt : i < len
          · have i1 : (i : Int) < len := by omega
            obtain ⟨o, hoi⟩ : ∃ o, os[i]? = some o := ⟨_, List.getElem?_eq_getElem (by rw [Hol.out]; exact hlt)⟩
            have ho256 := Ho.out o (List.mem_of_getElem? hoi)
            obtain ⟨ag, rfl, hcell⟩ := Hr.out i o hoi
            have e1 : wr.cell? (ag.add i) = some (.int .u8 o) := G.kp.cell hcell (by simp)
            obtain ⟨b, hb⟩ : ∃ b, b = o % K + 1 := ⟨_, rfl⟩
            have hb1 : 1 ≤ b := by omega
            have hb2 : b ≤ K := by have := Nat.mod_lt o hK1; omega
            have hmo : (o : Int) % K + 1 = b := by rw [hb]; simp
            have bb0 : (0 : Int) ≤ b := by omega
            have bb1 : (b : Int) < ((K + 2 : Nat) : Int) := by omega
            have bb2 : (b : Int) < (K : Int) + 2 := by omega
            have e2 : wr.cell? ⟨g, b, none⟩ = some (.bool (bs.getD b false)) := own_at hor (by
              rw [List.getElem?_map, List.getD_eq_getElem?_getD, List.getElem?_eq_getElem (by rw [hbl.out]; omega)]; rfl)
            have Hoi := Lib.hid hoi
            clear hb hoi hcell
            by_cases hbt : bs.getD b false = true
            · rw [hbt] at e2
              have Hbt := Lib.hid hbt
              clear hbt
              obtain ⟨vs2, hvs2, hlog⟩ := G.hl
              have hLl : (leftOf K bs).length ≤ 100000 := by
                have := List.length_filter_le (fun a : Int => bs.getD a.toNat false) (upTo K)
                rw [upTo_len] at this
                unfold leftOf
                omega
              have hmem : (b : Int) ∈ leftOf K bs := leftOf_mem.2 ⟨by omega, by rw [show ((b : Int)).toNat = b from by omega]; exact Hbt.out⟩
              have hgoing := hubGoing h c x id at_ (leftOf K bs) b wr G.hh G.hc (G.q.ids hLl) hLl
              have Hmem := Lib.hid hmem
              have HLl := Lib.hid hLl
              have Hvs2 := Lib.hid hvs2
              clear hmem hLl hvs2
              go_wp2_with (first
                | (go_at_call 22
                   refine hgoing.mono ?_
                   rintro e wa ⟨rfl, id2, ok2, hgo, hca, ka⟩
                   have Hgo := Lib.hid hgo
                   clear hgo
                   have Ca : Chg β [146] [] wr wa := chg_cells G.hc ka (by simp) G.cl
                   have qa := G.q.chg Ca (by simp) (by simp) (by decide)
                   have la := hlog.chg Ca (by decide) (by decide)
                   have hha := G.hh.chg Ca (by decide) (by decide)
                   have ora := Ca.own hor (by decide))
                | (go_at_call 23
                   refine (qErase x km K sx t m K lg vs2 (leftOf K bs) b wa qa la (wf_small (by omega) (by omega)) Hmem.out HLl.out (by have := Hvs2.out; omega)).mono ?_
                   rintro e wb ⟨rfl, qb, ⟨vb, lb⟩, Cb⟩
                   have hhb := hha.chg Cb (by decide) (by decide)
                   have hcb := Cb.blk hca (by decide)
                   have orb := Cb.own ora (by decide)
                   obtain ⟨fb, orc⟩ := own_put orb (i := b) (by omega) (.bool false)
                   rw [bools_set] at orc
                   have eb : wb.cell? ⟨g, b, none⟩ = some (.bool true) := own_at orb (by
                     rw [List.getElem?_map, ← Hbt.out, List.getD_eq_getElem?_getD, List.getElem?_eq_getElem (by rw [hbl.out]; omega)]; rfl)))
              have hks : Keeps (obs (.slice (some ⟨g, 0, none⟩) (K + 2) (K + 2))) wb (wb.setCell ⟨g, b, none⟩ (.bool false)) := (Keeps.refl _ _).setCell (.inl (by simp [obs_some])) _
              have CW : Chg β [4] [] wb (wb.setCell ⟨g, b, none⟩ (.bool false)) := chg_row orb hks (by simp)
              have GB : GoS β w x km sx t m h lg c K (leftOf K (bs.set b false)) id2 ok2 (K + (i + 1)) wb := by
                rw [leftOf_erase (by rw [hbl.out]; omega)]
                refine ⟨qb, hhb, hcb, ⟨_, ?_, lb⟩, Cb.keeps (Ca.keeps G.kp hβ) hβ, G.cl⟩
                have := Hvs2.out
                rw [List.length_append]
                simp
                omega
              have GW := GB.chg CW hβ
              have hbl' : Hid ((bs.set b false).length = K + 2) := by unfold Hid; rw [List.length_set]; exact hbl.out
              have Hfin := Lib.hid (fun (wh2 : Nat) => gone_pos (wh2 := wh2) hpos.out Hgo.out hb1 hb2 Hbt.out)
              clear CW hks GB qb hhb hcb lb Cb Ca orb ora hha la qa eb fb hca ka Hmem HLl hgoing hlog e1 e2 hor G hpos Hgo Hbt Hoi hbl Hvs2 hmo
              generalize wb.setCell ⟨g, b, none⟩ (.bool false) = W at *
              generalize bs.set b false = bs2 at *
              go_loop [13] (fun v => ∃ wh2 : Nat, wh ≤ wh2 ∧ wh2 ≤ K + 1 ∧ v = .int .i64 wh2 ∧ Hid (∀ j, wh ≤ j → j < wh2 → bs2.getD j false = false)) (fun v => K + 2 - (intOf v).toNat)
              case atStart => exact ⟨wh, Nat.le_refl _, hw2, rfl, fun j h1 h2 => by omega⟩
              case round =>
                obtain ⟨wh2, g1, g2, rfl, hno⟩ := hrel
                have d0 : (0 : Int) ≤ wh2 := by omega
                by_cases hle : wh2 ≤ K
                · have d1 : (wh2 : Int) ≤ K := by omega
                  have d2 : (wh2 : Int) < ((K + 2 : Nat) : Int) := by omega
                  have d3 : (wh2 : Int) < (K : Int) + 2 := by omega
                  have d4 : decide ((wh2 : Int) ≤ K) = true := by simp; omega
                  have d4' : decide (wh2 ≤ K) = true := by simp; omega
                  have e3 : W.cell? ⟨g, wh2, none⟩ = some (.bool (bs2.getD wh2 false)) := own_at orc (by
                    rw [List.getElem?_map, List.getD_eq_getElem?_getD, List.getElem?_eq_getElem (by rw [hbl'.out]; omega)]; rfl)
                  by_cases hb2t : bs2.getD wh2 false = true
                  · rw [hb2t] at e3
                    have Hb2t := Lib.hid hb2t
                    clear hb2t
                    have hp := Hfin.out wh2 g1 g2 hno.out (.inr Hb2t.out)
                    obtain ⟨hok, hidd⟩ : ok2 = true ∧ id2 = wh2 := by
                      rcases hp with ⟨h1, h2, _⟩ | ⟨_, h⟩
                      · exact ⟨h1, h2⟩
                      · omega
                    subst hok hidd
                    have Hp := Lib.hid hp
                    have hrow := curRow c x wh2 true W GW.hc
                    rw [if_pos rfl] at hrow
                    clear hp Hfin hno
                    go_wp2_with (go_at_call 24; refine hrow.mono ?_; rintro e wc ⟨rfl, rfl⟩)
                    go_roundw
                    case rel => exact ⟨i + 1, wh2, bs2, wh2, true, by omega, by go_num, rfl, hbl', orc, GW, by omega, by omega, Hp.out⟩
                    case measure => simp [intOf]; omega
                  · have hb2f : bs2.getD wh2 false = false := by simpa using hb2t
                    rw [hb2f] at e3
                    have Hb2f := Lib.hid hb2f
                    clear hb2t hb2f
                    go_wp2
                    go_round
                    case rel =>
                      refine ⟨wh2 + 1, by omega, by omega, by go_num, fun j h1 h2 => ?_⟩
                      rcases Nat.lt_or_ge j wh2 with h | h
                      · exact hno.out j h1 h
                      · obtain rfl : j = wh2 := by omega
                        exact Hb2f.out
                    case measure => simp [intOf]; omega
                · have d1 : ¬ (wh2 : Int) ≤ K := by omega
                  have d4 : decide ((wh2 : Int) ≤ K) = false := by simp; omega
                  have d4' : decide (wh2 ≤ K) = false := by simp; omega
                  have hp := Hfin.out wh2 g1 g2 hno.out (.inl (by omega))
                  obtain ⟨hok, hw⟩ : ok2 = false ∧ wh2 = K + 1 := by
                    rcases hp with ⟨_, _, _, h, _⟩ | h
                    · omega
                    · exact h
                  subst hok
                  have Hp := Lib.hid hp
                  have hrow := curRow c x id2 false W GW.hc
                  rw [if_neg (by simp)] at hrow
                  clear hp Hfin hno hw
                  go_wp2_with (go_at_call 24; refine hrow.mono ?_; rintro e wc ⟨rfl, rfl⟩)
                  go_roundw
                  case rel => exact ⟨i + 1, wh2, bs2, id2, false, by omega, by go_num, rfl, hbl', orc, GW, by omega, by omega, Hp.out⟩
                  case measure => simp [intOf]; omega
            · have hbt' : bs.getD b false = false := by simpa using hbt
              rw [hbt'] at e2
              clear hbt hbt'
              go_wp2
              go_roundw
              case rel => 
                obtain ⟨vs, hv, hl⟩ := G.hl
                exact ⟨i + 1, wh, bs, id, at_, by omega, by go_num, rfl, hbl, hor, ⟨G.q, G.hh, G.hc, ⟨vs, by omega, hl⟩, G.kp, G.cl⟩, hw1, hw2, hpos⟩
              case measure => simp [intOf]; omega
          · have i1 : ¬ (i : Int) < len := by omega
            go_wp2
            go_ret
            exact ⟨rfl, G.kp⟩
end Go.Proofs.YtkngjgblfappoaaGreatDoor
