/-
  view: watches: Tell: each observer is told each change; the first fault is told.
-/
import Derived.Test.YtkngjgblfappoaaGreatDoorWatch
import Derived.Test.YtkngjgblfappoaaGreatDoorAsHFa
import Derived.Laws.EntriesVeiled
namespace Go.Proofs.YtkngjgblfappoaaGreatDoor
open Go.RowKit (Below intOf Hid)
variable {β : Nat}

def chCells (l : List Chv) : List Value := l.flatMap fun c => c.cells.toList
theorem chCells_len (l : List Chv) : (chCells l).length = l.length * 4 := by
  unfold chCells
  induction l with
  | nil => rfl
  | cons o r ih => rw [List.flatMap_cons, List.length_append, ih]; simp [Chv.cells]; omega
theorem chCells_at {l : List Chv} {k : Nat} {c : Chv} (h : l[k]? = some c) : (chCells l)[k * 4]? = some (.string c.tb) ∧ (chCells l)[k * 4 + 1]? = some (.int .i64 c.id) ∧ (chCells l)[k * 4 + 2]? = some (.slice c.a c.an c.ac) ∧ (chCells l)[k * 4 + 3]? = some (.slice c.b c.bn c.bc) := by
  have hk := List.getElem?_eq_some_iff.1 h
  have e : chCells l = chCells (l.take k) ++ (c.cells.toList ++ chCells (l.drop (k + 1))) := by
    conv => lhs; rw [← List.take_append_drop k l, List.drop_eq_getElem_cons hk.1, hk.2]
    unfold chCells
    rw [List.flatMap_append]; rfl
  have hl : (chCells (l.take k)).length = k * 4 := by rw [chCells_len, List.length_take, Nat.min_eq_left (Nat.le_of_lt hk.1)]
  rw [e]
  refine ⟨?_, ?_, ?_, ?_⟩
  · rw [List.getElem?_append_right (by omega), hl]; simp [Chv.cells]
  · rw [List.getElem?_append_right (by omega), hl, show k * 4 + 1 - k * 4 = 1 from by omega]; rfl
  · rw [List.getElem?_append_right (by omega), hl, show k * 4 + 2 - k * 4 = 2 from by omega]; rfl
  · rw [List.getElem?_append_right (by omega), hl, show k * 4 + 3 - k * 4 = 3 from by omega]; rfl

theorem Laid.chg {S : List TypeId} {B : List Nat} {w w' : World} (h : Laid w) (k : Chg β S B w w') (hg : 0 < β) : Laid w' := by
  obtain ⟨M, hk, hM⟩ := k
  exact h.keep hk fun hm => by have := (hM _ hm).1; omega

section
variable {κ : Type}
/-- What an observer came to, of which the code is known. -/
def Outc (Rep : κ → Came → World → Prop) (x : Option κ) (o : Came) (w : World) : Prop :=
  match x with
  | none => o = .fine
  | some k => o ≠ .fine ∧ Rep k o w
/-- The first fault, as a pointer. -/
def FirstV (Rep : κ → Came → World → Prop) (x : Option κ) (v : Value) (w : World) : Prop :=
  match x with
  | none => v = .pointer none
  | some k => ∃ b o, v = ptr b ∧ FaultAt w b ⟨#[]⟩ o.err o.pan ∧ o ≠ .fine ∧ Rep k o w
/-- What Tell answers. -/
def TellP (Rep : κ → Came → World → Prop) (x : Option κ) (e : Ending) (w : World) : Prop :=
  match x with
  | none => e = .returned .nilIface
  | some k => ∃ b o, e = .returned (.iface 126 (ptr b)) ∧ FaultAt w b ⟨#[]⟩ o.err o.pan ∧ o ≠ .fine ∧ Rep k o w
theorem FirstV.chg {Rep : κ → Came → World → Prop} {S : List TypeId} {B : List Nat} {x : Option κ} {v : Value} {w w' : World} (h : FirstV Rep x v w) (k : Chg β S B w w') (hS : 128 ∉ S) (hR : ∀ k o, Rep k o w → Rep k o w') : FirstV Rep x v w' := by
  cases x with
  | none => exact h
  | some c => obtain ⟨b, o, rfl, hF, hne, hr⟩ := h; exact ⟨b, o, rfl, k.blk hF hS, hne, hR _ _ hr⟩

abbrev tellS (S : List TypeId) : List TypeId := 126 :: 43 :: 4 :: S

/-- What is known of the observers and the changes. -/
structure TellIn (β : Nat) (S : List TypeId) (B : List Nat) (G : FuncId) (caps : Nat → Array Value) (l : List Obv) (chs : List Chv) (St : Nat → Nat → World → Prop) (code : Nat → Nat → Option κ) (acc : Nat → Nat → Option κ) (Rep : κ → Came → World → Prop) : Prop where
  ent : ∀ args w, (callFunc G args).run Tryz.prog w = .ok (.enter G args) w
  fns : ∀ (j : Nat) (o : Obv), l[j]? = some o → o.1 = .func (.func G) #[] (caps j)
  small : ∀ c, c ∈ chs → c.an ≤ 100000 ∧ c.bn ≤ 100000
  tags : 9 ∉ S ∧ 43 ∉ S ∧ 4 ∉ S ∧ 126 ∉ S ∧ 128 ∉ S ∧ 159 ∉ S ∧ 71 ∉ S
  step : ∀ i j ch w a ac b bc, chs[i]? = some ch → j < l.length → St i j w → Calls Tryz.prog G (#[] ++ #[.agg (Chv.cells ⟨ch.tb, ch.id, a, ch.an, ac, b, ch.bn, bc⟩)] ++ caps j) w fun e w2 => ∃ o : Came, o.ok ∧ e = o.ending ∧ (Outc Rep (code i j) o w2 ∧ St i (j + 1) w2) ∧ Chg β S B w w2
  row : ∀ i w, St i l.length w → St (i + 1) 0 w
  st : ∀ i j w w', St i j w → Chg β [126, 43, 4] [] w w' → St i j w'
  rep : ∀ k o w w', Rep k o w → Chg β (tellS S) B w w' → Rep k o w'
  acc0 : acc 0 0 = none
  accj : ∀ i j, acc i (j + 1) = (acc i j).orElse fun _ => code i j
  acci : ∀ i, acc (i + 1) 0 = acc i l.length

set_option maxRecDepth 100000 in
set_option maxHeartbeats 4000000 in
theorem tell {S : List TypeId} {B : List Nat} {G : FuncId} {caps : Nat → Array Value} {l : List Obv} {chs : List Chv} {St : Nat → Nat → World → Prop} {code acc : Nat → Nat → Option κ} {Rep : κ → Came → World → Prop} (T : TellIn β S B G caps l chs St code acc Rep)
    (b last : Nat) (A : Option Addr) (n c : Nat) (w : World) (hw : WatchAt β w b l last) (hβ : β ≤ w.heap.size) (hlaid : Laid w) (hg0 : 0 < β) (hn : chs.length = n) (hr : ∀ w', Chg β S B w w' → Rc w' 4 A n (chCells chs))
    (hv : ∀ w' ch, Chg β S B w w' → ch ∈ chs → ∃ xs ys, Rc w' 4 ch.a ch.an xs ∧ Rc w' 4 ch.b ch.bn ys) (hN : n ≤ 1000) (hM : l.length ≤ 1000) (hst : St 0 0 w) :
    Calls Tryz.prog 30 #[ptr b, .slice A n c] w fun e w' => TellP Rep (acc n 0) e w' ∧ St n 0 w' ∧ Chg β S B w w' := by
  obtain ⟨h0, hf, Ao, m, co, hl, hb, ho⟩ := hw
  have c0 : w.cell? ⟨b, 0, none⟩ = some (.slice Ao m co) := hb.cell 0
  have HT := Lib.hid T
  have HR := Lib.hid hr
  have HV := Lib.hid hv
  have Hn := Lib.hid hn
  have Hst := Lib.hid hst
  have Hlaid := Lib.hid hlaid
  have hm : m ≤ 1000 := by rw [← hl.out]; exact hM
  clear T hr hv hn hst hlaid hM
  go_enter Tryz.func30, Tryz.ntmps30
  go_wp2
  go_loopw [5, 18] (fun v i wr => ∃ k : Nat, k ≤ n ∧ i = .int .i64 k ∧ Hid (FirstV Rep (acc k 0) v wr) ∧ Hid (St k 0 wr) ∧ Hid (Chg β S B w wr)) (fun _ i _ => n - (intOf i).toNat)
  case atStart => exact ⟨0, Nat.zero_le _, rfl, by unfold Hid; rw [HT.out.acc0]; rfl, Hst, Chg.refl _ _ _⟩
  case round =>
    obtain ⟨k, hk, rfl, hF, hS, hC⟩ := hrel
    by_cases hlt : k < n
    · obtain ⟨ch, hch⟩ : ∃ ch, chs[k]? = some ch := ⟨_, List.getElem?_eq_getElem (by rw [Hn.out]; exact hlt)⟩
      obtain ⟨g, off, hA, hch0, hch1, hch2, hch3⟩ : ∃ g off, A = some ⟨g, off, none⟩ ∧ wr.cell? ⟨g, off + k * 4, none⟩ = some (.string ch.tb) ∧ wr.cell? ⟨g, off + k * 4 + 1, none⟩ = some (.int .i64 ch.id) ∧ wr.cell? ⟨g, off + k * 4 + 2, none⟩ = some (.slice ch.a ch.an ch.ac) ∧ wr.cell? ⟨g, off + k * 4 + 3, none⟩ = some (.slice ch.b ch.bn ch.bc) := by
        obtain ⟨q0, q1, q2, q3⟩ := chCells_at hch
        obtain ⟨g, off, rfl, _, hc⟩ := (HR.out wr hC.out).addr (by omega)
        exact ⟨g, off, rfl, hc _ _ q0, hc _ _ q1, hc _ _ q2, hc _ _ q3⟩
      subst hA
      have Hch := Lib.hid hch
      clear hch
      have k0 : (0 : Int) ≤ k := by omega
      have k1 : (k : Int) < n := by omega
      go_wp2
      have K1 : Keeps [] wr (wr.alloc (.cells #[.string ch.tb, .int .i64 ch.id, .slice ch.a ch.an ch.ac, .slice ch.b ch.bn ch.bc] 71)) := (Keeps.refl _ _).alloc _
      have B1 : Blk (wr.alloc (.cells #[.string ch.tb, .int .i64 ch.id, .slice ch.a ch.an ch.ac, .slice ch.b ch.bn ch.bc] 71)) wr.heap.size 71 ch.cells := Blk.new _ _ _
      have F1 : Hid (FirstV Rep (acc k 0) u5 (wr.alloc (.cells #[.string ch.tb, .int .i64 ch.id, .slice ch.a ch.an ch.ac, .slice ch.b ch.bn ch.bc] 71))) := hF.out.chg (S := []) (B := []) (Chg.of_keeps K1 (β := β)) (by simp) (fun q o h => HT.out.rep q o _ _ h (Chg.of_keeps K1))
      have S1 : Hid (St k 0 (wr.alloc (.cells #[.string ch.tb, .int .i64 ch.id, .slice ch.a ch.an ch.ac, .slice ch.b ch.bn ch.bc] 71))) := HT.out.st k 0 _ _ hS.out (Chg.of_keeps K1)
      have C1 : Hid (Chg β S B w (wr.alloc (.cells #[.string ch.tb, .int .i64 ch.id, .slice ch.a ch.an ch.ac, .slice ch.b ch.bn ch.bc] 71))) := hC.out.trans (Chg.of_keeps K1)
      have hsz := hC.out.size
      generalize wr.alloc (.cells #[.string ch.tb, .int .i64 ch.id, .slice ch.a ch.an ch.ac, .slice ch.b ch.bn ch.bc] 71) = w1 at *
      generalize wr.heap.size = cb at *
      clear K1 hF hS hC hch0 hch1 hch2 hch3
      go_loopw [5, 24] (fun v i wq => ∃ j : Nat, j ≤ m ∧ i = .int .i64 j ∧ Hid (FirstV Rep (acc k j) v wq) ∧ Hid (St k j wq) ∧ Hid (Chg β S B w wq) ∧ Hid (Blk wq cb 71 ch.cells)) (fun _ i _ => m - (intOf i).toNat)
      case atStart => exact ⟨0, Nat.zero_le _, rfl, F1, S1, C1, B1⟩
      case round =>
        clear F1 S1 C1 B1
        obtain ⟨j, hj, rfl, hF, hS, hC, hB⟩ := hrel
        by_cases hjm : j < m
        · obtain ⟨o, ho'⟩ : ∃ o, l[j]? = some o := ⟨_, List.getElem?_eq_getElem (by rw [hl.out]; exact hjm)⟩
          obtain ⟨o1, num⟩ := o
          have hfn := HT.out.fns j _ ho'
          simp only at hfn
          subst hfn
          obtain ⟨g2, off2, hA2, ho0, ho1⟩ : ∃ g off, Ao = some ⟨g, off, none⟩ ∧ wr.cell? ⟨g, off + j * 2, none⟩ = some (.func (.func G) #[] (caps j)) ∧ wr.cell? ⟨g, off + j * 2 + 1, none⟩ = some (.int .i64 num) := by
            obtain ⟨q0, q1⟩ := obCells_at ho'
            have htg := HT.out.tags
            have hoq := hC.out.own ho htg.2.2.2.2.2.1
            obtain ⟨g, off, rfl, _, hc⟩ := (own_rd hoq (obCells_one hf)).addr (by omega)
            exact ⟨g, off, rfl, hc _ _ q0, hc _ _ q1⟩
          subst hA2
          have hjl : j < l.length := by rw [hl.out]; exact hjm
          have Ho' := Lib.hid ho'
          have Hjl := Lib.hid hjl
          clear ho' hjl
          have hbq := hB.out
          have cbl := hbq.lt
          have e0 : wr.cell? ⟨cb, 0, none⟩ = some (.string ch.tb) := hbq.cell 0
          have e1 : wr.cell? ⟨cb, 1, none⟩ = some (.int .i64 ch.id) := hbq.cell 1
          have e2 : wr.cell? ⟨cb, 2, none⟩ = some (.slice ch.a ch.an ch.ac) := hbq.cell 2
          have e3 : wr.cell? ⟨cb, 3, none⟩ = some (.slice ch.b ch.bn ch.bc) := hbq.cell 3
          have j0 : (0 : Int) ≤ j := by omega
          have j1 : (j : Int) < m := by omega
          have K2 : Keeps [] wr ((wr.alloc (.cells #[.func (.func G) #[] (caps j), .int .i64 num] 159)).alloc (.cells #[.pointer none] 126)) := ((Keeps.refl _ _).alloc _).alloc _
          have B2 : Blk ((wr.alloc (.cells #[.func (.func G) #[] (caps j), .int .i64 num] 159)).alloc (.cells #[.pointer none] 126)) (wr.heap.size + 1) 126 #[.pointer none] := Blk.new' _ _ (by simp)
          have F2 : Hid (FirstV Rep (acc k j) u5 ((wr.alloc (.cells #[.func (.func G) #[] (caps j), .int .i64 num] 159)).alloc (.cells #[.pointer none] 126))) := hF.out.chg (S := []) (B := []) (Chg.of_keeps K2 (β := β)) (by simp) (fun q o h => HT.out.rep q o _ _ h (Chg.of_keeps K2))
          have C2 := hC.out.trans (Chg.of_keeps (β := β) (S := S) (B := B) K2)
          have S2 := HT.out.st k j _ _ hS.out (Chg.of_keeps K2)
          have S2' := Lib.hid S2
          have hsz2 := C2.size
          have htg := HT.out.tags
          have hch := Hch.out
          have hmem := List.mem_of_getElem? hch
          obtain ⟨xs, ys, rx, ry⟩ := HV.out _ ch C2 hmem
          have hsm := HT.out.small ch hmem
          have hobs := observe (β := β) (S := S) (B := B) G #[] (caps j) ch xs ys _ (fun o w2 => Outc Rep (code k j) o w2 ∧ St k (j + 1) w2) HT.out.ent (by omega) ⟨htg.1, htg.2.1, htg.2.2.1⟩ rx ry hsm.1 hsm.2
            (fun w3 a ac bb bc K3 _ _ => HT.out.step k j ch w3 a ac bb bc hch Hjl.out (HT.out.st k j _ _ S2'.out (Chg.of_keeps K3)))
            (fun o w3 w4 hR hc34 => by
              obtain ⟨hO, hS4⟩ := hR
              refine ⟨?_, HT.out.st k (j + 1) _ _ hS4 (hc34.mono (fun T h => by simp at h; rcases h with rfl | rfl <;> simp) (by simp))⟩
              cases hcode : code k j with
              | none => rw [hcode] at hO; exact hO
              | some q => rw [hcode] at hO; exact ⟨hO.1, HT.out.rep q o _ _ hO.2 (hc34.mono (fun T h => by simp at h; rcases h with rfl | rfl <;> simp) (by simp))⟩)
          simp only [Chv.cells] at hobs
          have Hobs := Lib.hid hobs
          have HC2 := Lib.hid C2
          have Hhm := Lib.hid hmem
          have Hhc := Lib.hid hch
          clear hobs C2 S2 hmem hch rx ry hsm
          go_wp2_with fail
          refine Hobs.out.mono ?_
          generalize (wr.alloc (.cells #[.func (.func G) #[] (caps j), .int .i64 num] 159)).alloc (.cells #[.pointer none] 126) = w2 at *
          rintro e w4 ⟨o, hP, ⟨hO, hS4⟩, hC4⟩
          have HO := Lib.hid hO
          have HS4 := Lib.hid hS4
          have C4' : Chg β (tellS S) B w2 w4 := hC4.mono (fun T h => by simp [h]) (fun _ h => .inl h)
          have C4 := Lib.hid (HC2.out.trans hC4)
          have F4 : Hid (FirstV Rep (acc k j) u5 w4) := F2.out.chg (B := B) C4' (by simp; exact htg.2.2.2.2.1) (fun q o h => HT.out.rep q o _ _ h C4')
          have B4 := hC4.blk B2 htg.2.2.2.1
          have L4 : Laid w4 := Hlaid.out.chg C4.out hg0
          have Bcb : Hid (Blk w4 cb 71 ch.cells) := C4'.blk (K2.blk hbq (by simp)) (by simp; exact htg.2.2.2.2.2.2)
          have b4lt := B4.lt
          clear hO hS4 hC4 C4' e0 e1 e2 e3 ho0 ho1 hbq
          rcases hP with ⟨rfl, rfl⟩ | ⟨hne, fb, rfl, hFa⟩
          · have hcode : code k j = none := by
              have h := HO.out
              cases hcd : code k j with
              | none => rfl
              | some q => rw [hcd] at h; exact absurd rfl h.1
            have hacc : acc k (j + 1) = acc k j := by rw [HT.out.accj, hcode]; cases acc k j <;> rfl
            have Hacc := Lib.hid hacc
            clear hcode hacc
            go_wp2_with (go_at_call 58; refine (asNil _ _).mono ?_; rintro e w5 ⟨rfl, rfl⟩)
            go_roundw
            case rel => exact ⟨j + 1, by omega, by go_num, by rw [Hacc.out]; exact F4, HS4, C4, Bcb⟩
            case measure => simp [intOf]; omega
          · obtain ⟨q, hcode, hrep⟩ : ∃ q, code k j = some q ∧ Rep q o w4 := by
              have h := HO.out
              cases hcd : code k j with
              | none => rw [hcd] at h; exact absurd h hne
              | some q => rw [hcd] at h; exact ⟨q, rfl, h.2⟩
            have has := asHitFa ⟨fb, 0, none⟩ (wr.heap.size + 1) (.pointer none) w4 L4 B4
            have Has := Lib.hid has
            have Hrep := Lib.hid hrep
            have Hcode := Lib.hid hcode
            have Hne := Lib.hid hne
            clear has hrep hcode hne
            have hstep : ∀ w5, Blk w5 (wr.heap.size + 1) 126 #[ptr fb] → Keeps [wr.heap.size + 1] w4 w5 → Chg β [126] [] w4 w5 := fun w5 _ k5 => chg_cells B4 k5 (by simp) (by omega)
            have Hstep := Lib.hid hstep
            clear hstep
            cases hx : acc k j with
            | none =>
              have hu : u5 = .pointer none := by have h := F4.out; rw [hx] at h; exact h
              subst hu
              have Hx := Lib.hid hx
              clear hx
              go_wp2_with (go_at_call 58
                           refine Has.out.mono ?_
                           rintro e w5 ⟨rfl, B5, k5⟩
                           have x5 : w5.cell? ⟨wr.heap.size + 1, 0, none⟩ = some (ptr fb) := B5.cell 0)
              go_roundw
              case rel =>
                have C5 := Hstep.out w5 B5 k5
                have C5s : Chg β (tellS S) B w4 w5 := C5.mono (fun T h => by simp at h; rw [h]; simp) (by simp)
                refine ⟨j + 1, by omega, by go_num, ?_, HT.out.st k (j + 1) _ _ HS4.out (C5.mono (by simp) (by simp)), C4.out.fresh k5 (fun b hb => by simp at hb; omega), C5.blk Bcb.out (by decide)⟩
                unfold Hid
                rw [HT.out.accj, Hx.out, Hcode.out]
                exact ⟨fb, o, rfl, C5.blk hFa (by decide), Hne.out, HT.out.rep q o _ _ Hrep.out C5s⟩
              case measure => simp [intOf]; omega
            | some q0 =>
              obtain ⟨fb0, o0, rfl, hFa0, hne0, hrep0⟩ : FirstV Rep (some q0) u5 w4 := by have h := F4.out; rw [hx] at h; exact h
              have Hx := Lib.hid hx
              have Hne0 := Lib.hid hne0
              clear hx hne0
              go_wp2_with (go_at_call 58
                           refine Has.out.mono ?_
                           rintro e w5 ⟨rfl, B5, k5⟩
                           have x5 : w5.cell? ⟨wr.heap.size + 1, 0, none⟩ = some (ptr fb) := B5.cell 0)
              go_roundw
              case rel =>
                have C5 := Hstep.out w5 B5 k5
                have C5s : Chg β (tellS S) B w4 w5 := C5.mono (fun T h => by simp at h; rw [h]; simp) (by simp)
                refine ⟨j + 1, by omega, by go_num, ?_, HT.out.st k (j + 1) _ _ HS4.out (C5.mono (by simp) (by simp)), C4.out.fresh k5 (fun b hb => by simp at hb; omega), C5.blk Bcb.out (by decide)⟩
                unfold Hid
                rw [HT.out.accj, Hx.out]
                exact ⟨fb0, o0, rfl, C5.blk hFa0 (by decide), Hne0.out, HT.out.rep q0 o0 _ _ hrep0 C5s⟩
              case measure => simp [intOf]; omega
        · have j1 : ¬ (j : Int) < m := by omega
          obtain rfl : j = m := by omega
          go_wp2
          go_roundw
          case rel =>
            refine ⟨k + 1, by omega, by go_num, ?_, ?_, hC⟩
            · unfold Hid; rw [HT.out.acci, hl.out]; exact hF.out
            · exact HT.out.row k _ (by rw [hl.out]; exact hS.out)
          case measure => simp [intOf]; omega
    · have k1 : ¬ (k : Int) < n := by omega
      obtain rfl : k = n := by omega
      cases hx : acc k 0 with
      | none =>
        have hu : u5 = .pointer none := by have h := hF.out; rw [hx] at h; exact h
        subst hu
        have Hx := Lib.hid hx
        clear hx
        go_wp2
        go_ret
        exact ⟨by rw [Hx.out]; exact rfl, hS.out, hC.out⟩
      | some q =>
        obtain ⟨fb, o, rfl, hFa, hne, hrep⟩ : FirstV Rep (some q) u5 wr := by have h := hF.out; rw [hx] at h; exact h
        have Hx := Lib.hid hx
        have Hne := Lib.hid hne
        clear hx hne
        go_wp2
        go_ret
        exact ⟨by rw [Hx.out]; exact ⟨fb, o, rfl, hFa, Hne.out, hrep⟩, hS.out, hC.out⟩
end
end Go.Proofs.YtkngjgblfappoaaGreatDoor
