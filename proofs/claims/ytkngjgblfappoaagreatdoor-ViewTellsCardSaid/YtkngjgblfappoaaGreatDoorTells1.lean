/-
  rialtolaw23.ViewTells: the observers' own code.
-/
import Derived.Test.YtkngjgblfappoaaGreatDoorTell
import Derived.Deep.QuietTactic
import Derived.BigQuiet
namespace Go.Proofs.YtkngjgblfappoaaGreatDoor
open Go.RowKit (Below intOf Hid)
variable {β : Nat}

theorem infoI64 : (Tryz.prog.info? 2).map (fun i => (i.zero, i.size, i.bytes)) = some (some (.int .i64 0), 1, 8) := by kernel_rfl

/-- What an observer does at a call: 1 it tells a mark, 2 it panics. -/
def tCode (A C c1 : Int) (n : Nat) : Option (Nat × Nat) := if A = 1 ∧ c1 = C then some (1, n) else if A = 2 ∧ c1 = C then some (2, n) else none
def MRep (q : Nat × Nat) (o : Came) (w : World) : Prop :=
  (q.1 = 1 ∧ ∃ mb, o = .told 77 (ptr mb) ∧ Blk w mb 79 #[.int .i64 (100 + (q.2 : Int))]) ∨ (q.1 = 2 ∧ o = .struck 3 (.int .i64 (100 + (q.2 : Int))))
/-- What the observers' code leaves. -/
def TellsP (β gb cb ng : Nat) (gl : List Value) (n c0 : Nat) (hn : Int) (id : Int) (w : World) (e : Ending) (w' : World) : Prop :=
  ∃ o : Came, o.ok ∧ e = o.ending ∧ Outc MRep (tCode (bits BinOp.and .i64 hn 3) (bits BinOp.and .i64 (hn / 4) 3) ((c0 : Int) + 1) n) o w' ∧
    (∃ A' c', Blk w' gb 74 #[.slice A' (ng + 2) c'] ∧ w'.ownsRow β 2 1 (.slice A' (ng + 2) c') (ng + 2) (gl ++ [.int .i64 n, .int .i64 id])) ∧
    Blk w' cb 3 #[.int .i64 ((c0 : Int) + 1)] ∧ (∀ q cs, q ≠ cb → Blk w q 3 cs → Blk w' q 3 cs) ∧ Chg β [74, 2, 3] [] w w'
theorem TellsP.more {β gb cb ng : Nat} {gl : List Value} {n c0 : Nat} {hn : Int} {id : Int} {w w4 w5 : World} {o : Came} (hok : o.ok) (hO : Outc MRep (tCode (bits BinOp.and .i64 hn 3) (bits BinOp.and .i64 (hn / 4) 3) ((c0 : Int) + 1) n) o w5)
    (hg : ∃ A' c', Blk w4 gb 74 #[.slice A' (ng + 2) c'] ∧ w4.ownsRow β 2 1 (.slice A' (ng + 2) c') (ng + 2) (gl ++ [.int .i64 n, .int .i64 id])) (hc : Blk w4 cb 3 #[.int .i64 ((c0 : Int) + 1)])
    (hq : ∀ q cs, q ≠ cb → Blk w q 3 cs → Blk w4 q 3 cs) (hC : Chg β [74, 2, 3] [] w w4) (k : Keeps [] w4 w5) : TellsP β gb cb ng gl n c0 hn id w o.ending w5 := by
  obtain ⟨A', c', h1, h2⟩ := hg
  exact ⟨o, hok, rfl, hO, ⟨A', c', k.blk h1 (by simp), own_keep h2 k (by simp)⟩, k.blk hc (by simp), fun q cs hne hb => k.blk (hq q cs hne hb) (by simp), hC.trans (Chg.of_keeps k)⟩

set_option maxRecDepth 100000 in
set_option maxHeartbeats 1600000 in
theorem tellsC (gb nb cb hb : Nat) (Ag : Option Addr) (ng cg : Nat) (gl : List Value) (n c0 : Nat) (Ah : Option Addr) (K ch : Nat) (hs : List Value) (hn : Int) (c : Chv) (w : World)
    (hg : Blk w gb 74 #[.slice Ag ng cg]) (ho : w.ownsRow β 2 1 (.slice Ag ng cg) ng gl) (hbn : Blk w nb 3 #[.int .i64 n]) (hbc : Blk w cb 3 #[.int .i64 c0]) (hbh : Blk w hb 68 #[.slice Ah K ch])
    (hr : Rc w 1 Ah K hs) (hh : hs[n]? = some (.int .i64 hn)) (hN : ng ≤ 10000) (hc0 : c0 ≤ 1000) (hn8 : n ≤ 1000) (hnc : nb ≠ cb) (h0g : β ≤ gb) (h0c : β ≤ cb) (hAh : ∀ g o, Ah = some ⟨g, o, none⟩ → g < β) (hβ : β ≤ w.heap.size) :
    Calls Tryz.prog 28 #[.agg c.cells, ptr gb, ptr nb, ptr cb, ptr hb] w (TellsP β gb cb ng gl n c0 hn c.id w) := by
  obtain ⟨i0, hi0, hz0, hz1, hz2⟩ := info_parts infoI64
  have hK : n < K := by
    have h1 := (List.getElem?_eq_some_iff.1 hh).1
    have h2 := hr.1
    omega
  obtain ⟨gh, oh, rfl, hghl, hch⟩ := hr.addr (by omega)
  have x0 : w.cell? ⟨gh, oh + n, none⟩ = some (.int .i64 hn) := hch _ _ hh
  have x1 : w.cell? ⟨gb, 0, none⟩ = some (.slice Ag ng cg) := hg.cell 0
  have x2 : w.cell? ⟨nb, 0, none⟩ = some (.int .i64 n) := hbn.cell 0
  have x3 : w.cell? ⟨cb, 0, none⟩ = some (.int .i64 c0) := hbc.cell 0
  have x4 : w.cell? ⟨hb, 0, none⟩ = some (.slice (some ⟨gh, oh, none⟩) K ch) := hbh.cell 0
  have s1 := hg.lt
  have s2 := hbn.lt
  have s3 := hbc.lt
  have s4 := hbh.lt
  obtain ⟨tb, id, a, an, ac, b, bn, bc⟩ := c
  simp only [Chv.cells] at *
  have Hh := Lib.hid hh
  clear hch hh
  have hgc : gh ≠ cb := by have := hAh gh oh rfl; omega
  have n1 := hg.ne hbn (by decide)
  have n2 := hg.ne hbc (by decide)
  have n3 := hg.ne hbh (by decide)
  have n4 := hbc.ne hbh (by decide)
  have n5 := hbn.ne hbh (by decide)
  have hrh := hr
  have n6 : gb ≠ gh := by have := hAh gh oh rfl; omega
  have K1 : Keeps [] w ((w.alloc (.cells #[.string tb, .int .i64 id, .slice a an ac, .slice b bn bc] 71)).alloc (.cells #[.int .i64 n, .int .i64 id] 2)) := ((Keeps.refl _ _).alloc _).alloc _
  have hsrc : Rd ((w.alloc (.cells #[.string tb, .int .i64 id, .slice a an ac, .slice b bn bc] 71)).alloc (.cells #[.int .i64 n, .int .i64 id] 2)) 2 1 (some ⟨w.heap.size + 1, 0, none⟩) 2 [.int .i64 n, .int .i64 id] :=
    rd_of_blk (cur := [.int .i64 n, .int .i64 id]) (Blk.new' _ _ (by simp)) rfl rfl (by intro u hu; simp at hu; rcases hu with rfl | rfl <;> rfl)
  have ho1 := (ho.alloc (.cells #[.string tb, .int .i64 id, .slice a an ac, .slice b bn bc] 71)).alloc (.cells #[.int .i64 n, .int .i64 id] 2)
  go_enter Tryz.func28, Tryz.ntmps28
  go_wp2_with (at_builtin
               refine wpList_append_rd _ rfl (.tmp 7) (.tmp 11) _ rfl β 2 i0 _ 1 8 Tryz.underlying74 hi0 hz0 hz1 hz2 rfl (by omega) (.slice Ag ng cg) ng gl rfl ho1 (some ⟨w.heap.size + 1, 0, none⟩) 2 2 [.int .i64 n, .int .i64 id] rfl hsrc (by unfold maxLen; omega) (by omega) (by simp; omega) ?_
               intro v3 w3 hown hg3 _
               have C3' : Chg β [2] [] _ w3 := chg_row ho1 (keeps_grown hg3) (by simp)
               have C3 : Chg β [2] [] w w3 := (Chg.of_keeps K1).trans C3'
               have y1 := C3.blk hg (by decide)
               have y2 := C3.blk hbn (by decide)
               have y3 := C3.blk hbc (by decide)
               have y4 := C3.blk hbh (by decide)
               have hr3 := hrh.chg C3 (fun _ => hAh)
               have z1 : w3.cell? ⟨gb, 0, none⟩ = some (.slice Ag ng cg) := y1.cell 0
               have z2 : w3.cell? ⟨nb, 0, none⟩ = some (.int .i64 n) := y2.cell 0
               have z3 : w3.cell? ⟨cb, 0, none⟩ = some (.int .i64 c0) := y3.cell 0
               have z4 : w3.cell? ⟨hb, 0, none⟩ = some (.slice (some ⟨gh, oh, none⟩) K ch) := y4.cell 0
               have f1 : w3.frozen? ⟨gb, 0, none⟩ = false := y1.free 0
               have f3 : w3.frozen? ⟨cb, 0, none⟩ = false := y3.free 0
               obtain ⟨A', c', rfl, _, _⟩ := own_form hown
               clear ho1 hsrc)
  have k4 : Keeps [gb] w3 (w3.setCell ⟨gb, 0, none⟩ (.slice A' (ng + 2) c')) := (Keeps.refl _ _).setCell (.inl (by simp)) _
  have k5 : Keeps [cb] (w3.setCell ⟨gb, 0, none⟩ (.slice A' (ng + 2) c')) ((w3.setCell ⟨gb, 0, none⟩ (.slice A' (ng + 2) c')).setCell ⟨cb, 0, none⟩ (.int .i64 ((c0 : Int) + 1))) := (Keeps.refl _ _).setCell (.inl (by simp)) _
  have p1 : Blk (w3.setCell ⟨gb, 0, none⟩ (.slice A' (ng + 2) c')) gb 74 #[.slice A' (ng + 2) c'] := y1.set 0 _
  have p3 := k4.blk y3 (by simp; exact n2.symm)
  have C4 : Chg β [74] [] w3 (w3.setCell ⟨gb, 0, none⟩ (.slice A' (ng + 2) c')) := chg_cells y1 k4 (by simp) h0g
  have C5 : Chg β [3] [] (w3.setCell ⟨gb, 0, none⟩ (.slice A' (ng + 2) c')) ((w3.setCell ⟨gb, 0, none⟩ (.slice A' (ng + 2) c')).setCell ⟨cb, 0, none⟩ (.int .i64 ((c0 : Int) + 1))) := chg_cells p3 k5 (by simp) h0c
  have q1 := C5.blk p1 (by decide)
  have q2 := k5.blk (k4.blk y2 (by simp; exact n1.symm)) (by simp; exact hnc)
  have q3 : Blk _ cb 3 #[.int .i64 ((c0 : Int) + 1)] := p3.set 0 (.int .i64 ((c0 : Int) + 1))
  have q4 := C5.blk (C4.blk y4 (by decide)) (by decide)
  have hown5 := C5.own (C4.own hown (by decide)) (by decide)
  have hr5 := (hr3.keep k4 (by intro g o hh; injection hh with hh; injection hh with h1 _; subst h1; simp; exact n6.symm)).keep k5 (by intro g o hh; injection hh with hh; injection hh with h1 _; subst h1; simp; exact hgc)
  have hq5 : ∀ q cs, q ≠ cb → Blk w q 3 cs → Blk ((w3.setCell ⟨gb, 0, none⟩ (.slice A' (ng + 2) c')).setCell ⟨cb, 0, none⟩ (.int .i64 ((c0 : Int) + 1))) q 3 cs := fun q cs hne hq => k5.blk (C4.blk (C3.blk hq (by decide)) (by decide)) (by simp; exact hne)
  have hC5 : Chg β [74, 2, 3] [] w ((w3.setCell ⟨gb, 0, none⟩ (.slice A' (ng + 2) c')).setCell ⟨cb, 0, none⟩ (.int .i64 ((c0 : Int) + 1))) := ((C3.mono (by simp) (by simp)).trans (C4.mono (by simp) (by simp))).trans (C5.mono (by simp) (by simp))
  generalize (w3.setCell ⟨gb, 0, none⟩ (.slice A' (ng + 2) c')).setCell ⟨cb, 0, none⟩ (.int .i64 ((c0 : Int) + 1)) = w4 at *
  have r0 : w4.cell? ⟨gh, oh + n, none⟩ = some (.int .i64 hn) := by
    obtain ⟨g', o', he, _, hc⟩ := hr5.addr (by omega)
    injection he with he; injection he with e1 e2; subst e1 e2
    exact hc _ _ Hh.out
  have r2 : w4.cell? ⟨nb, 0, none⟩ = some (.int .i64 n) := q2.cell 0
  have r3 : w4.cell? ⟨cb, 0, none⟩ = some (.int .i64 ((c0 : Int) + 1)) := q3.cell 0
  have r4 : w4.cell? ⟨hb, 0, none⟩ = some (.slice (some ⟨gh, oh, none⟩) K ch) := q4.cell 0
  have HQ := Lib.hid hq5
  have HC := Lib.hid hC5
  have HG := Lib.hid (show ∃ A' c', Blk w4 gb 74 #[.slice A' (ng + 2) c'] ∧ w4.ownsRow β 2 1 (.slice A' (ng + 2) c') (ng + 2) (gl ++ [.int .i64 n, .int .i64 id]) from ⟨A', c', q1, hown5⟩)
  have Hq3 := Lib.hid q3
  clear x0 x1 x2 x3 x4 z1 z2 z3 z4 f1 f3 hq5 hC5 q1 q2 q3 q4 hown5 hr5 hr3 y1 y2 y3 y4 k4 k5 p1 p3 C3 C3' C4 C5 hown hg3 s1 s2 s3 s4 n1 n2 n3 n4 n5 n6 K1
  have i0 : (0 : Int) ≤ n := by omega
  have i1 : (n : Int) < K := by omega
  generalize hA : bits BinOp.and IntKind.i64 hn 3 = A0 at *
  generalize hCC : bits BinOp.and IntKind.i64 (hn / 4) 3 = C0 at *
  have hmore : ∀ (o : Came) (w5 : World), o.ok → Outc MRep (tCode A0 C0 ((c0 : Int) + 1) n) o w5 → Keeps [] w4 w5 → TellsP β gb cb ng gl n c0 hn id w o.ending w5 :=
    fun o w5 hok hO k => TellsP.more hok (by rw [hA, hCC]; exact hO) HG.out Hq3.out HQ.out HC.out k
  have HM := Lib.hid hmore
  clear hmore
  by_cases a1 : A0 = 1
  · have qa1 : (A0 == 1) = true := by simpa using a1
    have qa2 : (A0 == 2) = false := by rw [a1]; rfl
    by_cases cc : (c0 : Int) + 1 = C0
    · have qc : ((c0 : Int) + 1 == C0) = true := by simpa using cc
      have Hcode := Lib.hid (show tCode A0 C0 ((c0 : Int) + 1) n = some (1, n) from by unfold tCode; rw [if_pos ⟨a1, cc⟩])
      clear a1 cc
      go_quiet (fail)
      go_wp2
      go_ret
      exact HM.out (.told 77 (ptr w4.heap.size)) _ trivial (by rw [Hcode.out]; exact ⟨nofun, .inl ⟨rfl, _, rfl, Blk.new' _ _ rfl⟩⟩) (((Keeps.refl _ _).drewN _).alloc _)
    · have qc : ((c0 : Int) + 1 == C0) = false := by simpa using cc
      have Hcode := Lib.hid (show tCode A0 C0 ((c0 : Int) + 1) n = none from by unfold tCode; rw [if_neg (fun h => cc h.2), if_neg (fun h => cc h.2)])
      clear a1 cc
      go_quiet (fail)
      go_wp2
      go_quiet (fail)
      go_wp2
      go_ret
      exact HM.out .fine _ trivial (by rw [Hcode.out]; exact rfl) (by first | exact (Keeps.refl _ _).drewN _ | exact ((Keeps.refl _ _).drewN _).drewN _)
  · have qa1 : (A0 == 1) = false := by simpa using a1
    by_cases a2 : A0 = 2
    · have qa2 : (A0 == 2) = true := by simpa using a2
      by_cases cc : (c0 : Int) + 1 = C0
      · have qc : ((c0 : Int) + 1 == C0) = true := by simpa using cc
        have Hcode := Lib.hid (show tCode A0 C0 ((c0 : Int) + 1) n = some (2, n) from by unfold tCode; rw [if_neg (fun h => a1 h.1), if_pos ⟨a2, cc⟩])
        clear a1 a2 cc
        go_quiet (fail)
        go_wp2
        go_quiet (fail)
        go_wp2
        exact ⟨rfl, HM.out (.struck 3 (.int .i64 (100 + (n : Int)))) _ (by exact rfl) (by rw [Hcode.out]; exact ⟨nofun, .inr ⟨rfl, rfl⟩⟩) (by first | exact (Keeps.refl _ _).drewN _ | exact ((Keeps.refl _ _).drewN _).drewN _)⟩
      · have qc : ((c0 : Int) + 1 == C0) = false := by simpa using cc
        have Hcode := Lib.hid (show tCode A0 C0 ((c0 : Int) + 1) n = none from by unfold tCode; rw [if_neg (fun h => cc h.2), if_neg (fun h => cc h.2)])
        clear a1 a2 cc
        go_quiet (fail)
        go_wp2
        go_quiet (fail)
        go_wp2
        go_ret
        exact HM.out .fine _ trivial (by rw [Hcode.out]; exact rfl) (by first | exact (Keeps.refl _ _).drewN _ | exact ((Keeps.refl _ _).drewN _).drewN _)
    · have qa2 : (A0 == 2) = false := by simpa using a2
      have Hcode := Lib.hid (show tCode A0 C0 ((c0 : Int) + 1) n = none from by unfold tCode; rw [if_neg (fun h => a1 h.1), if_neg (fun h => a2 h.1)])
      clear a1 a2
      go_quiet (fail)
      go_wp2
      go_quiet (fail)
      go_wp2
      go_ret
      exact HM.out .fine _ trivial (by rw [Hcode.out]; exact rfl) (by first | exact (Keeps.refl _ _).drewN _ | exact ((Keeps.refl _ _).drewN _).drewN _)
end Go.Proofs.YtkngjgblfappoaaGreatDoor
