/- The walks of alive and of the three statements. -/
import Derived.Test.YtchjbkokjilobaaDoorTextZd
namespace Go.Proofs.YtchjbkokjilobaaDoor
open Go.RowKit
set_option linter.unusedVariables false

theorem read_any (s : ByteArray) (w : World) (hs : s.size ≤ maxLen) :
    Calls Tryd.prog 8 #[.string s] w (ReadPost w (Tx.read s.data.toList)) := by
  rcases Nat.lt_or_ge 6000 s.size with h | h
  · have : Tx.read s.data.toList = .error (4, 0) := by unfold Tx.read; rw [if_pos (by simpa using h)]
    rw [this]
    exact read_long s w h hs
  · exact read_short s w h

def aliveText : List UInt8 := [40, 97, 32, 39, 98, 32, 35, 116, 41, 32, 59, 32, 99, 10, 45, 55]
def aliveData : List Datum := [Tx.list [Tx.sym [97], Tx.list [Tx.sym Tx.quoteName, Tx.sym [98]], Tx.truth 1], Tx.num (-7)]
theorem alive_read : Tx.read aliveText = .ok aliveData := by rfl
theorem alive_itoa : Lib.itoa (-7) = [45, 55] := by
  unfold Lib.itoa
  rw [if_pos (by decide)]
  rw [Lib.decDigits_one (by decide)]
  rfl
theorem alive_wrong : Tx.wrong aliveData = (0, 0) := by rfl
theorem alive_print : Tx.print aliveData = ([40, 97, 32, 40, 113, 117, 111, 116, 101, 32, 98, 41, 32, 35, 116, 41, 10, 45, 55, 10], (0, 0)) := by
  have hl : Tx.lines aliveData = [40, 97, 32, 40, 113, 117, 111, 116, 101, 32, 98, 41, 32, 35, 116, 41, 10, 45, 55, 10] := by
    unfold aliveData
    rw [Tx.lines_cons, Tx.lines_cons, Tx.write_num (d := Tx.num (-7)) rfl]
    rw [show (Tx.num (-7)).num = -7 from rfl, alive_itoa]
    rfl
  unfold Tx.print
  rw [alive_wrong, hl]
  rfl

theorem Sl.any {w : World} {M : Nat → Prop} {v : Value} {ds : List Datum} (h : Sl w M v ds) : Sl w (fun _ => False) v ds := h.mono (fun b hb => hb.elim)
theorem bytes_of (l : List UInt8) : (⟨l.toArray⟩ : ByteArray).data.toList = l := by simp

set_option maxRecDepth 100000 in
set_option maxHeartbeats 800000 in
theorem alive_any (w : World) (ht : TabAt w.heap.size w) :
    Calls Tryd.prog 6 #[] w fun e w' => e = .returned (.bool true) ∧ w.grownBy w' none := by
  have hR := read_any ⟨aliveText.toArray⟩ w (by decide)
  rw [bytes_of, alive_read] at hR
  have HR := Lib.hid hR
  have HT := Lib.hid ht
  clear hR ht
  go_enter Tryd.func6, Tryd.ntmps6
  go_wp2_with (go_at_call 8; refine HR.out.mono ?_; rintro e w1 ⟨v, rfl, hsl, hgr⟩)
  obtain ⟨A, c, rfl⟩ := hsl.form
  have HG1 := Lib.hid (grown_alloc hgr (.cells #[.int .i64 0, .int .i64 0] 26))
  have hB1 := Blk.new w1 #[.int .i64 0, .int .i64 0] 26
  have hP := Print_any _ aliveData (w1.alloc (.cells #[.int .i64 0, .int .i64 0] 26)) (by
    unfold aliveData Tx.list Tx.sym Tx.truth Tx.num Tx.quoteName
    simp [Tx.SmallL, Tx.SmallD]) (by decide) (hsl.any.grown (World.grownBy_alloc _ _ _)) (HT.out.grown HG1.out)
  rw [alive_print] at hP
  have HP := Lib.hid hP
  have HB1 := Lib.hid hB1
  clear hP hsl hgr hB1
  go_wp2_with (go_at_call 7; refine HP.out.mono ?_; rintro e w2 ⟨rfl, hgr2⟩; have HG2 := Lib.hid (grown_trans HG1.out hgr2); have hB2 := HB1.out.grown hgr2 (by simp); have b0 : w2.cell? ⟨w1.heap.size, 0, none⟩ = some (.int .i64 0) := hB2.cell 0; have l0 := hB2.lt; clear hgr2 hB2)
  go_ret
  exact ⟨rfl, grown_alloc HG2.out _⟩

def Turned (w : World) (e : Ending) (w' : World) : Prop := e = .returned (.bool true) ∧ w.grownBy w' none
set_option maxRecDepth 100000 in
set_option maxHeartbeats 3200000 in
theorem turns_any (v : Value) (ds : List Datum) (s : ByteArray) (w : World) (hsm : Tx.SmallL 140737488351232 ds) (hlen : ds.length ≤ 140737488351232) (hsl : Sl w (fun _ => False) v ds) (hs : s.size ≤ maxLen) (ht : TabAt w.heap.size w) :
    Calls Tryd.prog 3 #[v, .string s] w fun e w' => e = .returned (.bool true) ∧ w.grownBy w' none := by
  have hfl : ∀ (a b : Int) (w : World), (Instr.field 26 (.agg #[.int .i64 a, .int .i64 b]) 0).run Tryd.prog w = .ok (.int .i64 a) w := fun _ _ _ => by kernel_rfl
  obtain ⟨kA, kc, rfl⟩ := hsl.form
  have HS := Lib.hid hsl
  have HT := Lib.hid ht
  have HSM := Lib.hid hsm
  clear hsl ht hsm
  go_enter Tryd.func3, Tryd.ntmps3
  go_wp2_with (go_at_call 6; refine (alive_any _ HT.out).mono ?_; rintro e w1 ⟨rfl, hg1⟩; have HG1 := Lib.hid hg1; clear hg1)
  have HP1 := Lib.hid (Print_any _ ds w1 HSM.out hlen (HS.out.grown HG1.out) (HT.out.grown HG1.out))
  by_cases hp : (Tx.print ds).2.1 = 0
  · obtain ⟨hw0, hl0, _⟩ := Tx.print_ok hp
    have hpr : Tx.print ds = (Tx.lines ds, (0, 0)) := by
      rcases Tx.print_cases hw0 with h | h
      · rw [h] at hp; simp at hp
      · exact h.1
    have HPR := Lib.hid hpr
    have HR2 := Lib.hid (Tx.read_lines hw0 hl0)
    have HS2 := Lib.hid (Tx.sames_canon ds (Tx.wrong_ok hw0).2.1)
    clear hpr hp hw0
    go_wp2_with (go_at_call 7; refine HP1.out.mono ?_; rw [HPR.out]; rintro e w2 ⟨rfl, hg2⟩; have HG2 := Lib.hid (grown_trans HG1.out hg2); clear hg2)
    have hb3 := Blk.new w2 #[.int .i64 0, .int .i64 0] 26
    have HB3 := Lib.hid hb3
    clear hb3
    go_wp2_with (go_at_call 8; refine (read_any ⟨(Tx.lines ds).toArray⟩ _ (by show (Tx.lines ds).toArray.size ≤ _; simp; unfold maxLen; omega)).mono ?_; rw [bytes_of, HR2.out]; rintro e w3 ⟨vn, rfl, hsln, hg3⟩; have HG3 := Lib.hid (grown_trans (grown_alloc HG2.out _) hg3); have HSN := Lib.hid hsln.any; clear hg3)
    obtain ⟨nA, nc, rfl⟩ := hsln.form
    clear hsln
    have hcs := Tx.read_right HR2.out
    have HCS := Lib.hid (hcs.2.1.mono (S' := 140737488351232) (by omega))
    have hcl := hcs.2.2
    clear hcs
    go_wp2_with (go_at_call 9; refine (Same_any ds (Tx.canons ds) _ _ _ HSM.out HCS.out hlen (by omega) (HS.out.grown (by exact grown_alloc HG3.out _)) (HSN.out.grown (World.grownBy_alloc _ _ _))).mono ?_; rw [HS2.out]; rintro e w4 ⟨rfl, hg4⟩; have HG4 := Lib.hid (grown_trans (grown_alloc HG3.out _) hg4); clear hg4)
    cases hM : Tx.read s.data.toList with
    | error er =>
      have hne : (er.1 != 0) = true := by simpa using Tx.read_err hM
      have HM := Lib.hid hM
      clear hM
      go_wp2_with (go_at_call 8; refine (read_any s _ hs).mono ?_; rw [HM.out]; rintro e w5 ⟨rfl, hg5⟩; have HG5 := Lib.hid (grown_trans (by exact HG4.out) hg5); clear hg5)
      go_ret
      exact ⟨rfl, grown_alloc HG5.out _⟩
    | ok m =>
      obtain ⟨hw, hms, hml⟩ := Tx.read_right hM
      have HM := Lib.hid hM
      have HMS := Lib.hid (hms.mono (S' := 140737488351232) (by omega))
      have HMW := Lib.hid hw
      clear hM hms hw
      go_wp2_with (go_at_call 8; refine (read_any s _ hs).mono ?_; rw [HM.out]; rintro e w5 ⟨vm, rfl, hslm, hg5⟩; have HG5 := Lib.hid (grown_trans (by exact HG4.out) hg5); have HSM5 := Lib.hid hslm.any; clear hg5)
      obtain ⟨mA, mc, rfl⟩ := hslm.form
      clear hslm
      have hl5 : ((m.length : Nat) : Int) = m.length := rfl
      have HB5 := Lib.hid (Blk.new w5 #[.int .i64 0, .int .i64 0] 26)
      have HW := Lib.hid (Wrong_any _ m (w5.alloc (.cells #[.int .i64 0, .int .i64 0] 26)) HMS.out (by omega) (HSM5.out.grown (World.grownBy_alloc _ _ _)))
      go_wp2_with (go_at_call 10; refine HW.out.mono ?_; rw [HMW.out]; rintro e w6 ⟨rfl, hg6⟩; have HG6 := Lib.hid (grown_trans (grown_alloc (grown_refl w5 none) _) hg6); have HB6 := Lib.hid (HB5.out.grown hg6 (by simp)); clear hg6)
      have HP := Lib.hid (Print_any _ m w6 HMS.out (by omega) (HSM5.out.grown HG6.out) (HT.out.grown (grown_trans HG5.out HG6.out)))
      rcases Tx.print_cases (l := m) (by rw [HMW.out]) with hpr | ⟨hpr, hll⟩
      · have HPR := Lib.hid hpr
        clear hpr
        go_wp2_with (go_at_call 7; refine HP.out.mono ?_; rw [HPR.out]; rintro e w7 ⟨rfl, hg7⟩; have hB7 := HB6.out.grown hg7 (by simp); have HG7 := Lib.hid (grown_trans HG6.out hg7); have b0 : w7.cell? ⟨w5.heap.size, 0, none⟩ = some (.int .i64 0) := hB7.cell 0; have b1 : w7.cell? ⟨w5.heap.size, 1, none⟩ = some (.int .i64 0) := hB7.cell 1; have f0 := hB7.frozen 0; have f1 := hB7.frozen 1; clear hg7 hB7)
        go_ret
        exact ⟨rfl, grown_trans HG5.out (grown_setCell_new (grown_setCell_new HG7.out (Nat.le_refl _) _) (Nat.le_refl _) _)⟩
      · have HPR := Lib.hid hpr
        have HR2 := Lib.hid (Tx.read_lines (ds := m) (by rw [HMW.out]) hll)
        have HS2 := Lib.hid (Tx.sames_canon m (Tx.wrong_ok (by rw [HMW.out])).2.1)
        clear hpr
        go_wp2_with (go_at_call 7; refine HP.out.mono ?_; rw [HPR.out]; rintro e w7 ⟨rfl, hg7⟩; have hB7 := HB6.out.grown hg7 (by simp); have HB7 := Lib.hid hB7; have HG7 := Lib.hid (grown_trans HG6.out hg7); have b0 : w7.cell? ⟨w5.heap.size, 0, none⟩ = some (.int .i64 0) := hB7.cell 0; have b1 : w7.cell? ⟨w5.heap.size, 1, none⟩ = some (.int .i64 0) := hB7.cell 1; have f0 := hB7.frozen 0; have f1 := hB7.frozen 1; clear hg7 hB7)
        have hg7' := grown_setCell_new (grown_setCell_new HG7.out (p := ⟨w5.heap.size, 0, none⟩) (Nat.le_refl _) (.int .i64 0)) (p := ⟨w5.heap.size, 1, none⟩) (Nat.le_refl _) (.int .i64 0)
        have hb7' : Blk ((w7.setCell ⟨w5.heap.size, 0, none⟩ (.int .i64 0)).setCell ⟨w5.heap.size, 1, none⟩ (.int .i64 0)) w5.heap.size #[.int .i64 0, .int .i64 0] 26 := (HB7.out.set 0 _).set 1 _
        generalize (w7.setCell ⟨w5.heap.size, 0, none⟩ (.int .i64 0)).setCell ⟨w5.heap.size, 1, none⟩ (.int .i64 0) = wq at *
        have HG7' := Lib.hid hg7'
        have HB7' := Lib.hid hb7'
        have hb7lt := hb7'.lt
        have q0 : wq.cell? ⟨w5.heap.size, 0, none⟩ = some (.int .i64 0) := hb7'.cell 0
        clear hg7' hb7' b0 b1 f0 f1 HG7 HB7
        go_wp2_with (go_at_call 8; refine (read_any ⟨(Tx.lines m).toArray⟩ _ (by show (Tx.lines m).toArray.size ≤ _; simp; unfold maxLen; omega)).mono ?_; rw [bytes_of, HR2.out]; rintro e w8 ⟨vn, rfl, hsln, hg8⟩; have HG8 := Lib.hid (grown_trans HG7'.out hg8); have HSN := Lib.hid hsln; have hlq := hb7lt; have hB8 := HB7'.out.grown hg8 (by simp); have HB8 := Lib.hid hB8; have r0 : w8.cell? ⟨w5.heap.size, 0, none⟩ = some (.int .i64 0) := hB8.cell 0; have r1 : w8.cell? ⟨w5.heap.size, 1, none⟩ = some (.int .i64 0) := hB8.cell 1; have f0 := hB8.frozen 0; have f1 := hB8.frozen 1; clear hg8 hB8)
        obtain ⟨nA, nc, rfl⟩ := hsln.form
        clear hsln
        have hcs := Tx.read_right HR2.out
        have HCS := Lib.hid (hcs.2.1.mono (S' := 140737488351232) (by omega))
        have hcl := hcs.2.2
        clear hcs
        have hg9 := grown_setCell_new (grown_setCell_new HG8.out (p := ⟨w5.heap.size, 0, none⟩) (Nat.le_refl _) (.int .i64 0)) (p := ⟨w5.heap.size, 1, none⟩) (Nat.le_refl _) (.int .i64 0)
        have hs9 : Sl ((w8.setCell ⟨w5.heap.size, 0, none⟩ (.int .i64 0)).setCell ⟨w5.heap.size, 1, none⟩ (.int .i64 0)) (fun _ => False) (.slice nA (Tx.canons m).length nc) (Tx.canons m) :=
          (HSN.out.keep (fun b _ hm => (Below.heap_setCell _ _ _ _ (by simp only; omega)).trans (Below.heap_setCell _ _ _ _ (by simp only; omega)))).any
        have HB9 := Lib.hid ((HB8.out.set 0 (.int .i64 0)).set 1 (.int .i64 0))
        generalize (w8.setCell ⟨w5.heap.size, 0, none⟩ (.int .i64 0)).setCell ⟨w5.heap.size, 1, none⟩ (.int .i64 0) = wz at *
        have HG9 := Lib.hid hg9
        have HS9 := Lib.hid hs9
        have z0 : wz.cell? ⟨w5.heap.size, 0, none⟩ = some (.int .i64 0) := Blk.cell HB9.out 0
        clear hg9 hs9 r0 r1 f0 f1 HB8 HSN HG8
        go_wp2_with (go_at_call 9; refine (Same_any m (Tx.canons m) _ _ _ HMS.out HCS.out (by omega) (by omega) (HSM5.out.grown (by exact HG9.out)) (by exact HS9.out)).mono ?_; rw [HS2.out]; rintro e wy ⟨rfl, hgy⟩; have HGY := Lib.hid (grown_trans HG9.out hgy); clear hgy)
        go_ret
        exact ⟨rfl, grown_trans HG5.out HGY.out⟩
  · have hp' : ((Tx.print ds).2.1 == 0) = false := by simpa using hp
    generalize Tx.print ds = R at *
    go_wp2_with (go_at_call 7; refine HP1.out.mono ?_; rintro e w2 ⟨rfl, hg2⟩; have HG2 := Lib.hid (grown_trans HG1.out hg2); clear hg2)
    cases hM : Tx.read s.data.toList with
    | error er =>
      have hne : (er.1 != 0) = true := by simpa using Tx.read_err hM
      have HM := Lib.hid hM
      clear hM
      go_wp2_with (go_at_call 8; refine (read_any s _ hs).mono ?_; rw [HM.out]; rintro e w5 ⟨rfl, hg5⟩; have HG5 := Lib.hid (grown_trans (by exact grown_alloc HG2.out _) hg5); clear hg5)
      go_ret
      exact ⟨rfl, grown_alloc HG5.out _⟩
    | ok m =>
      obtain ⟨hw, hms, hml⟩ := Tx.read_right hM
      have HM := Lib.hid hM
      have HMS := Lib.hid (hms.mono (S' := 140737488351232) (by omega))
      have HMW := Lib.hid hw
      clear hM hms hw
      go_wp2_with (go_at_call 8; refine (read_any s _ hs).mono ?_; rw [HM.out]; rintro e w5 ⟨vm, rfl, hslm, hg5⟩; have HG5 := Lib.hid (grown_trans (by exact grown_alloc HG2.out _) hg5); have HSM5 := Lib.hid hslm.any; clear hg5)
      obtain ⟨mA, mc, rfl⟩ := hslm.form
      clear hslm
      have hl5 : ((m.length : Nat) : Int) = m.length := rfl
      have HB5 := Lib.hid (Blk.new w5 #[.int .i64 0, .int .i64 0] 26)
      have HW := Lib.hid (Wrong_any _ m (w5.alloc (.cells #[.int .i64 0, .int .i64 0] 26)) HMS.out (by omega) (HSM5.out.grown (World.grownBy_alloc _ _ _)))
      go_wp2_with (go_at_call 10; refine HW.out.mono ?_; rw [HMW.out]; rintro e w6 ⟨rfl, hg6⟩; have HG6 := Lib.hid (grown_trans (grown_alloc (grown_refl w5 none) _) hg6); have HB6 := Lib.hid (HB5.out.grown hg6 (by simp)); clear hg6)
      have HP := Lib.hid (Print_any _ m w6 HMS.out (by omega) (HSM5.out.grown HG6.out) (HT.out.grown (grown_trans HG5.out HG6.out)))
      rcases Tx.print_cases (l := m) (by rw [HMW.out]) with hpr | ⟨hpr, hll⟩
      · have HPR := Lib.hid hpr
        clear hpr
        go_wp2_with (go_at_call 7; refine HP.out.mono ?_; rw [HPR.out]; rintro e w7 ⟨rfl, hg7⟩; have hB7 := HB6.out.grown hg7 (by simp); have HG7 := Lib.hid (grown_trans HG6.out hg7); have b0 : w7.cell? ⟨w5.heap.size, 0, none⟩ = some (.int .i64 0) := hB7.cell 0; have b1 : w7.cell? ⟨w5.heap.size, 1, none⟩ = some (.int .i64 0) := hB7.cell 1; have f0 := hB7.frozen 0; have f1 := hB7.frozen 1; clear hg7 hB7)
        go_ret
        exact ⟨rfl, grown_trans HG5.out (grown_setCell_new (grown_setCell_new HG7.out (Nat.le_refl _) _) (Nat.le_refl _) _)⟩
      · have HPR := Lib.hid hpr
        have HR2 := Lib.hid (Tx.read_lines (ds := m) (by rw [HMW.out]) hll)
        have HS2 := Lib.hid (Tx.sames_canon m (Tx.wrong_ok (by rw [HMW.out])).2.1)
        clear hpr
        go_wp2_with (go_at_call 7; refine HP.out.mono ?_; rw [HPR.out]; rintro e w7 ⟨rfl, hg7⟩; have hB7 := HB6.out.grown hg7 (by simp); have HB7 := Lib.hid hB7; have HG7 := Lib.hid (grown_trans HG6.out hg7); have b0 : w7.cell? ⟨w5.heap.size, 0, none⟩ = some (.int .i64 0) := hB7.cell 0; have b1 : w7.cell? ⟨w5.heap.size, 1, none⟩ = some (.int .i64 0) := hB7.cell 1; have f0 := hB7.frozen 0; have f1 := hB7.frozen 1; clear hg7 hB7)
        have hg7' := grown_setCell_new (grown_setCell_new HG7.out (p := ⟨w5.heap.size, 0, none⟩) (Nat.le_refl _) (.int .i64 0)) (p := ⟨w5.heap.size, 1, none⟩) (Nat.le_refl _) (.int .i64 0)
        have hb7' : Blk ((w7.setCell ⟨w5.heap.size, 0, none⟩ (.int .i64 0)).setCell ⟨w5.heap.size, 1, none⟩ (.int .i64 0)) w5.heap.size #[.int .i64 0, .int .i64 0] 26 := (HB7.out.set 0 _).set 1 _
        generalize (w7.setCell ⟨w5.heap.size, 0, none⟩ (.int .i64 0)).setCell ⟨w5.heap.size, 1, none⟩ (.int .i64 0) = wq at *
        have HG7' := Lib.hid hg7'
        have HB7' := Lib.hid hb7'
        have hb7lt := hb7'.lt
        have q0 : wq.cell? ⟨w5.heap.size, 0, none⟩ = some (.int .i64 0) := hb7'.cell 0
        clear hg7' hb7' b0 b1 f0 f1 HG7 HB7
        go_wp2_with (go_at_call 8; refine (read_any ⟨(Tx.lines m).toArray⟩ _ (by show (Tx.lines m).toArray.size ≤ _; simp; unfold maxLen; omega)).mono ?_; rw [bytes_of, HR2.out]; rintro e w8 ⟨vn, rfl, hsln, hg8⟩; have HG8 := Lib.hid (grown_trans HG7'.out hg8); have HSN := Lib.hid hsln; have hlq := hb7lt; have hB8 := HB7'.out.grown hg8 (by simp); have HB8 := Lib.hid hB8; have r0 : w8.cell? ⟨w5.heap.size, 0, none⟩ = some (.int .i64 0) := hB8.cell 0; have r1 : w8.cell? ⟨w5.heap.size, 1, none⟩ = some (.int .i64 0) := hB8.cell 1; have f0 := hB8.frozen 0; have f1 := hB8.frozen 1; clear hg8 hB8)
        obtain ⟨nA, nc, rfl⟩ := hsln.form
        clear hsln
        have hcs := Tx.read_right HR2.out
        have HCS := Lib.hid (hcs.2.1.mono (S' := 140737488351232) (by omega))
        have hcl := hcs.2.2
        clear hcs
        have hg9 := grown_setCell_new (grown_setCell_new HG8.out (p := ⟨w5.heap.size, 0, none⟩) (Nat.le_refl _) (.int .i64 0)) (p := ⟨w5.heap.size, 1, none⟩) (Nat.le_refl _) (.int .i64 0)
        have hs9 : Sl ((w8.setCell ⟨w5.heap.size, 0, none⟩ (.int .i64 0)).setCell ⟨w5.heap.size, 1, none⟩ (.int .i64 0)) (fun _ => False) (.slice nA (Tx.canons m).length nc) (Tx.canons m) :=
          (HSN.out.keep (fun b _ hm => (Below.heap_setCell _ _ _ _ (by simp only; omega)).trans (Below.heap_setCell _ _ _ _ (by simp only; omega)))).any
        have HB9 := Lib.hid ((HB8.out.set 0 (.int .i64 0)).set 1 (.int .i64 0))
        generalize (w8.setCell ⟨w5.heap.size, 0, none⟩ (.int .i64 0)).setCell ⟨w5.heap.size, 1, none⟩ (.int .i64 0) = wz at *
        have HG9 := Lib.hid hg9
        have HS9 := Lib.hid hs9
        have z0 : wz.cell? ⟨w5.heap.size, 0, none⟩ = some (.int .i64 0) := Blk.cell HB9.out 0
        clear hg9 hs9 r0 r1 f0 f1 HB8 HSN HG8
        go_wp2_with (go_at_call 9; refine (Same_any m (Tx.canons m) _ _ _ HMS.out HCS.out (by omega) (by omega) (HSM5.out.grown (by exact HG9.out)) (by exact HS9.out)).mono ?_; rw [HS2.out]; rintro e wy ⟨rfl, hgy⟩; have HGY := Lib.hid (grown_trans HG9.out hgy); clear hgy)
        go_ret
        exact ⟨rfl, grown_trans HG5.out HGY.out⟩
end Go.Proofs.YtchjbkokjilobaaDoor
