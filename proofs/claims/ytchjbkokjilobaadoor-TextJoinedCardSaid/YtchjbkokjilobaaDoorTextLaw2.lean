/- The walk of TextBlank. -/
import Derived.Test.YtchjbkokjilobaaDoorTextLaw
import Derived.Lib.ConvBytes
namespace Go.Proofs.YtchjbkokjilobaaDoor
open Go.RowKit
set_option linter.unusedVariables false

def NoteRel (note : ByteArray) (wb : World) (q : Nat) (p : Value) (wr : World) : Prop :=
  ∃ i : Nat, q = note.size - i ∧ p = .int .i64 i ∧ i ≤ note.size ∧ wr = wb ∧ ∀ j (h : j < note.size), j < i → ¬ note[j] = 10

set_option maxRecDepth 100000 in
set_option maxHeartbeats 1600000 in
theorem blank_law (s note : ByteArray) (w : World) (hs : s.size ≤ 140737488351232) (hn : note.size ≤ 140737488351232) (ht : TabAt w.heap.size w) :
    Calls Tryd.prog 5 #[.string s, .string note] w fun e w' => e = .returned (.bool true) ∧ w.grownBy w' none := by
  have HT := Lib.hid ht
  have hsm : s.size ≤ maxLen := by unfold maxLen; omega
  have hnm : note.size ≤ maxLen := by unfold maxLen; omega
  have hi1 : (s.size : Int) ≤ 140737488351232 := by omega
  have hi2 : (note.size : Int) ≤ 140737488351232 := by omega
  have hcv := fun (w : World) (s : ByteArray) => Lib.run_convert_string_bytes (P := Tryd.prog) w 9 35 5 s Tryd.underlying9 Tryd.underlying35 Tryd.underlying5
  clear ht
  go_enter Tryd.func5, Tryd.ntmps5
  go_wp2_with (go_at_call 6; refine (alive_any _ HT.out).mono ?_; rintro e w1 ⟨rfl, hg1⟩; have HG1 := Lib.hid hg1; clear hg1)
  have hcell : ∀ j (h : j < note.size), (Lib.bytesWorld w1 5 note).cell? ⟨w1.heap.size, j, none⟩ = some (.int .u8 (note[j].toNat : Int)) := by
    intro j h
    rw [Lib.bytesWorld_cell w1 5 note j h]
    have : note.data.toList.getD j 0 = note[j] := by
      rw [List.getD_eq_getElem?_getD, List.getElem?_eq_getElem (by simpa using h)]
      rfl
    rw [this]
  have hgb : w1.grownBy (Lib.bytesWorld w1 5 note) none := below_grown (Joins.below_bytesWorld _ _ _ _ (Nat.le_refl _)) none
  generalize grownCap w1 note.size 0 5 = cap
  generalize Lib.bytesWorld w1 5 note = wb at *
  have HC := Lib.hid hcell
  have HGB := Lib.hid (grown_trans HG1.out hgb)
  clear hcell hgb
  go_loopg [16] note.size (fun q p wr => NoteRel note wb q p wr)
  case atStart => exact ⟨0, by simp, rfl, by omega, rfl, fun j _ h => absurd h (by omega)⟩
  case round =>
    obtain ⟨i, rfl, rfl, hi, rfl, hnot⟩ := hrel
    have HN := Lib.hid hnot
    clear hnot
    by_cases hlt : i < note.size
    · have hlt' : (i : Int) < (note.size : Int) := by omega
      have c0 := HC.out i hlt
      cases h10 : ((note[i].toNat : Int) == 10) with
      | true =>
        go_wp2_with fail
        go_ret
        exact ⟨rfl, HGB.out⟩
      | false =>
        have HX := Lib.hid ((byte_isnt (c := note[i]) (d := 10) 10 rfl).2 h10)
        go_wp2_with fail
        go_roundg (note.size - (i + 1))
        case measure => omega
        case rel =>
          refine ⟨i + 1, rfl, rfl, by omega, rfl, fun j hj hji => ?_⟩
          rcases Nat.lt_or_ge j i with h | h
          · exact HN.out j hj h
          · obtain rfl : j = i := by omega
            exact HX.out
    · have hlt' : ¬ (i : Int) < (note.size : Int) := by omega
      have hno : ∀ c ∈ note.data.toList, ¬ c = 10 := by
        intro c hc
        obtain ⟨j, hj, rfl⟩ := List.getElem_of_mem hc
        exact HN.out j (by simpa using hj) (by simp at hj; omega)
      have HNO := Lib.hid hno
      clear hno
      cases hM : Tx.read s.data.toList with
      | error er =>
        have hne : (er.1 != 0) = true := by simpa using Tx.read_err hM
        have HM := Lib.hid hM
        clear hM
        go_wp2_with (go_at_call 8; refine (read_any s _ hsm).mono ?_; rw [HM.out]; rintro e w5 ⟨rfl, hg5⟩; have HG5 := Lib.hid (grown_trans HGB.out hg5); clear hg5)
        go_ret
        exact ⟨rfl, grown_alloc HG5.out _⟩
      | ok m =>
        obtain ⟨_, hms, hml⟩ := Tx.read_right hM
        have HM := Lib.hid hM
        have HMS := Lib.hid (hms.mono (S' := 140737488351232) (by omega))
        clear hM hms
        by_cases hbig : 6000 < (s.size : Int) + 2 * (note.size : Int) + 6
        · go_wp2_with (go_at_call 8; refine (read_any s _ hsm).mono ?_; rw [HM.out]; rintro e w5 ⟨vm, rfl, hslm, hg5⟩; have HG5 := Lib.hid (grown_trans HGB.out hg5); have HSM5 := Lib.hid hslm.any; clear hg5)
          go_ret
          exact ⟨rfl, grown_alloc HG5.out _⟩
        · go_wp2_with fail
          refine (read_any s _ hsm).mono ?_
          rw [HM.out]
          rintro e w5 ⟨vm, rfl, hslm, hg5⟩
          have HG5 := Lib.hid (grown_trans HGB.out hg5)
          have HSM5 := Lib.hid hslm.any
          obtain ⟨mA, mc, rfl⟩ := hslm.form
          clear hg5 hslm
          have HB := Lib.hid (Tx.read_blank (note := note.data.toList) HM.out HNO.out (by simp; omega))
          have hX : ((⟨#[59]⟩ : ByteArray) ++ note ++ ⟨#[10, 32, 9]⟩ ++ s ++ ⟨#[10, 59]⟩ ++ note).data.toList = 59 :: (note.data.toList ++ 10 :: 32 :: 9 :: (s.data.toList ++ 10 :: 59 :: note.data.toList)) := by simp
          have hXs : ((⟨#[59]⟩ : ByteArray) ++ note ++ ⟨#[10, 32, 9]⟩ ++ s ++ ⟨#[10, 59]⟩ ++ note).size ≤ maxLen := by
            show ((⟨#[59]⟩ : ByteArray) ++ note ++ ⟨#[10, 32, 9]⟩ ++ s ++ ⟨#[10, 59]⟩ ++ note).data.size ≤ maxLen
            rw [← Array.length_toList, hX]
            simp
            unfold maxLen
            omega
          have HX := Lib.hid hX
          have HB5 := Lib.hid (Blk.new w5 #[.int .i64 0, .int .i64 0] 26)
          clear hX
          go_wp2_with fail
          refine (read_any _ _ hXs).mono ?_
          rw [HX.out, HB.out]
          rintro e w6 ⟨vn, rfl, hsln, hg6⟩
          obtain ⟨nA, nc, rfl⟩ := hsln.form
          have HSN := Lib.hid hsln.any
          have HG6 := Lib.hid (grown_trans (grown_alloc (grown_refl w5 none) _) hg6)
          clear hsln hg6 hXs
          have hself : Tx.sames m m = true := Tx.sames_refl m
          have HSF := Lib.hid hself
          clear hself
          go_wp2_with (go_at_call 9; refine (Same_any m m _ _ _ HMS.out HMS.out (by omega) (by omega) (HSM5.out.grown (by exact grown_alloc HG6.out _)) (HSN.out.grown (World.grownBy_alloc _ _ _))).mono ?_; rw [HSF.out]; rintro e wy ⟨rfl, hgy⟩; have HGY := Lib.hid (grown_trans (grown_alloc HG6.out _) hgy); clear hgy)
          go_ret
          exact ⟨rfl, grown_trans HG5.out HGY.out⟩
end Go.Proofs.YtchjbkokjilobaaDoor
