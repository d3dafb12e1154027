/- The walk of text.Print. -/
import Derived.Test.YtchjbkokjilobaaDoorTextU
namespace Go.Proofs.YtchjbkokjilobaaDoor
open Go.RowKit
set_option linter.unusedVariables false

namespace Tx
def lines : List Datum → List UInt8
  | [] => []
  | d :: ds => write d ++ [10] ++ lines ds
/-- what Print comes to -/
def print (l : List Datum) : List UInt8 × (Int × Int) :=
  if (wrong l).1 = 0 then if (lines l).length > 6000 then ([], (4, 0)) else (lines l, (0, 0)) else ([], wrong l)

theorem nDigits_le : ∀ (k u : Nat), u < 10 ^ (k + 1) → Lib.nDigits u ≤ k + 1
  | 0, u, h => by rw [Lib.nDigits_small (by simpa using h)]; omega
  | k + 1, u, h => by
    by_cases h1 : u < 10
    · rw [Lib.nDigits_small h1]; omega
    · rw [Lib.nDigits_big h1]
      have := nDigits_le k (u / 10) (by rw [Nat.div_lt_iff_lt_mul (by omega)]; rw [Nat.pow_succ] at h; exact h)
      omega
theorem itoa_len {n : Int} (h0 : -1000000000000000 ≤ n) (h1 : n ≤ 1000000000000000) : (Lib.itoa n).length ≤ 17 := by
  unfold Lib.itoa
  split
  · rw [List.length_cons, Lib.decDigits_length]
    have := nDigits_le 15 n.natAbs (by simp; omega)
    omega
  · rw [Lib.decDigits_length]
    have := nDigits_le 15 n.toNat (by simp; omega)
    omega
theorem named_len {s : List UInt8} (h : named s = true) : 1 ≤ s.length ∧ s.length ≤ 20 := by
  unfold named at h
  simp at h
  omega

theorem shapes_ok {sh : Datum → Nat → Int × Nat} (hsh : ∀ d n, (sh d n).1 = 0 → OkD d ∧ n < (sh d n).2 ∧ (write d).length + 1 ≤ 25 * ((sh d n).2 - n)) :
    ∀ (ds : List Datum) (n : Nat), (shapes sh ds n).1 = 0 → OkL ds ∧ n ≤ (shapes sh ds n).2 ∧ (∀ b, (writes b ds).length ≤ 25 * ((shapes sh ds n).2 - n)) ∧ (lines ds).length ≤ 25 * ((shapes sh ds n).2 - n)
  | [], n, _ => by
    refine ⟨by unfold OkL; trivial, Nat.le_refl _, fun b => ?_, ?_⟩
    · simp [writes]
    · simp [lines]
  | d :: ds, n, h => by
    unfold shapes at h ⊢
    split at h
    · rename_i h0
      rw [if_pos h0]
      obtain ⟨h1, h2, h3⟩ := hsh d n h0
      obtain ⟨k1, k2, k3, k4⟩ := shapes_ok hsh ds _ h
      refine ⟨by unfold OkL; exact ⟨h1, k1⟩, by omega, fun b => ?_, ?_⟩
      · have := k3 false
        unfold writes
        cases b <;> simp <;> omega
      · unfold lines
        simp
        omega
    · rename_i h0
      exact absurd h h0
theorem shape_ok : ∀ (f : Nat) (d : Datum) (n : Nat), (shape f d n).1 = 0 → OkD d ∧ n < (shape f d n).2 ∧ (write d).length + 1 ≤ 25 * ((shape f d n).2 - n)
  | 0, d, n, h => by simp [shape] at h
  | f + 1, d, n, h => by
    unfold shape at h ⊢
    split at h
    · simp at h
    rename_i hn
    rw [if_neg hn]
    split at h
    · rename_i hk
      rw [if_pos hk]
      have hr : ¬ (d.num > 1000000000000000 ∨ d.num < -1000000000000000) := by
        intro hc
        simp [hc] at h
      refine ⟨(okD_iff d).2 (.inl ⟨hk, by omega, by omega⟩), by simp, ?_⟩
      rw [write_num hk]
      have := itoa_len (n := d.num) (by omega) (by omega)
      simp
      omega
    rename_i hk1
    rw [if_neg hk1]
    split at h
    · rename_i hk
      rw [if_pos hk]
      have hr : ¬ (d.num ≠ 0 ∧ d.num ≠ 1) := by
        intro hc
        simp [hc] at h
      refine ⟨(okD_iff d).2 (.inr (.inl ⟨hk, by omega⟩)), by simp, ?_⟩
      rw [write_truth hk]
      split <;> simp
    rename_i hk2
    rw [if_neg hk2]
    split at h
    · rename_i hk
      rw [if_pos hk]
      have hnm : named d.name = true := by
        cases hx : named d.name with
        | true => rfl
        | false => simp [hx] at h
      have hst : ¬ (d.stamp ≠ 0 ∨ d.lib ≠ 0) := by
        intro hc
        simp [hnm, hc] at h
      refine ⟨(okD_iff d).2 (.inr (.inr (.inl ⟨hk, hnm, by omega, by omega⟩))), by simp, ?_⟩
      rw [write_sym hk]
      have := named_len hnm
      simp
      omega
    rename_i hk3
    rw [if_neg hk3]
    split at h
    · rename_i hk
      rw [if_pos hk]
      obtain ⟨h1, h2, h3, _⟩ := shapes_ok (fun d n => shape_ok f d n) d.kids (n + 1) h
      refine ⟨(okD_iff d).2 (.inr (.inr (.inr ⟨hk, h1⟩))), by omega, ?_⟩
      rw [write_list hk]
      have := h3 true
      simp
      omega
    · simp at h
theorem wrongs_ok : ∀ (ds : List Datum) (i n : Nat), n ≤ 2000 → (wrongs i ds n).1 = 0 → wrongs i ds n = (0, 0) ∧ (shapes (shape 40) ds n).1 = 0 ∧ (shapes (shape 40) ds n).2 ≤ 2000
  | [], i, n, hn, _ => by simp [wrongs, shapes, hn]
  | d :: ds, i, n, hn, h => by
    unfold wrongs at h ⊢
    unfold shapes
    split at h
    · rename_i h0
      rw [if_pos h0, if_pos h0]
      exact wrongs_ok ds (i + 1) _ (shape_le 40 d n h0) h
    · rename_i h0
      exact absurd h h0
theorem wrong_ok {ds : List Datum} (h : (wrong ds).1 = 0) : wrong ds = (0, 0) ∧ OkL ds ∧ (lines ds).length ≤ 50000 := by
  obtain ⟨h1, h2, h3⟩ := wrongs_ok ds 0 0 (by omega) h
  obtain ⟨k1, k2, k3, k4⟩ := shapes_ok (fun d n => shape_ok 40 d n) ds 0 h2
  exact ⟨h1, k1, by omega⟩
end Tx

def LinesRel (B b : Nat) (w : World) (ds : List Datum) (T : List UInt8) (q : Nat) (p : Value) (wr : World) : Prop :=
  ∃ (i : Nat) (acc : List UInt8), q = ds.length - i ∧ p = .int .i64 i ∧ i ≤ ds.length ∧ Bld B b acc wr ∧ acc ++ Tx.lines (ds.drop i) = T ∧ Below B w wr
theorem below_grown2 {B : Nat} {w w0 w1 : World} (h : w.grownBy w0 none) (hB : w.heap.size ≤ B) (hb : Below B w0 w1) : w.grownBy w1 none :=
  ⟨hb.os.trans h.os, hb.tape.trans h.tape, hb.output.trans h.output, Nat.le_trans h.size hb.size, fun i hi hne => (hb.block i (by omega)).trans (h.block i hi hne)⟩

set_option maxRecDepth 100000 in
set_option maxHeartbeats 1600000 in
theorem Print_any (v : Value) (ds : List Datum) (w : World) (hsm : Tx.SmallL 140737488351232 ds) (hlen : ds.length ≤ 140737488351232) (hsl : Sl w (fun _ => False) v ds) (ht : TabAt w.heap.size w) :
    Calls Tryd.prog 7 #[v] w fun e w' => e = .returned (.tuple #[.string ⟨(Tx.print ds).1.toArray⟩, .agg #[.int .i64 (Tx.print ds).2.1, .int .i64 (Tx.print ds).2.2]]) ∧ w.grownBy w' none := by
  obtain ⟨kA, kc, rfl⟩ := hsl.form
  have HS := Lib.hid hsl
  have HTB := Lib.hid ht
  have HSM := Lib.hid hsm
  have hlen2 : ds.length ≤ maxLen := by unfold maxLen; omega
  have hP : Tx.print ds = if (Tx.wrong ds).1 = 0 then if (Tx.lines ds).length > 6000 then ([], (4, 0)) else (Tx.lines ds, (0, 0)) else ([], Tx.wrong ds) := rfl
  have HOK := Lib.hid (fun h => Tx.wrong_ok (ds := ds) h)
  generalize Tx.print ds = R at *
  clear hsl ht hsm
  have hW := Wrong_any (.slice kA ds.length kc) ds (w.alloc (.cells #[.int .i64 0, .int .i64 0] 26)) HSM.out hlen (HS.out.grown (World.grownBy_alloc _ _ _))
  generalize Tx.wrong ds = E at *
  have HW := Lib.hid hW
  clear hW
  cases hE : (E.1 != 0) with
  | true =>
    obtain rfl : R = ([], E) := by rw [hP]; exact if_neg (by simpa using hE)
    clear hP
    go_enter Tryd.func7, Tryd.ntmps7
    go_wp2_with (go_at_call 10; refine HW.out.mono ?_; rintro e w2 ⟨rfl, hgr2⟩; have hB2 := (Blk.new w #[.int .i64 0, .int .i64 0] 26).grown hgr2 (by simp); have u0 : w2.cell? ⟨w.heap.size, 0, none⟩ = some (.int .i64 0) := hB2.cell 0; have u1 : w2.cell? ⟨w.heap.size, 1, none⟩ = some (.int .i64 0) := hB2.cell 1; have v0 := hB2.frozen 0; have v1 := hB2.frozen 1; have hl2 := hB2.lt; have HG2 := Lib.hid hgr2; clear hB2 hgr2)
    go_region
    all_goals go_wp2_with fail
    refine bodyPost_ret (v := .tuple #[.string ⟨#[]⟩, .agg #[.int .i64 E.1, .int .i64 E.2]]) (by simp [results, Tryd.results7, go_sem, *]) rfl ?_
    exact ⟨rfl, grown_drew (grown_alloc (grown_setCell_new (grown_setCell_new (grown_trans (grown_alloc (grown_refl _ _) _) HG2.out) (Nat.le_refl _) _) (Nat.le_refl _) _) _)⟩
  | false =>
    have hE0 : E.1 = 0 := by simpa using hE
    rw [if_pos hE0] at hP
    obtain ⟨hE1, hok, hll⟩ := HOK.out hE0
    have HO := Lib.hid hok
    subst hE1
    generalize hT : Tx.lines ds = T at *
    have HT := Lib.hid hT
    have HP := Lib.hid (said_write (Tx.highs ds))
    have HPR := Lib.hid hP
    clear hok hP hT HOK hE0 hE
    go_enter Tryd.func7, Tryd.ntmps7
    go_wp2_with (go_at_call 10; refine HW.out.mono ?_; rintro e w2 ⟨rfl, hgr2⟩; have hB2 := (Blk.new w #[.int .i64 0, .int .i64 0] 26).grown hgr2 (by simp); have HB2 := Lib.hid hB2; have hl2 := hB2.lt; have HG2 := Lib.hid (grown_trans (grown_alloc (grown_refl w none) _) hgr2); clear hB2 hgr2)
    obtain ⟨w3, hw3⟩ : ∃ w3, w3 = w2.alloc (.cells #[.int .i64 0, .int .i64 0] 26) := ⟨_, rfl⟩
    have HG3 := Lib.hid (show w.grownBy w3 none by rw [hw3]; exact grown_alloc HG2.out _)
    have HB3 := Lib.hid (show Blk w3 w.heap.size #[.int .i64 0, .int .i64 0] 26 by rw [hw3]; exact HB2.out.alloc _)
    have HS3 := Lib.hid ((HS.out.grown HG3.out).fresh.mono (M' := fun x => w3.heap.size ≤ x) (fun b hb => .inr hb))
    have HT3 := Lib.hid (HTB.out.grown HG3.out)
    have hl3 := HB3.out.lt
    have hsz : w3.heap.size = w2.heap.size + 1 := by rw [hw3]; simp
    rw [← hw3]
    have hA : w3.grownBy (w3.alloc (.cells #[.pointer none, .slice none 0 0] 38)) none := World.grownBy_alloc _ _ _
    have hbld : Bld w3.heap.size w3.heap.size [] (w3.alloc (.cells #[.pointer none, .slice none 0 0] 38)) :=
      ⟨.inl ⟨Nat.le_refl _, .slice none 0 0, heap_alloc_new w3 _, World.ownsRow_nil _ _ _ _, by simp [Value.ownBlock]⟩, by simp⟩
    have HBL := Lib.hid hbld
    have HS4 := Lib.hid (HS3.out.under (grown_below hA))
    have HT4 := Lib.hid (HT3.out.below (grown_below hA))
    have HG4 := Lib.hid (grown_trans HG3.out hA)
    have HB4 := Lib.hid (HB3.out.alloc (.cells #[.pointer none, .slice none 0 0] 38))
    generalize hB : w3.heap.size = B at *
    generalize hw4 : w3.alloc (.cells #[.pointer none, .slice none 0 0] 38) = w4 at *
    rw [← hsz]
    clear hbld hA HS3 HT3 HG3 HB3 hsz hw3
    go_loopg [15] ds.length (fun q p wr => LinesRel B B w4 ds T q p wr)
    case atStart => exact ⟨0, [], by simp, rfl, by omega, HBL.out, by simpa using HT.out, Below.refl B w4⟩
    case round =>
      obtain ⟨i, acc, rfl, rfl, hi, hb, hT, hlo⟩ := hrel
      have HBW := Lib.hid hb
      have HTW := Lib.hid hT
      have HL := Lib.hid hlo
      clear hb hT hlo
      by_cases hlt : i < ds.length
      · have hlt' : (i : Int) < (ds.length : Int) := by omega
        obtain ⟨x, hx⟩ : ∃ x, ds[i]? = some x := ⟨ds[i], by simp [hlt]⟩
        have hdrop : ds.drop i = x :: ds.drop (i + 1) := by
          rw [List.drop_eq_getElem_cons hlt]
          congr 1
          rw [List.getElem?_eq_getElem hlt] at hx
          injection hx
        have hstep : acc ++ Tx.write x ++ [10] ++ Tx.lines (ds.drop (i + 1)) = T := by
          have := HTW.out
          rw [hdrop, Tx.lines] at this
          rw [← this]; simp
        have hxl : acc.length + (Tx.write x).length + 1 ≤ 1000000 := by
          have := congrArg List.length hstep
          simp only [List.length_append, List.length_cons, List.length_nil] at this
          omega
        have HST := Lib.hid hstep
        have HXL := Lib.hid hxl
        have HXM := Lib.hid (HSM.out.get hx)
        have HXO := Lib.hid (HO.out.get hx)
        have HXH := Lib.hid (Tx.high_get hx)
        obtain ⟨kb, ko, cap, hkv, hkM, hkb, hall⟩ := At6.of (HS4.out.under HL.out) (by intro e; rw [e] at hlt; simp at hlt)
        injection hkv with hkA _ hkc
        subst hkA hkc
        obtain ⟨xv, hxa, hxs⟩ := hall i x hx
        have HXA := Lib.hid hxa
        have HXS := Lib.hid hxs
        have hkB : kb < B := by omega
        clear hxa hxs hall hstep hxl hx hdrop
        go_wp2_with (go_at_call 11; refine (HP.out x B B kb (ko + i * 6) acc xv _ HXH.out HXO.out HXM.out (by exact HBW.out) (HT4.out.below HL.out) hkB (by exact HXA.out) HXS.out (by have := HXL.out; omega)).mono ?_; rintro e w5 ⟨rfl, hb5, hl5⟩; have HB5 := Lib.hid hb5; have HL5 := Lib.hid (HL.out.trans hl5); clear hb5 hl5)
        go_wp2_with (go_at_call 12; refine (HB5.out.byte 10 10 rfl (by have := HXL.out; simp; omega)).mono ?_; rintro e w6 ⟨rfl, hb6, hl6⟩; have HB6 := Lib.hid hb6; have HL6 := Lib.hid (HL5.out.trans hl6); clear hb6 hl6)
        go_roundg (ds.length - (i + 1))
        case measure => omega
        case rel => exact ⟨i + 1, _, rfl, rfl, by omega, HB6.out, HST.out, HL6.out⟩
      · have hlt' : ¬ (i : Int) < (ds.length : Int) := by omega
        have hT0 := HTW.out
        rw [List.drop_eq_nil_of_le (by omega), Tx.lines, List.append_nil] at hT0
        subst hT0
        have hbz : Blk wr w.heap.size #[.int .i64 0, .int .i64 0] 26 := (HL.out.block _ (by omega)).trans HB4.out
        have HBZ := Lib.hid hbz
        have u0 : wr.cell? ⟨w.heap.size, 0, none⟩ = some (.int .i64 0) := hbz.cell 0
        have u1 : wr.cell? ⟨w.heap.size, 1, none⟩ = some (.int .i64 0) := hbz.cell 1
        have v0 := hbz.frozen 0
        have v1 := hbz.frozen 1
        have HGW := Lib.hid (below_grown2 HG4.out (by omega) HL.out)
        clear hbz
        by_cases hbig : 6000 < acc.length
        · have hbig' : 6000 < (acc.length : Int) := by omega
          have hR := HPR.out
          rw [if_pos hbig] at hR
          subst hR
          go_wp2_with (go_at_call 13; refine (Tryd.Builder_Len B B _ _ HBW.out.1).mono ?_; rw [Lib.byteCells_length]; rintro e w5 ⟨rfl, rfl⟩)
          refine bodyPost_ret (v := .tuple #[.string ⟨#[]⟩, .agg #[.int .i64 4, .int .i64 0]]) (by simp [results, Tryd.results7, go_sem, *]) rfl ?_
          exact ⟨rfl, grown_setCell_new (grown_setCell_new HGW.out (Nat.le_refl _) _) (Nat.le_refl _) _⟩
        · have hbig' : ¬ 6000 < (acc.length : Int) := by omega
          have hR := HPR.out
          rw [if_neg hbig] at hR
          subst hR
          go_wp2_with (first
            | (go_at_call 13; refine (Tryd.Builder_Len B B _ _ HBW.out.1).mono ?_; rw [Lib.byteCells_length]; rintro e w5 ⟨rfl, rfl⟩)
            | (go_at_call 14; refine (Tryd.Builder_String_any B B acc _ HBW.out.1 HBW.out.2).mono ?_; rintro e w5 ⟨rfl, hl5⟩; have HL5 := Lib.hid hl5; have hB5 := (hl5.block w.heap.size (by omega)).trans HBZ.out; have u0' : w5.cell? ⟨w.heap.size, 0, none⟩ = some (.int .i64 0) := Blk.cell (T := 26) hB5 0; have u1' : w5.cell? ⟨w.heap.size, 1, none⟩ = some (.int .i64 0) := Blk.cell (T := 26) hB5 1; have v0' := Blk.frozen (T := 26) hB5 0; have v1' := Blk.frozen (T := 26) hB5 1; clear hl5 hB5))
          refine bodyPost_ret (v := .tuple #[.string ⟨acc.toArray⟩, .agg #[.int .i64 0, .int .i64 0]]) (by simp [results, Tryd.results7, go_sem, *]) rfl ?_
          exact ⟨rfl, grown_setCell_new (grown_setCell_new (below_grown2 HG4.out (by omega) (HL.out.trans HL5.out)) (Nat.le_refl _) _) (Nat.le_refl _) _⟩
end Go.Proofs.YtchjbkokjilobaaDoor
