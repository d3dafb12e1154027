/- The walk of text.Wrong. -/
import Derived.Test.YtchjbkokjilobaaDoorTextW
namespace Go.Proofs.YtchjbkokjilobaaDoor
open Go.RowKit
set_option linter.unusedVariables false

theorem Sl.fresh {w : World} {M : Nat → Prop} {v : Value} {ds : List Datum} (h : Sl w M v ds) : Sl w (fun b => M b ∨ w.heap.size ≤ b) v ds := by
  obtain ⟨A, cap, ys, hv, hr, hc⟩ := h
  refine ⟨A, cap, ys, hv, hr.fresh, fun hne => ?_⟩
  obtain ⟨b, off, hA, hM, hcell⟩ := hc hne
  have hlt := first_lt hr hne hcell
  exact ⟨b, off, hA, fun h => by rcases h with h | h; exact hM h; omega, hcell⟩

def WrongRel (w : World) (ds : List Datum) (T : Int × Int) (q : Nat) (p : Value) (wr : World) : Prop :=
  ∃ i n' : Nat, q = ds.length - i ∧ p = .int .i64 i ∧ i ≤ ds.length ∧ Blk wr (w.heap.size + 1) #[.int .i64 n'] 57 ∧ Blk wr w.heap.size #[.int .i64 0, .int .i64 0] 26 ∧ n' ≤ 2000 ∧ Tx.wrongs i (ds.drop i) n' = T ∧ w.grownBy wr none

set_option maxRecDepth 100000 in
set_option maxHeartbeats 1600000 in
theorem Wrong_any (v : Value) (ds : List Datum) (w : World) (hsm : Tx.SmallL 140737488351232 ds) (hlen : ds.length ≤ 140737488351232) (hsl : Sl w (fun _ => False) v ds) :
    Calls Tryd.prog 10 #[v] w fun e w' => e = .returned (.agg #[.int .i64 (Tx.wrong ds).1, .int .i64 (Tx.wrong ds).2]) ∧ w.grownBy w' none := by
  obtain ⟨kA, kc, rfl⟩ := hsl.form
  have HSM := Lib.hid hsm
  have HS := Lib.hid (hsl.fresh.mono (M' := fun x => x = w.heap.size + 1) (fun b hb => .inr (by omega)))
  have hT : Tx.wrongs 0 ds 0 = Tx.wrong ds := rfl
  generalize Tx.wrong ds = T at *
  have HT := Lib.hid hT
  have HP := Lib.hid (said_shape 40)
  clear hsl hT hsm
  have hlen2 : ds.length ≤ maxLen := by unfold maxLen; omega
  go_enter Tryd.func10, Tryd.ntmps10
  go_wp2_with fail
  have hb0 := Blk.new w #[.int .i64 0, .int .i64 0] 26
  have hb1 := Blk.new (w.alloc (.cells #[.int .i64 0, .int .i64 0] 26)) #[.int .i64 0] 57
  simp only [World.size_alloc] at hb1
  have HB0 := Lib.hid (hb0.alloc (.cells #[.int .i64 0] 57))
  have HB1 := Lib.hid hb1
  have HG := Lib.hid (grown_alloc (grown_alloc (grown_refl w none) (.cells #[.int .i64 0, .int .i64 0] 26)) (.cells #[.int .i64 0] 57))
  clear hb0 hb1
  go_loopg [10] ds.length (fun q p wr => WrongRel w ds T q p wr)
  case atStart => exact ⟨0, 0, by simp, rfl, by omega, HB1.out, HB0.out, by omega, by simpa using HT.out, HG.out⟩
  case round =>
    obtain ⟨i, n', rfl, rfl, hi, hb, hB, hn', hT, hgr⟩ := hrel
    have s0 : wr.cell? ⟨w.heap.size, 0, none⟩ = some (.int .i64 0) := hB.cell 0
    have s1 : wr.cell? ⟨w.heap.size, 1, none⟩ = some (.int .i64 0) := hB.cell 1
    have t0 := hB.frozen 0
    have t1 := hB.frozen 1
    clear HB0 HB1 HG HT
    have HB := Lib.hid hb
    have HB0 := Lib.hid hB
    have HT := Lib.hid hT
    have HG := Lib.hid hgr
    clear hb hB hT hgr
    by_cases hlt : i < ds.length
    · have hlt' : (i : Int) < (ds.length : Int) := by omega
      obtain ⟨x, hx⟩ : ∃ x, ds[i]? = some x := ⟨ds[i], by simp [hlt]⟩
      have hsr := HS.out.keep (Same.of_grown HG.out (fun k hk => by simp at hk))
      obtain ⟨kb, ko, cap, hkv, hkM, hkb, hall⟩ := At6.of hsr (by intro e; rw [e] at hlt; simp at hlt)
      injection hkv with hkA _ hkc
      subst hkA hkc
      obtain ⟨xv, hxa, hxs⟩ := hall i x hx
      have hdrop : ds.drop i = x :: ds.drop (i + 1) := by
        rw [List.drop_eq_getElem_cons hlt]
        congr 1
        rw [List.getElem?_eq_getElem hlt] at hx
        injection hx
      have hstep := HT.out
      rw [hdrop, Tx.wrongs] at hstep
      have HXA := Lib.hid hxa
      have HXS := Lib.hid hxs
      have HXM := Lib.hid (HSM.out.get hx)
      have hle := Tx.shape_le 40 x n'
      by_cases h0 : (Tx.shape 40 x n').1 = 0
      · rw [if_pos h0] at hstep
        have HST := Lib.hid hstep
        have HLE := Lib.hid (hle h0)
        have HH := Lib.hid h0
        clear hstep hle hxa hxs hx hdrop hall hsr
        go_wp2_with (go_at_call 19; refine (HP.out x (w.heap.size + 1) kb (ko + i * 6) n' xv _ HXM.out (by exact HB.out) hn' hkM HXA.out HXS.out 1 (by omega) (by omega)).mono ?_; rw [HH.out]; rintro e w2 ⟨rfl, hb2, hgr2⟩; have HB2 := Lib.hid hb2; have HG2 := Lib.hid hgr2; clear hb2 hgr2)
        go_roundg (ds.length - (i + 1))
        case measure => omega
        case rel => exact ⟨i + 1, _, rfl, rfl, by omega, HB2.out, HB0.out.grown HG2.out (by simp), HLE.out, HST.out, grown_later HG.out HG2.out (.inr fun i hi => by simp at hi; omega)⟩
      · rw [if_neg h0] at hstep
        have HST := Lib.hid hstep
        have h0' : ((Tx.shape 40 x n').1 != 0) = true := by simpa using h0
        clear hstep hle hxa hxs hx hdrop hall hsr h0
        generalize hR : Tx.shape 40 x n' = R at *
        have HR := Lib.hid hR
        clear hR
        go_wp2_with (go_at_call 19; refine (HP.out x (w.heap.size + 1) kb (ko + i * 6) n' xv _ HXM.out (by exact HB.out) hn' hkM HXA.out HXS.out 1 (by omega) (by omega)).mono ?_; rw [HR.out]; rintro e w2 ⟨rfl, hb2, hgr2⟩; have HB2 := Lib.hid hb2; have HG2 := Lib.hid hgr2; clear hb2 hgr2; have hB2 := HB0.out.grown HG2.out (by simp); have u0 : w2.cell? ⟨w.heap.size, 0, none⟩ = some (.int .i64 0) := hB2.cell 0; have u1 : w2.cell? ⟨w.heap.size, 1, none⟩ = some (.int .i64 0) := hB2.cell 1; have v0 := hB2.frozen 0; have v1 := hB2.frozen 1; clear hB2)
        refine bodyPost_ret (v := .agg #[.int .i64 R.1, .int .i64 i]) (by simp [results, Tryd.results10, go_sem, *]) rfl ?_
        rw [← HST.out]
        exact ⟨rfl, grown_setCell_new (grown_setCell_new (grown_later HG.out HG2.out (.inr fun i hi => by simp at hi; omega)) (Nat.le_refl _) _) (Nat.le_refl _) _⟩
    · have hlt' : ¬ (i : Int) < (ds.length : Int) := by omega
      have hT0 := HT.out
      rw [List.drop_eq_nil_of_le (by omega), Tx.wrongs] at hT0
      have HT0 := Lib.hid hT0
      clear hT0
      go_wp2_with fail
      refine bodyPost_ret (v := .agg #[.int .i64 0, .int .i64 0]) (by simp [results, Tryd.results10, go_sem, *]) rfl ?_
      rw [← HT0.out]
      exact ⟨rfl, grown_setCell_new (grown_setCell_new HG.out (Nat.le_refl _) _) (Nat.le_refl _) _⟩
end Go.Proofs.YtchjbkokjilobaaDoor
