/- The walk of TextJoined. -/
import Derived.Test.YtchjbkokjilobaaDoorTextLaw2
import Derived.Test.YtchjbkokjilobaaDoorOwnD
namespace Go.Proofs.YtchjbkokjilobaaDoor
open Go.RowKit
set_option linter.unusedVariables false

theorem sl_before {w : World} {u : Value} {es : List Datum} (h : Sl w (fun _ => False) u es) (o : Obj) : Sl (w.alloc o) (fun b => some b = (Value.slice (some ⟨w.heap.size, 0, none⟩) 0 0).ownBlock) u es := by
  have h1 := h.fresh
  refine (h1.keep (Same.of_grown (World.grownBy_alloc w o none) (by simp))).mono (fun b hb => .inr ?_)
  have : b = w.heap.size := by simpa [Value.ownBlock] using hb
  omega

set_option maxRecDepth 100000 in
set_option maxHeartbeats 600000 in
theorem joined_law (s t : ByteArray) (w : World) (hs : s.size ≤ 140737488351232) (hn : t.size ≤ 140737488351232) (ht : TabAt w.heap.size w) :
    Calls Tryd.prog 4 #[.string s, .string t] w fun e w' => e = .returned (.bool true) ∧ w.grownBy w' none := by
  have HT := Lib.hid ht
  have hsm : s.size ≤ maxLen := by unfold maxLen; omega
  have hnm : t.size ≤ maxLen := by unfold maxLen; omega
  have hi1 : (s.size : Int) ≤ 140737488351232 := by omega
  have hi2 : (t.size : Int) ≤ 140737488351232 := by omega
  clear ht
  go_enter Tryd.func4, Tryd.ntmps4
  go_wp2_with (go_at_call 6; refine (alive_any _ HT.out).mono ?_; rintro e w1 ⟨rfl, hg1⟩; have HG1 := Lib.hid hg1; clear hg1)
  cases hA : Tx.read s.data.toList with
  | error er =>
    have hne : (er.1 != 0) = true := by simpa using Tx.read_err hA
    have HA := Lib.hid hA
    clear hA
    go_wp2_with fail
    refine (read_any s _ hsm).mono ?_
    rw [HA.out]
    rintro e w2 ⟨rfl, hg2⟩
    have hb2 := Blk.new w2 #[.int .i64 er.1, .int .i64 er.2] 26
    have HB2 := Lib.hid hb2
    have HG2 := Lib.hid (grown_alloc (grown_trans HG1.out hg2) (.cells #[.int .i64 er.1, .int .i64 er.2] 26))
    clear hg2 hb2
    go_wp2_with fail
    refine (read_any t _ hnm).mono ?_
    cases hB : Tx.read t.data.toList with
    | error er2 =>
      rintro e w3 ⟨rfl, hg3⟩
      have hB3 := HB2.out.grown hg3 (by simp)
      have b0 : w3.cell? ⟨w2.heap.size, 0, none⟩ = some (.int .i64 er.1) := hB3.cell 0
      have l0 := hB3.lt
      have HG3 := Lib.hid (grown_trans HG2.out hg3)
      clear hg3 hB3
      go_wp2_with fail
      go_ret
      exact ⟨rfl, grown_alloc HG3.out _⟩
    | ok m2 =>
      rintro e w3 ⟨v2, rfl, hsl2, hg3⟩
      have hB3 := HB2.out.grown hg3 (by simp)
      have b0 : w3.cell? ⟨w2.heap.size, 0, none⟩ = some (.int .i64 er.1) := hB3.cell 0
      have l0 := hB3.lt
      have HG3 := Lib.hid (grown_trans HG2.out hg3)
      clear hg3 hB3 hsl2
      go_wp2_with fail
      go_ret
      exact ⟨rfl, grown_alloc HG3.out _⟩
  | ok a =>
    obtain ⟨_, has, hal⟩ := Tx.read_right hA
    have HA := Lib.hid hA
    have HAS := Lib.hid (has.mono (S' := 140737488351232) (by omega))
    clear hA has
    go_wp2_with fail
    refine (read_any s _ hsm).mono ?_
    rw [HA.out]
    rintro e w2 ⟨va, rfl, hsla, hg2⟩
    have HB2 := Lib.hid (Blk.new w2 #[.int .i64 0, .int .i64 0] 26)
    have HG2 := Lib.hid (grown_alloc (grown_trans HG1.out hg2) (.cells #[.int .i64 0, .int .i64 0] 26))
    obtain ⟨aA, ac, rfl⟩ := hsla.form
    have HSA := Lib.hid (hsla.any.grown (World.grownBy_alloc w2 (.cells #[.int .i64 0, .int .i64 0] 26) none))
    clear hg2 hsla
    go_wp2_with fail
    refine (read_any t _ hnm).mono ?_
    cases hB : Tx.read t.data.toList with
    | error er2 =>
      have hne : (er2.1 != 0) = true := by simpa using Tx.read_err hB
      rintro e w3 ⟨rfl, hg3⟩
      have hB3 := HB2.out.grown hg3 (by simp)
      have b0 : w3.cell? ⟨w2.heap.size, 0, none⟩ = some (.int .i64 0) := hB3.cell 0
      have l0 := hB3.lt
      have HG3 := Lib.hid (grown_trans HG2.out hg3)
      clear hg3 hB3
      go_wp2_with fail
      go_ret
      exact ⟨rfl, grown_alloc HG3.out _⟩
    | ok b =>
      obtain ⟨_, hbs, hbl⟩ := Tx.read_right hB
      rintro e w3 ⟨vb, rfl, hslb, hg3⟩
      have hB3 := HB2.out.grown hg3 (by simp)
      have b0 : w3.cell? ⟨w2.heap.size, 0, none⟩ = some (.int .i64 0) := hB3.cell 0
      have l0 := hB3.lt
      have HG3 := Lib.hid (grown_trans HG2.out hg3)
      have HBS := Lib.hid (hbs.mono (S' := 140737488351232) (by omega))
      have HSA3 := Lib.hid (HSA.out.grown hg3)
      have HSB3 := Lib.hid hslb.any
      obtain ⟨bA, bc, rfl⟩ := hslb.form
      have HB := Lib.hid hB
      clear hg3 hB3 hslb hB hbs
      by_cases hbig : 6000 < (s.size : Int) + (t.size : Int) + 1
      · go_wp2_with fail
        go_ret
        exact ⟨rfl, grown_alloc HG3.out _⟩
      · go_wp2_with fail
        have hX : (s ++ (⟨#[10]⟩ : ByteArray) ++ t).data.toList = s.data.toList ++ 10 :: t.data.toList := by simp
        have hXs : (s ++ (⟨#[10]⟩ : ByteArray) ++ t).size ≤ maxLen := by
          show (s ++ (⟨#[10]⟩ : ByteArray) ++ t).data.size ≤ maxLen
          rw [← Array.length_toList, hX]
          simp
          unfold maxLen
          omega
        have HX := Lib.hid hX
        clear hX
        have hJ := Tx.read_joined HA.out HB.out (by simp; omega)
        refine (read_any _ _ hXs).mono ?_
        rw [HX.out]
        rcases hJ with hJ | ⟨x, hJ⟩
        · rw [hJ]
          rintro e w4 ⟨vc, rfl, hslc, hg4⟩
          obtain ⟨cA, cc, rfl⟩ := hslc.form
          have HSC := Lib.hid hslc.any
          have HG4 := Lib.hid (grown_trans (grown_alloc (grown_refl w3 none) _) hg4)
          have HJ := Lib.hid hJ
          clear hslc hg4 hXs hJ
          have hW0 : (w4.alloc (.cells #[.int .i64 0, .int .i64 0] 26)).heap.size = w4.heap.size + 1 := by simp
          have hO := OwnD.start (base := (w4.alloc (.cells #[.int .i64 0, .int .i64 0] 26)).heap.size) (w := w4.alloc (.cells #[.int .i64 0, .int .i64 0] 26)) (Nat.le_refl _)
          have hsa := sl_before ((HSA3.out.grown HG4.out).grown (World.grownBy_alloc w4 (.cells #[.int .i64 0, .int .i64 0] 26) none)) (.cells #[] 42)
          have hsb := sl_before ((HSB3.out.grown HG4.out).grown (World.grownBy_alloc w4 (.cells #[.int .i64 0, .int .i64 0] 26) none)) (.cells #[] 42)
          have hsc := sl_before (HSC.out.grown (World.grownBy_alloc w4 (.cells #[.int .i64 0, .int .i64 0] 26) none)) (.cells #[] 42)
          rw [hW0] at hO hsa hsb hsc
          have HO := Lib.hid hO
          have HA0 := Lib.hid hsa
          have HB0 := Lib.hid hsb
          have HC0 := Lib.hid hsc
          have HGW := Lib.hid (grown_alloc (grown_alloc (grown_trans HG3.out HG4.out) (.cells #[.int .i64 0, .int .i64 0] 26)) (.cells #[] 42))
          have HCS := Lib.hid ((Tx.read_right HJ.out).2.1.mono (S' := 140737488351232) (by omega))
          have hcl := (Tx.read_right HJ.out).2.2
          clear hO hsa hsb hsc hW0
          go_wp2_with (at_builtin; refine wpList_append_data _ _ (by rfl) rfl rfl rfl HO.out HA0.out (by simp; omega) (by simp) ?_)
          intro v1 w5 ho1 hgr1 hv1
          have hv1 : v1.ownBlock = (Value.slice (some ⟨w4.heap.size + 1, 0, none⟩) 0 0).ownBlock ∨ v1.ownBlock = some ((w4.alloc (.cells #[.int .i64 0, .int .i64 0] 26)).alloc (.cells #[] 42)).heap.size := by
            rcases hv1 with h | h
            · exact .inl h
            · exact .inr (by rw [h]; simp)
          have HO1 := Lib.hid ho1
          have HB1 := Lib.hid (beside HB0.out hgr1 hv1)
          have HC1 := Lib.hid (beside HC0.out hgr1 hv1)
          have HG5 := Lib.hid hgr1
          have hsz5 : w4.heap.size + 1 ≤ w5.heap.size := by have := hgr1.size; simp at this; omega
          obtain ⟨A1, c1, rfl, _⟩ := ho1.form
          have hv1' := Lib.hid hv1
          clear ho1 hgr1 hv1
          go_wp2_with (at_builtin; refine wpList_append_data (.tmp 59) (.tmp 60) (by rfl) rfl (v := .slice A1 a.length c1) (u := .slice bA b.length bc) (by rfl) (by rfl) HO1.out HB1.out (by omega) hsz5 ?_)
          intro v2 w6 ho2 hgr2 hv2
          have HO2 := Lib.hid ho2
          have HC2 := Lib.hid (beside HC1.out hgr2 hv2)
          have hb0 : w.grownBy w6 none := by
            have h1 := grown_later (w := w) HGW.out HG5.out (.inr fun i hi => by
              have : i = w4.heap.size + 1 := by simpa [Value.ownBlock] using hi.symm
              have := HGW.out.size
              simp at this
              have h3 := HG3.out.size
              have h4 := HG4.out.size
              omega)
            refine grown_later h1 hgr2 (.inr fun i hi => ?_)
            rcases hv1'.out with h | h
            · have : some i = some (w4.heap.size + 1) := (hi.symm.trans h).trans rfl
              injection this with this
              have h3 := HG3.out.size
              have h4 := HG4.out.size
              omega
            · have : some i = some _ := hi.symm.trans h
              injection this with this
              have h3 := HG3.out.size
              have h4 := HG4.out.size
              simp at this
              omega
          have HG6 := Lib.hid hb0
          obtain ⟨A2, c2, rfl, _⟩ := ho2.form
          clear ho2 hgr2 hv2 hb0
          have hc3 := HC2.out.any
          have ho3 := HO2.out.sl
          rw [show (a ++ b).length = a.length + b.length from List.length_append] at hc3 ho3 hcl
          have HC3 := Lib.hid hc3
          have HO3 := Lib.hid ho3
          clear hc3 ho3
          have hself : Tx.sames (a ++ b) (a ++ b) = true := Tx.sames_refl _
          have HSF := Lib.hid hself
          clear hself
          go_wp2_with (go_at_call 9; refine (Same_any (a ++ b) (a ++ b) _ _ _ HCS.out HCS.out (by rw [List.length_append]; omega) (by rw [List.length_append]; omega) (by exact HC3.out) (by exact HO3.out)).mono ?_; rw [HSF.out]; rintro e wy ⟨rfl, hgy⟩; have HGY := Lib.hid (grown_trans HG6.out hgy); clear hgy)
          go_ret
          exact ⟨rfl, HGY.out⟩
        · rw [hJ]
          rintro e w4 ⟨rfl, hg4⟩
          have HG4 := Lib.hid (grown_trans (grown_alloc (grown_refl w3 none) _) hg4)
          clear hg4 hXs hJ
          go_wp2_with fail
          go_ret
          exact ⟨rfl, grown_alloc (grown_trans HG3.out HG4.out) _⟩
end Go.Proofs.YtchjbkokjilobaaDoor
