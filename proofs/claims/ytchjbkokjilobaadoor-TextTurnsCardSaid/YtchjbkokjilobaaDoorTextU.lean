/- The walk of text.write. -/
import Derived.Test.YtchjbkokjilobaaDoorTextT
import Derived.Test.YtchjbkokjilobaaDoorTextY
namespace Go.Proofs.YtchjbkokjilobaaDoor
open Go.RowKit
set_option linter.unusedVariables false

def SaidWrite (h : Nat) : Prop := ∀ (d : Datum) (B b pb po : Nat) (l : List UInt8) (kv : Value) (w : World), Tx.high d ≤ h → Tx.OkD d → Tx.SmallD 140737488351232 d → Bld B b l w → TabAt B w → pb < B → At6 w pb po d kv → Sl w (fun x => B ≤ x) kv d.kids → l.length + (Tx.write d).length ≤ 1000000 →
  Calls Tryd.prog 11 #[.pointer (some ⟨b, 0, none⟩), .pointer (some ⟨pb, po, none⟩)] w fun e w' => e = .returned (.tuple #[]) ∧ Bld B b (l ++ Tx.write d) w' ∧ Below B w w'

set_option maxRecDepth 100000 in
set_option maxHeartbeats 800000 in
theorem write_num (d : Datum) (B b pb po : Nat) (l : List UInt8) (kv : Value) (w : World) (hk : d.kind = 1) (h0 : -1000000000000000 ≤ d.num) (h1 : d.num ≤ 1000000000000000) (hb : Bld B b l w) (ht : TabAt B w) (hp : pb < B) (hat : At6 w pb po d kv) (hlen : l.length + (Lib.itoa d.num).length ≤ 1000000) :
    Calls Tryd.prog 11 #[.pointer (some ⟨b, 0, none⟩), .pointer (some ⟨pb, po, none⟩)] w fun e w' => e = .returned (.tuple #[]) ∧ Bld B b (l ++ Lib.itoa d.num) w' ∧ Below B w w' := by
  obtain ⟨a0, a1, a2, a3, a4, a5⟩ := hat
  rw [hk] at a0
  have HB := Lib.hid hb
  obtain ⟨g, hg1, hg2, hg3⟩ := ht
  have HT := Lib.hid hg3
  clear hb hg1 hg3 hk
  generalize hI : Lib.itoa d.num = I at *
  have HI := Lib.hid hI
  clear hI
  go_enter Tryd.func11, Tryd.ntmps11
  go_wp2_with fail
  refine (Tryd.strconv_FormatInt_10 d.num (by omega) (by omega) _ HT.out).mono ?_
  rintro e w1 ⟨rfl, k, os, rfl⟩
  have hgr := grow_grown w k os
  generalize Sort.grow (w.drewN k) os = w1 at *
  have HB1 := Lib.hid (HB.out.keep hgr)
  have HG1 := Lib.hid hgr
  rw [HI.out]
  clear hgr
  go_wp2_with (go_at_call 20; refine (HB1.out.string ⟨I.toArray⟩ (by show l.length + I.toArray.size ≤ _; simp; omega)).mono ?_; rintro e w2 ⟨rfl, hb2, hl2⟩; have HB2 := Lib.hid hb2; have HL2 := Lib.hid hl2; clear hb2 hl2)
  refine bodyPost_end (results_none rfl _ _ _) rfl ⟨rfl, by simpa using HB2.out, ?_⟩
  exact ((Below.refl B w).grown HG1.out HB.out.2 (by simp)).trans HL2.out

set_option maxRecDepth 100000 in
set_option maxHeartbeats 800000 in
theorem write_truth (d : Datum) (B b pb po : Nat) (l : List UInt8) (kv : Value) (w : World) (hk : d.kind = 2) (hn : d.num = 0 ∨ d.num = 1) (hb : Bld B b l w) (hp : pb < B) (hat : At6 w pb po d kv) (hlen : l.length + 2 ≤ 1000000) :
    Calls Tryd.prog 11 #[.pointer (some ⟨b, 0, none⟩), .pointer (some ⟨pb, po, none⟩)] w fun e w' => e = .returned (.tuple #[]) ∧ Bld B b (l ++ if d.num = 0 then [35, 102] else [35, 116]) w' ∧ Below B w w' := by
  obtain ⟨a0, a1, a2, a3, a4, a5⟩ := hat
  rw [hk] at a0
  have HB := Lib.hid hb
  have hlt := lt_of_cell a0
  clear hb hk
  rcases hn with hn | hn
  · rw [hn] at a1
    rw [hn]
    go_enter Tryd.func11, Tryd.ntmps11
    go_wp2_with (go_at_call 20; refine (Bld.string (by exact HB.out.keep (World.grownBy_alloc w _ none)) ⟨#[35, 102]⟩ (by exact hlen)).mono ?_; rintro e w2 ⟨rfl, hb2, hl2⟩; have HB2 := Lib.hid hb2; have HL2 := Lib.hid hl2; clear hb2 hl2)
    refine bodyPost_end (results_none rfl _ _ _) rfl ⟨rfl, by simpa using HB2.out, ?_⟩
    exact ((Below.refl B w).grown (World.grownBy_alloc w _ none) HB.out.2 (by simp)).trans HL2.out
  · rw [hn] at a1
    rw [hn]
    go_enter Tryd.func11, Tryd.ntmps11
    go_wp2_with (go_at_call 20; refine (Bld.string (by exact HB.out.keep (World.grownBy_alloc w _ none)) ⟨#[35, 116]⟩ (by exact hlen)).mono ?_; rintro e w2 ⟨rfl, hb2, hl2⟩; have HB2 := Lib.hid hb2; have HL2 := Lib.hid hl2; clear hb2 hl2)
    refine bodyPost_end (results_none rfl _ _ _) rfl ⟨rfl, by simpa using HB2.out, ?_⟩
    exact ((Below.refl B w).grown (World.grownBy_alloc w _ none) HB.out.2 (by simp)).trans HL2.out

set_option maxRecDepth 100000 in
set_option maxHeartbeats 800000 in
theorem write_sym (d : Datum) (B b pb po : Nat) (l : List UInt8) (kv : Value) (w : World) (hk : d.kind = 3) (hb : Bld B b l w) (hat : At6 w pb po d kv) (hlen : l.length + d.name.length ≤ 1000000) :
    Calls Tryd.prog 11 #[.pointer (some ⟨b, 0, none⟩), .pointer (some ⟨pb, po, none⟩)] w fun e w' => e = .returned (.tuple #[]) ∧ Bld B b (l ++ d.name) w' ∧ Below B w w' := by
  obtain ⟨a0, a1, a2, a3, a4, a5⟩ := hat
  rw [hk] at a0
  have HB := Lib.hid hb
  clear hb hk
  go_enter Tryd.func11, Tryd.ntmps11
  go_wp2_with (go_at_call 20; refine (HB.out.string ⟨d.name.toArray⟩ (by show l.length + d.name.toArray.size ≤ _; simpa using hlen)).mono ?_; rintro e w2 ⟨rfl, hb2, hl2⟩; have HB2 := Lib.hid hb2; have HL2 := Lib.hid hl2; clear hb2 hl2)
  exact bodyPost_end (results_none rfl _ _ _) rfl ⟨rfl, by simpa using HB2.out, HL2.out⟩

def WriteRel (B b : Nat) (w : World) (ds : List Datum) (T : List UInt8) (q : Nat) (p : Value) (wr : World) : Prop :=
  ∃ (i : Nat) (acc : List UInt8), q = ds.length - i ∧ p = .int .i64 i ∧ i ≤ ds.length ∧ Bld B b acc wr ∧ acc ++ Tx.writes (decide (i = 0)) (ds.drop i) = T ∧ Below B w wr
theorem writes_step {acc T : List UInt8} {ds : List Datum} {i : Nat} {x : Datum} (hx : ds.drop i = x :: ds.drop (i + 1)) (h : acc ++ Tx.writes (decide (i = 0)) (ds.drop i) = T) :
    (acc ++ (if i = 0 then [] else [32])) ++ Tx.write x ++ Tx.writes (decide (i + 1 = 0)) (ds.drop (i + 1)) = T := by
  rw [hx, Tx.writes] at h
  rw [← h]
  simp

set_option maxRecDepth 100000 in
set_option maxHeartbeats 1600000 in
theorem write_list (h : Nat) (HP : Hid (SaidWrite h)) (d : Datum) (B b pb po : Nat) (l : List UInt8) (kv : Value) (w : World) (hk : d.kind = 4) (hh : Tx.highs d.kids ≤ h) (hok : Tx.OkL d.kids) (hsm : Tx.SmallD 140737488351232 d) (hb : Bld B b l w) (ht : TabAt B w) (hp : pb < B) (hat : At6 w pb po d kv) (hsl : Sl w (fun x => B ≤ x) kv d.kids) (T : List UInt8) (hT : l ++ [40] ++ Tx.writes true d.kids = T) (hlen : T.length + 1 ≤ 1000000) :
    Calls Tryd.prog 11 #[.pointer (some ⟨b, 0, none⟩), .pointer (some ⟨pb, po, none⟩)] w fun e w' => e = .returned (.tuple #[]) ∧ Bld B b (T ++ [41]) w' ∧ Below B w w' := by
  obtain ⟨kA, kc, rfl⟩ := hsl.form
  have HAT := Lib.hid hat
  obtain ⟨a0, a1, a2, a3, a4, a5⟩ := hat
  rw [hk] at a0
  have HB := Lib.hid hb
  have HTB := Lib.hid ht
  have HS := Lib.hid hsl
  have HT := Lib.hid hT
  have HH := Lib.hid hh
  have hl0 : l.length + 1 ≤ 1000000 := by rw [← hT] at hlen; simp at hlen; omega
  have hkl := hsm.len
  have hkl2 : d.kids.length ≤ maxLen := by unfold maxLen; omega
  have HSM := Lib.hid hsm.kids
  have HOK := Lib.hid hok
  clear hb hk hsl hT ht hh hsm hok
  go_enter Tryd.func11, Tryd.ntmps11
  go_wp2_with (go_at_call 12; refine (HB.out.byte 40 40 rfl hl0).mono ?_; rintro e w1 ⟨rfl, hb1, hl1⟩; have HB1 := Lib.hid hb1; have HL1 := Lib.hid hl1; have b5 : w1.cell? ⟨pb, po + 5, none⟩ = some (.slice kA d.kids.length kc) := (HAT.out.under hl1 hp).2.2.2.2.2; clear hb1 hl1)
  go_loopg [46] d.kids.length (fun q p wr => WriteRel B b w d.kids T q p wr)
  case atStart => exact ⟨0, l ++ [40], by simp, rfl, by omega, HB1.out, by simpa using HT.out, HL1.out⟩
  case round =>
    obtain ⟨i, acc, rfl, rfl, hi, hb, hT, hlo⟩ := hrel
    have b5' : wr.cell? ⟨pb, po + 5, none⟩ = some (.slice kA d.kids.length kc) := (HAT.out.under hlo hp).2.2.2.2.2
    have HB := Lib.hid hb
    have HT := Lib.hid hT
    have HL := Lib.hid hlo
    clear a0 a1 a2 a3 a4 a5 hb hT hlo
    by_cases hlt : i < d.kids.length
    · have hlt' : (i : Int) < (d.kids.length : Int) := by omega
      obtain ⟨x, hx⟩ : ∃ x, d.kids[i]? = some x := ⟨d.kids[i], by simp [hlt]⟩
      have hdrop : d.kids.drop i = x :: d.kids.drop (i + 1) := by
        rw [List.drop_eq_getElem_cons hlt]
        congr 1
        rw [List.getElem?_eq_getElem hlt] at hx
        injection hx
      have hstep := writes_step hdrop HT.out
      have hxl : (acc ++ (if i = 0 then [] else [32])).length + (Tx.write x).length ≤ 1000000 := by
        have := congrArg List.length hstep
        simp only [List.length_append] at this ⊢
        omega
      have HST := Lib.hid hstep
      have HXL := Lib.hid hxl
      have HXM := Lib.hid (HSM.out.get hx)
      have HXO := Lib.hid (HOK.out.get hx)
      have HXH := Lib.hid (Nat.le_trans (Tx.high_get hx) HH.out)
      have HX := Lib.hid hx
      clear hstep hxl hx hdrop
      by_cases hi0 : i = 0
      · subst hi0
        have hsr := HS.out.under HL.out
        obtain ⟨kb, ko, cap, hkv, hkM, hkb, hall⟩ := At6.of hsr (by intro e; rw [e] at hlt; simp at hlt)
        injection hkv with hkA _ hkc
        subst hkA hkc
        obtain ⟨xv, hxa, hxs⟩ := hall 0 x HX.out
        have HXA := Lib.hid hxa
        have HXS := Lib.hid hxs
        have HBX := Lib.hid (show Bld B b (acc ++ (if (0 : Nat) = 0 then [] else [32])) wr by simpa using HB.out)
        clear hxa hxs hall hsr
        have hkB : kb < B := by omega
        go_wp2_with (go_at_call 11; refine (HP.out x B b kb (ko + 0 * 6) _ xv _ HXH.out HXO.out HXM.out (by exact HBX.out) (HTB.out.below HL.out) hkB (by exact HXA.out) HXS.out HXL.out).mono ?_; rintro e w2 ⟨rfl, hb2, hl2⟩; have HB2 := Lib.hid hb2; have HL2 := Lib.hid hl2; clear hb2 hl2)
        go_roundg (d.kids.length - (0 + 1))
        case measure => omega
        case rel => exact ⟨0 + 1, _, rfl, rfl, by omega, HB2.out, HST.out, HL.out.trans HL2.out⟩
      · have hi1 : 0 < (i : Int) := by omega
        have hacc : acc.length + 1 ≤ 1000000 := by have := HXL.out; simp [hi0] at this; omega
        go_wp2_with (go_at_call 12; refine (HB.out.byte 32 32 rfl hacc).mono ?_; rintro e w1' ⟨rfl, hb1, hl1⟩; have HB1' := Lib.hid hb1; have HL1' := Lib.hid (HL.out.trans hl1); have b5'' : w1'.cell? ⟨pb, po + 5, none⟩ = some (.slice kA d.kids.length kc) := (HAT.out.under (HL.out.trans hl1) hp).2.2.2.2.2; clear hb1 hl1)
        have hsr := HS.out.under HL1'.out
        obtain ⟨kb, ko, cap, hkv, hkM, hkb, hall⟩ := At6.of hsr (by intro e; rw [e] at hlt; simp at hlt)
        injection hkv with hkA _ hkc
        subst hkA hkc
        obtain ⟨xv, hxa, hxs⟩ := hall i x HX.out
        have HXA := Lib.hid hxa
        have HXS := Lib.hid hxs
        have HBX := Lib.hid (show Bld B b (acc ++ (if i = 0 then [] else [32])) w1' by simpa [hi0] using HB1'.out)
        clear hxa hxs hall hsr
        have hkB : kb < B := by omega
        go_wp2_with (go_at_call 11; refine (HP.out x B b kb (ko + i * 6) _ xv _ HXH.out HXO.out HXM.out (by exact HBX.out) (HTB.out.below HL1'.out) hkB (by exact HXA.out) HXS.out HXL.out).mono ?_; rintro e w2 ⟨rfl, hb2, hl2⟩; have HB2 := Lib.hid hb2; have HL2 := Lib.hid hl2; clear hb2 hl2)
        go_roundg (d.kids.length - (i + 1))
        case measure => omega
        case rel => exact ⟨i + 1, _, rfl, rfl, by omega, HB2.out, HST.out, HL1'.out.trans HL2.out⟩
    · have hlt' : ¬ (i : Int) < (d.kids.length : Int) := by omega
      have hT0 := HT.out
      rw [List.drop_eq_nil_of_le (by omega), Tx.writes, List.append_nil] at hT0
      have HT0 := Lib.hid hT0
      clear hT0
      go_wp2_with (go_at_call 12; refine (HB.out.byte 41 41 rfl (by rw [HT0.out]; exact hlen)).mono ?_; rintro e w2 ⟨rfl, hb2, hl2⟩; have HB2 := Lib.hid hb2; have HL2 := Lib.hid hl2; clear hb2 hl2)
      exact bodyPost_end (results_none rfl _ _ _) rfl ⟨rfl, by rw [← HT0.out]; exact HB2.out, HL.out.trans HL2.out⟩

theorem said_write : ∀ h, SaidWrite h
  | 0 => fun d B b pb po l kv w hh => by have := Tx.high_kids d; omega
  | h + 1 => by
    have ih : SaidWrite h := said_write h
    intro d B b pb po l kv w hh hok hsm hb ht hp hat hsl hlen
    have hhk := Tx.high_kids d
    rcases (Tx.okD_iff d).1 hok with ⟨hk, h0, h1⟩ | ⟨hk, hn⟩ | ⟨hk, _, _, _⟩ | ⟨hk, hok⟩
    · rw [Tx.write_num hk] at hlen ⊢
      exact write_num d B b pb po l kv w hk h0 h1 hb ht hp hat hlen
    · rw [Tx.write_truth hk] at hlen ⊢
      exact write_truth d B b pb po l kv w hk hn hb hp hat (by split at hlen <;> simpa using hlen)
    · rw [Tx.write_sym hk] at hlen ⊢
      exact write_sym d B b pb po l kv w hk hb hat hlen
    · rw [Tx.write_list hk] at hlen ⊢
      have := write_list h (Lib.hid ih) d B b pb po l kv w hk (by omega) hok hsm hb ht hp hat hsl _ rfl (by simp at hlen ⊢; omega)
      simpa using this
end Go.Proofs.YtchjbkokjilobaaDoor
