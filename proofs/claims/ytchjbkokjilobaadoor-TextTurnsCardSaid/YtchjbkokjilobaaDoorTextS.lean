/- The walks of text.fail, (*reader).node, text.atom. -/
import Derived.Test.YtchjbkokjilobaaDoorTextR
import Derived.Lib.ParseIntB
import Derived.Lib.SmallJoins
namespace Go.Proofs.YtchjbkokjilobaaDoor
open Go.RowKit

/-- numerals of at most 17 signs fit -/
theorem parse_digits : ∀ (l : List UInt8) (acc : Nat), l.all Tx.digit = true → l.length ≤ 17 → acc < 10 ^ (17 - l.length) →
    Lib.parseUintM (2 ^ 64 - 1) acc l = .ok (l.foldl (fun n c => n * 10 + (c.toNat - 48)) acc) ∧ l.foldl (fun n c => n * 10 + (c.toNat - 48)) acc < 10 ^ 17
  | [], acc, _, _, ha => ⟨rfl, by simpa using ha⟩
  | c :: l, acc, hl, hn, ha => by
    simp only [List.all_cons, Bool.and_eq_true] at hl
    obtain ⟨hc, hl⟩ := hl
    simp only [Tx.digit, Bool.and_eq_true, decide_eq_true_eq, UInt8.le_iff_toNat_le] at hc
    have c1 : 48 ≤ c.toNat := by simpa using hc.1
    have c2 : c.toNat ≤ 57 := by simpa using hc.2
    simp only [List.length_cons] at hn ha
    have hpow : 10 ^ (17 - l.length) = 10 ^ (17 - (l.length + 1)) * 10 := by
      rw [← Nat.pow_succ]; congr 1; omega
    have hle : 10 ^ (17 - (l.length + 1)) ≤ 10 ^ 16 := Nat.pow_le_pow_right (by omega) (by omega)
    have hacc : acc * 10 + (c.toNat - 48) < 10 ^ (17 - l.length) := by rw [hpow]; omega
    have ih := parse_digits l _ hl (by omega) hacc
    simp only [Lib.parseUintM, List.foldl_cons]
    rw [if_pos ⟨c1, c2⟩, if_neg (by omega), if_neg (by omega)]
    exact ih

theorem nat_lt {l : List UInt8} (h : l.all Tx.digit = true) (hn : l.length ≤ 17) : Tx.natOf l < 10 ^ 17 :=
  (parse_digits l 0 h hn (Nat.pow_pos (by omega))).2

theorem number_parts {s : List UInt8} (h : Tx.number s = true) : (Tx.bare s).all Tx.digit = true ∧ Tx.bare s ≠ [] := by
  unfold Tx.number at h
  simp only [Bool.and_eq_true, Bool.not_eq_true', List.isEmpty_eq_false_iff] at h
  exact h

theorem parse_number {s : List UInt8} (h : Tx.number s = true) (hn : s.length ≤ 17) : Lib.parseIntB 64 s = .ok (Tx.intOf s) ∧ -100000000000000000 < Tx.intOf s ∧ Tx.intOf s < 100000000000000000 := by
  obtain ⟨h1, h2⟩ := number_parts h
  cases s with
  | nil => exact absurd (show Tx.bare [] = [] from rfl) h2
  | cons c r =>
    by_cases hm : c = 45
    · subst hm
      have hb : Tx.bare (45 :: r) = r := by simp [Tx.bare]
      rw [hb] at h1 h2
      have hr : r.length ≤ 17 := by simp at hn; omega
      have hp := (parse_digits r 0 h1 hr (Nat.pow_pos (by omega))).1
      have hl := nat_lt h1 hr
      have hi : Tx.intOf (45 :: r) = -(Tx.natOf r : Int) := by simp [Tx.intOf, hb]
      rw [hi]
      refine ⟨?_, by omega, by omega⟩
      simp only [Lib.parseIntB, Lib.parseUintB]
      simp [h2, hp]
      have : Tx.natOf r = List.foldl (fun n c => n * 10 + (c.toNat - 48)) 0 r := rfl
      rw [← this]
      rw [if_neg (by omega)]
    · have hb : Tx.bare (c :: r) = c :: r := by simp [Tx.bare, hm]
      rw [hb] at h1 h2
      have hp := (parse_digits (c :: r) 0 h1 hn (Nat.pow_pos (by omega))).1
      have hl := nat_lt h1 hn
      have hi : Tx.intOf (c :: r) = (Tx.natOf (c :: r) : Int) := by simp [Tx.intOf, hb, hm]
      rw [hi]
      refine ⟨?_, by omega, by omega⟩
      have n45 : ¬ c.toNat = 45 := fun e => hm (UInt8.toNat_inj.1 e)
      have hd : Tx.digit c = true := by simp only [List.all_cons, Bool.and_eq_true] at h1; exact h1.1
      have n43 : ¬ c.toNat = 43 := by
        intro e
        rw [digit_eq] at hd
        simp at hd
        omega
      simp only [Lib.parseIntB, Lib.parseUintB]
      simp only [n45, n43, or_self, if_false, List.cons_ne_nil, hp]
      have : Tx.natOf (c :: r) = List.foldl (fun n c => n * 10 + (c.toNat - 48)) 0 (c :: r) := rfl
      rw [← this]
      simp
      omega

/-- thrown -/
abbrev oops (e a : Int) : Ending := .panicked [{ v := .iface 49 (.agg #[.int .i64 e, .int .i64 a]), recovered := false }]

set_option maxRecDepth 100000 in
set_option maxHeartbeats 400000 in
theorem fail_any (er a : Int) (w : World) :
    Calls Tryd.prog 24 #[.int .i64 er, .int .i64 a] w fun e w' => e = oops er a ∧ w = w' := by
  go_enter Tryd.func24, Tryd.ntmps24
  go_wp2
  exact ⟨rfl, rfl, rfl⟩

set_option maxRecDepth 100000 in
set_option maxHeartbeats 800000 in
theorem node_ok (s : ByteArray) (g k n : Nat) (r : List UInt8) (deep a : Int) (w : World) (h : Rd w g s k n r) (hn : n + 1 ≤ 2000) (hd : deep ≤ 40) :
    Calls Tryd.prog 23 #[.pointer (some ⟨g, 0, none⟩), .int .i64 deep, .int .i64 a] w fun e w' => e = .returned (.tuple #[]) ∧ w.grownBy w' (some g) ∧ Rd w' g s k (n + 1) r := by
  obtain ⟨hb, hk, hr⟩ := h
  have HB := Lib.hid hb
  have HRR := Lib.hid hr
  have c2 : w.cell? ⟨g, 2, none⟩ = some (.int .i64 n) := hb.cell 2
  have c2' : ∀ v, (w.setCell ⟨g, 2, none⟩ v).cell? ⟨g, 2, none⟩ = some v := fun v => (hb.set 2 v).cell 2
  have f2 := hb.frozen 2
  have hn' : (n : Int) + 1 ≤ 2000 := by omega
  clear hb hr
  go_enter Tryd.func23, Tryd.ntmps23
  go_wp2_with fail
  exact bodyPost_end (results_none rfl _ _ _) rfl ⟨rfl, grown_setCell (grown_refl _ _) 2 none _, HB.out.set 2 _, hk, HRR.out⟩

set_option maxRecDepth 100000 in
set_option maxHeartbeats 800000 in
theorem node_no (s : ByteArray) (g k n : Nat) (r : List UInt8) (deep a : Int) (w : World) (h : Rd w g s k n r) (hn' : n < 1000000) (hn : 2000 < n + 1 ∨ 40 < deep) :
    Calls Tryd.prog 23 #[.pointer (some ⟨g, 0, none⟩), .int .i64 deep, .int .i64 a] w fun e w' => e = oops 4 a ∧ w.grownBy w' (some g) := by
  obtain ⟨hb, hk, hr⟩ := h
  have c2 : w.cell? ⟨g, 2, none⟩ = some (.int .i64 n) := hb.cell 2
  have c2' : ∀ v, (w.setCell ⟨g, 2, none⟩ v).cell? ⟨g, 2, none⟩ = some v := fun v => (hb.set 2 v).cell 2
  have f2 := hb.frozen 2
  have hn2 : (n : Int) + 1 ≤ 1000000 := by omega
  clear hb hr hk
  by_cases h1 : 2000 < (n : Int) + 1
  · go_enter Tryd.func23, Tryd.ntmps23
    go_wp2_with (go_at_call 24; refine (fail_any _ _ _).mono ?_; rintro e w' ⟨rfl, rfl⟩)
    exact ⟨rfl, rfl, grown_setCell (grown_refl _ _) 2 none _⟩
  · have h2 : 40 < deep := by omega
    go_enter Tryd.func23, Tryd.ntmps23
    go_wp2_with (go_at_call 24; refine (fail_any _ _ _).mono ?_; rintro e w' ⟨rfl, rfl⟩)
    exact ⟨rfl, rfl, grown_setCell (grown_refl _ _) 2 none _⟩

/-- what atom comes to -/
def AtomPost (w : World) : Tx.Res Datum → Ending → World → Prop
  | .error e, en, w' => en = oops e.1 e.2 ∧ w.grownBy w' none
  | .ok d, en, w' => ∃ x, en = .returned x ∧ Dv w' (fun b => b < w.heap.size) x d ∧ w.grownBy w' none

theorem string_of (s : ByteArray) : (⟨s.data.toList.toArray⟩ : ByteArray) = s := by cases s; simp
theorem parsed_grown {w w' : World} (h : w' = w ∨ ∃ t, w' = Lib.bytesWorld w 5 t) : w.grownBy w' none := by
  rcases h with rfl | ⟨t, rfl⟩
  · exact grown_refl _ _
  · exact below_grown (Joins.below_bytesWorld _ _ _ _ (Nat.le_refl _)) none

theorem dv_sym (w : World) (M : Nat → Prop) (s : ByteArray) : Dv w M (.agg #[.int .i64 3, .int .i64 0, .string s, .int .i64 0, .int .i64 0, .slice none 0 0]) (Tx.sym s.data.toList) :=
  ⟨.slice none 0 0, by show _ = Value.agg #[_, _, .string ⟨s.data.toList.toArray⟩, _, _, _]; rw [string_of]; rfl, Sl.nil _ _⟩
theorem dv_num (w : World) (M : Nat → Prop) (n : Int) : Dv w M (.agg #[.int .i64 1, .int .i64 n, .string ⟨#[]⟩, .int .i64 0, .int .i64 0, .slice none 0 0]) (Tx.num n) :=
  ⟨.slice none 0 0, rfl, Sl.nil _ _⟩
theorem dv_truth (w : World) (M : Nat → Prop) (n : Int) : Dv w M (.agg #[.int .i64 2, .int .i64 n, .string ⟨#[]⟩, .int .i64 0, .int .i64 0, .slice none 0 0]) (Tx.truth n) :=
  ⟨.slice none 0 0, rfl, Sl.nil _ _⟩

set_option maxRecDepth 100000 in
set_option maxHeartbeats 1600000 in
theorem atom_any (s : ByteArray) (a : Int) (w : World) (hs : s.size ≤ 6000) :
    Calls Tryd.prog 27 #[.string s, .int .i64 a] w (AtomPost w (Tx.atom s.data.toList a)) := by
  have hm : s.size ≤ maxLen := by unfold maxLen; omega
  have hm2 : s.size ≤ 9223372036854775806 := by omega
  have hlen : s.data.toList.length = s.size := by simp
  cases hn : Tx.number s.data.toList with
  | true =>
    by_cases h17 : 17 < s.size
    · have hA := Lib.hid (show Tx.atom s.data.toList a = .error (3, a) by unfold Tx.atom; rw [if_pos hn, if_pos (by omega)])
      have HN := Lib.hid hn
      clear hn hlen
      rw [hA.out]
      go_enter Tryd.func27, Tryd.ntmps27
      go_wp2_with (first
        | (go_at_call 32; refine (number_any s _ hm).mono ?_; rw [HN.out]; rintro e w' ⟨rfl, rfl⟩)
        | (go_at_call 24; refine (fail_any _ _ _).mono ?_; rintro e w' ⟨rfl, rfl⟩))
      exact ⟨rfl, rfl, grown_alloc (grown_refl _ _) _⟩
    · obtain ⟨hp, hb1, hb2⟩ := parse_number hn (by omega)
      have HP := Lib.hid hp
      have hA : Tx.atom s.data.toList a = if Tx.intOf s.data.toList > 1000000000000000 ∨ Tx.intOf s.data.toList < -1000000000000000 then .error (3, a) else .ok (Tx.num (Tx.intOf s.data.toList)) := by
        unfold Tx.atom; rw [if_pos hn, if_neg (by omega)]
      have HN := Lib.hid hn
      rw [hA]
      clear hn hlen hA hp
      generalize Tx.intOf s.data.toList = v at *
      by_cases hr : v > 1000000000000000 ∨ v < -1000000000000000
      · rw [if_pos hr]
        rcases hr with hr | hr
        all_goals
          go_enter Tryd.func27, Tryd.ntmps27
          go_wp2_with (first
            | (go_at_call 32; refine (number_any s _ hm).mono ?_; rw [HN.out]; rintro e w' ⟨rfl, rfl⟩)
            | (go_at_call 33; refine (Tryd.strconv_ParseInt_10_at64_ok s hm2 v HP.out _).mono ?_; rintro e w' ⟨rfl, hw⟩; have HW := Lib.hid (parsed_grown hw); clear hw)
            | (go_at_call 24; refine (fail_any _ _ _).mono ?_; rintro e w' ⟨rfl, rfl⟩))
          exact ⟨rfl, rfl, grown_trans (grown_alloc (grown_refl _ _) _) HW.out⟩
      · rw [if_neg hr]
        have hr1 : v ≤ 1000000000000000 := by omega
        have hr2 : -1000000000000000 ≤ v := by omega
        clear hr
        go_enter Tryd.func27, Tryd.ntmps27
        go_wp2_with (first
          | (go_at_call 32; refine (number_any s _ hm).mono ?_; rw [HN.out]; rintro e w' ⟨rfl, rfl⟩)
          | (go_at_call 33; refine (Tryd.strconv_ParseInt_10_at64_ok s hm2 v HP.out _).mono ?_; rintro e w' ⟨rfl, hw⟩; have HW := Lib.hid (parsed_grown hw); have hB := (Blk.new w _ _).grown (parsed_grown hw) (by simp); have HB := Lib.hid hB; obtain ⟨⟨c0, c1, c2, c3, c4, c5⟩, f0, f1, f2, f3, f4, f5⟩ := hB.six; clear hw hB)
          | (go_at_call 24; refine (fail_any _ _ _).mono ?_; rintro e w' ⟨rfl, rfl⟩))
        have hP := HB.out.put6 (b0 := .int .i64 1) (b1 := .int .i64 v) (b2 := .string ⟨#[]⟩) (b3 := .int .i64 0) (b4 := .int .i64 0) (b5 := .slice none 0 0)
        exact bodyPost_ret (v := .agg #[.int .i64 1, .int .i64 v, .string ⟨#[]⟩, .int .i64 0, .int .i64 0, .slice none 0 0]) (by simp [results, Tryd.results27, go_sem, c0, c1, c2, c3, c4, c5]) rfl
          ⟨_, rfl, dv_num _ _ v, grown_six (grown_trans (grown_alloc (grown_refl _ _) _) HW.out) (Nat.le_refl _)⟩
  | false => 
    by_cases h20 : 20 < s.size
    · have hA := Lib.hid (show Tx.atom s.data.toList a = .error (7, a) by unfold Tx.atom; rw [if_neg (by simp [hn]), if_pos (by omega)])
      have HN := Lib.hid hn
      clear hn hlen
      rw [hA.out]
      go_enter Tryd.func27, Tryd.ntmps27
      go_wp2_with (first
        | (go_at_call 32; refine (number_any s _ hm).mono ?_; rw [HN.out]; rintro e w' ⟨rfl, rfl⟩)
        | (go_at_call 24; refine (fail_any _ _ _).mono ?_; rintro e w' ⟨rfl, rfl⟩))
      exact ⟨rfl, rfl, grown_alloc (grown_refl _ _) _⟩
    · have hA := Lib.hid (show Tx.atom s.data.toList a = .ok (Tx.sym s.data.toList) by unfold Tx.atom; rw [if_neg (by simp [hn]), if_neg (by omega)])
      have HN := Lib.hid hn
      clear hn hlen
      rw [hA.out]
      go_enter Tryd.func27, Tryd.ntmps27
      go_wp2_with (first
        | (go_at_call 32; refine (number_any s _ hm).mono ?_; rw [HN.out]; rintro e w' ⟨rfl, rfl⟩)
        | (go_at_call 24; refine (fail_any _ _ _).mono ?_; rintro e w' ⟨rfl, rfl⟩))
      exact bodyPost_ret (v := .agg #[.int .i64 3, .int .i64 0, .string s, .int .i64 0, .int .i64 0, .slice none 0 0]) (by simp [results, Tryd.results27, go_sem]) rfl
        ⟨_, rfl, dv_sym _ _ s, grown_alloc (grown_refl _ _) _⟩
end Go.Proofs.YtchjbkokjilobaaDoor
