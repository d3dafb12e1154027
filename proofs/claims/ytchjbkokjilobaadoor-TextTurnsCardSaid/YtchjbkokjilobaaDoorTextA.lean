/- The walks of text.letter, text.number, text.Named: each returns what the plain function says, the world as it was. -/
import Derived.Test.YtchjbkokjilobaaDoorProg
import Derived.Test.YtchjbkokjilobaaDoorShelf
import Derived.Test.YtchjbkokjilobaaDoorTextP
import Derived.Test.YtchjbkokjilobaaDoorMem
import Derived.WalkKit
import Derived.WalkSpells
import Derived.WalkLawsBesides
import Derived.Lib.Hide
import Derived.Lib.IndexLaws
namespace Go.Proofs.YtchjbkokjilobaaDoor
open Go.RowKit


theorem index_mem (l : List UInt8) (c : UInt8) : decide (0 ≤ Lib.indexByte l c) = l.contains c := by
  induction l with
  | nil => rfl
  | cons b l ih =>
    have hge := Lib.indexByte_ge l c
    simp only [Lib.indexByte, List.contains_cons]
    by_cases h : b = c
    · subst h; simp
    · have h' : ¬ c = b := fun e => h e.symm
      simp only [beq_iff_eq, h, if_false, beq_eq_false_iff_ne.2 h', Bool.false_or, ← ih]
      by_cases h1 : Lib.indexByte l c = -1
      · simp [h1]
      · simp only [h1, if_false]
        have : 0 ≤ Lib.indexByte l c := by omega
        simp [this]; omega

theorem letter_eq (c : Int) (h0 : 0 ≤ c) (h1 : c ≤ 255) : Tx.letter (UInt8.ofNat c.toNat) = ((decide (97 ≤ c) && decide (c ≤ 122)) || (decide (48 ≤ c) && decide (c ≤ 57)) || decide (0 ≤ Lib.indexByte [33, 63, 42, 43, 45, 47, 60, 61, 62, 95, 46] (UInt8.ofNat c.toNat))) := by
  unfold Tx.letter
  rw [index_mem]
  have e : ∀ n : Nat, n < 256 → (decide ((UInt8.ofNat n) ≤ UInt8.ofNat c.toNat) = decide ((n : Int) ≤ c)) := by
    intro n hn
    rw [decide_eq_decide, UInt8.le_iff_toNat_le, UInt8.toNat_ofNat', UInt8.toNat_ofNat']
    omega
  have e' : ∀ n : Nat, n < 256 → (decide (UInt8.ofNat c.toNat ≤ (UInt8.ofNat n)) = decide (c ≤ (n : Int))) := by
    intro n hn
    rw [decide_eq_decide, UInt8.le_iff_toNat_le, UInt8.toNat_ofNat', UInt8.toNat_ofNat']
    omega
  have a1 := e 97 (by omega); have a2 := e' 122 (by omega); have a3 := e 48 (by omega); have a4 := e' 57 (by omega)
  simp only [UInt8.reduceOfNat] at a1 a2 a3 a4
  rw [a1, a2, a3, a4]
  rfl

set_option maxRecDepth 100000 in
set_option maxHeartbeats 400000 in
theorem letter_any (c : Int) (w : World) (h0 : 0 ≤ c) (h1 : c ≤ 255) :
    Calls Tryd.prog 26 #[.int .u8 c] w fun e w' => e = .returned (.bool (Tx.letter (UInt8.ofNat c.toNat))) ∧ w = w' := by
  go_enter Tryd.func26, Tryd.ntmps26
  go_wp2_with (go_at_call 31; refine (Tryd.strings_IndexByte _ _ _).mono ?_; rintro e w' ⟨rfl, rfl⟩)
  all_goals go_ret
  all_goals refine ⟨?_, rfl⟩
  all_goals refine ret_bool ?_
  all_goals rw [letter_eq c h0 h1]
  all_goals generalize decide (0 ≤ Lib.indexByte [33, 63, 42, 43, 45, 47, 60, 61, 62, 95, 46] (UInt8.ofNat c.toNat)) = B
  all_goals rw [Bool.eq_iff_iff]
  all_goals cases B <;> simp <;> omega

/-! ### text.number -/
theorem digit_eq (c : UInt8) : Tx.digit c = !(decide ((c.toNat : Int) < 48) || decide ((c.toNat : Int) > 57)) := by
  unfold Tx.digit
  rw [Bool.eq_iff_iff]
  simp [UInt8.le_iff_toNat_le]
  omega

theorem take_snoc (s : ByteArray) (k : Nat) (h : k < s.size) : s.data.toList.take (k + 1) = s.data.toList.take k ++ [s[k]] := by
  rw [List.take_succ_eq_append_getElem (by simpa using h)]; rfl

theorem bare_trim (s : List UInt8) : Lib.trimPrefix s [45] = Tx.bare s := by
  unfold Lib.trimPrefix Lib.hasPrefix Tx.bare
  cases s with
  | nil => simp
  | cons a l =>
    by_cases h : a = 45
    · subst h; simp
    · have h' : ¬ (45 : UInt8) = a := fun e => h e.symm
      simp [h, h', List.isPrefixOf]

theorem trim_minus (s b : ByteArray) (w : World) (hb : b.data.toList = Tx.bare s.data.toList) :
    Calls Tryd.prog 39 #[.string s, .string ⟨#[45]⟩] w fun e w' => e = .returned (.string b) ∧ w = w' := by
  refine (Tryd.strings_TrimPrefix _ _ _).mono ?_
  rintro e w' ⟨rfl, rfl⟩
  refine ⟨?_, rfl⟩
  have : (⟨(Lib.trimPrefix s.data.toList [45]).toArray⟩ : ByteArray) = b := by
    rw [bare_trim, ← hb]
  rw [← this]

theorem bare_le (s : List UInt8) : (Tx.bare s).length ≤ s.length := by
  unfold Tx.bare; split <;> simp

theorem number_no {s b : ByteArray} {k : Nat} (hb : b.data.toList = Tx.bare s.data.toList) (hk : k < b.size) (h : (b[k].toNat : Int) < 48 ∨ 57 < (b[k].toNat : Int)) :
    Tx.number s.data.toList = false := by
  unfold Tx.number
  rw [← hb]
  have h1 : ¬ (b.data.toList.all Tx.digit = true) := by
    intro hall
    rw [List.all_eq_true] at hall
    have := hall b[k] (by
      have : b[k] = b.data.toList[k]'(by simpa using hk) := rfl
      rw [this]; exact List.getElem_mem _)
    rw [digit_eq] at this
    simp at this
    omega
  rw [Bool.eq_false_iff.2 h1]
  rfl

theorem number_yes {s b : ByteArray} {k : Nat} (hb : b.data.toList = Tx.bare s.data.toList) (hk : b.size ≤ k) (h : (b.data.toList.take k).all Tx.digit = true) :
    (!b.data.toList.isEmpty) = Tx.number s.data.toList := by
  unfold Tx.number
  rw [← hb]
  rw [List.take_of_length_le (by simpa using hk)] at h
  rw [h]
  simp

theorem digits_on {b : ByteArray} {k : Nat} (hk : k < b.size) (h : (b.data.toList.take k).all Tx.digit = true) (h1 : 48 ≤ (b[k].toNat : Int)) (h2 : (b[k].toNat : Int) ≤ 57) :
    (b.data.toList.take (k + 1)).all Tx.digit = true := by
  rw [take_snoc b k hk, List.all_append, h]
  have : Tx.digit b[k] = true := by
    rw [digit_eq]
    simp
    omega
  simp [this]

set_option maxRecDepth 100000 in
set_option maxHeartbeats 400000 in
theorem number_any (s : ByteArray) (w : World) (hs : s.size ≤ maxLen) :
    Calls Tryd.prog 32 #[.string s] w fun e w' => e = .returned (.bool (Tx.number s.data.toList)) ∧ w = w' := by
  unfold maxLen at hs
  obtain ⟨b, hb⟩ : ∃ b : ByteArray, b.data.toList = Tx.bare s.data.toList := ⟨⟨(Tx.bare s.data.toList).toArray⟩, rfl⟩
  have hl : b.size ≤ s.size := by
    have := bare_le s.data.toList
    rw [← hb] at this
    simpa using this
  have hbs : b.size ≤ 9223372036854775807 := by omega
  have HB := Lib.hid hb
  clear hb hs hl
  go_enter Tryd.func32, Tryd.ntmps32
  go_wp2_with (go_at_call 39; refine (trim_minus _ b _ HB.out).mono ?_; rintro e w' ⟨rfl, rfl⟩)
  go_loop [8] (fun i => ∃ k : Nat, k ≤ b.size ∧ i = .int .i64 k ∧ (b.data.toList.take k).all Tx.digit = true) (fun i => b.size - (intOf i).toNat)
  case atStart => exact ⟨0, Nat.zero_le _, rfl, rfl⟩
  case round =>
    obtain ⟨k, hk, rfl, hr⟩ := hrel
    by_cases hlt : k < b.size
    · by_cases h1 : (b[k].toNat : Int) < 48
      · go_wp2
        go_ret
        exact ⟨ret_bool (number_no HB.out hlt (.inl h1)).symm, rfl⟩
      · by_cases h2 : 57 < (b[k].toNat : Int)
        · go_wp2
          go_ret
          exact ⟨ret_bool (number_no HB.out hlt (.inr h2)).symm, rfl⟩
        · have hon := Lib.hid (digits_on hlt hr (by omega) (by omega))
          go_wp2
          refine ⟨⟨k + 1, by omega, by go_num, hon.out⟩, by simp [intOf]; omega⟩
    · have hy := Lib.hid (number_yes HB.out (by omega) hr)
      go_wp2
      go_ret
      exact ⟨ret_bool (by rw [ByteArray.toList_eq]; exact hy.out), rfl⟩

/-! ### text.Named -/
theorem letter_at (b : ByteArray) (k : Nat) (hk : k < b.size) : Tx.letter (UInt8.ofNat ((b[k].toNat : Int)).toNat) = Tx.letter b[k] := by
  simp

theorem named_no {s : ByteArray} {k : Nat} (hk : k < s.size) (h : Tx.letter s[k] = false) : Tx.named s.data.toList = false := by
  unfold Tx.named
  have h1 : ¬ (s.data.toList.all Tx.letter = true) := by
    intro hall
    rw [List.all_eq_true] at hall
    have := hall s[k] (by
      have : s[k] = s.data.toList[k]'(by simpa using hk) := rfl
      rw [this]; exact List.getElem_mem _)
    rw [h] at this
    cases this
  rw [Bool.eq_false_iff.2 h1]
  simp

theorem named_yes {s : ByteArray} {k : Nat} (hk : s.size ≤ k) (h1 : 1 ≤ s.size) (h2 : s.size ≤ 20) (h : (s.data.toList.take k).all Tx.letter = true) :
    (!Tx.number s.data.toList) = Tx.named s.data.toList := by
  unfold Tx.named
  rw [List.take_of_length_le (by simpa using hk)] at h
  rw [h]
  have e1 : decide (1 ≤ s.data.toList.length) = true := by simpa using h1
  have e2 : decide (s.data.toList.length ≤ 20) = true := by simpa using h2
  rw [e1, e2]
  simp

theorem named_size {s : ByteArray} (h : ¬ (1 ≤ s.size ∧ s.size ≤ 20)) : Tx.named s.data.toList = false := by
  rw [Bool.eq_false_iff]
  intro hn
  unfold Tx.named at hn
  simp only [Bool.and_eq_true, decide_eq_true_eq] at hn
  have e : s.data.toList.length = s.size := by simp
  exact h ⟨by omega, by omega⟩

theorem letters_on {b : ByteArray} {k : Nat} (hk : k < b.size) (h : (b.data.toList.take k).all Tx.letter = true) (h1 : Tx.letter b[k] = true) :
    (b.data.toList.take (k + 1)).all Tx.letter = true := by
  rw [take_snoc b k hk, List.all_append, h]
  simp [h1]

theorem letter_byte (b : ByteArray) (k : Nat) (hk : k < b.size) (r : Bool) (hr : Tx.letter b[k] = r) (w : World) :
    Calls Tryd.prog 26 #[.int .u8 (b[k].toNat : Int)] w fun e w' => e = .returned (.bool r) ∧ w = w' := by
  have := letter_any (b[k].toNat : Int) w (by omega) (by have := b[k].toNat_lt; omega)
  rw [letter_at b k hk, hr] at this
  exact this

set_option maxRecDepth 100000 in
set_option maxHeartbeats 400000 in
theorem Named_any (s : ByteArray) (w : World) (hs : s.size ≤ maxLen) :
    Calls Tryd.prog 28 #[.string s] w fun e w' => e = .returned (.bool (Tx.named s.data.toList)) ∧ w = w' := by
  unfold maxLen at hs
  by_cases g1 : s.size < 1
  · have hy := Lib.hid (named_size (s := s) (by omega))
    go_enter Tryd.func28, Tryd.ntmps28
    go_wp2_with fail
    go_ret
    exact ⟨ret_bool hy.out.symm, rfl⟩
  by_cases g2 : 20 < s.size
  · have hy := Lib.hid (named_size (s := s) (by omega))
    go_enter Tryd.func28, Tryd.ntmps28
    go_wp2_with fail
    go_ret
    exact ⟨ret_bool hy.out.symm, rfl⟩
  go_enter Tryd.func28, Tryd.ntmps28
  go_wp2_with fail
  go_loop [14] (fun i => ∃ k : Nat, k ≤ s.size ∧ i = .int .i64 k ∧ (s.data.toList.take k).all Tx.letter = true) (fun i => s.size - (intOf i).toNat)
  case atStart => exact ⟨0, Nat.zero_le _, rfl, rfl⟩
  case round =>
    obtain ⟨k, hk, rfl, hr⟩ := hrel
    by_cases hlt : k < s.size
    · cases hl : Tx.letter s[k] with
      | false =>
        have hy := Lib.hid (named_no hlt hl)
        have HL := Lib.hid hl
        clear hl
        go_wp2_with (go_at_call 26; refine (letter_byte s k hlt false HL.out _).mono ?_; rintro e w' ⟨rfl, rfl⟩)
        go_ret
        exact ⟨ret_bool hy.out.symm, rfl⟩
      | true =>
        have hon := Lib.hid (letters_on hlt hr hl)
        have HL := Lib.hid hl
        clear hl
        go_wp2_with (go_at_call 26; refine (letter_byte s k hlt true HL.out _).mono ?_; rintro e w' ⟨rfl, rfl⟩)
        refine ⟨⟨k + 1, by omega, by go_num, hon.out⟩, by simp [intOf]; omega⟩
    · have hy := Lib.hid (named_yes (k := k) (by omega) (by omega) (by omega) hr)
      go_wp2_with (go_at_call 32; refine (number_any s _ (by unfold maxLen; omega)).mono ?_; rintro e w' ⟨rfl, rfl⟩)
      go_ret
      exact ⟨ret_bool hy.out, rfl⟩
end Go.Proofs.YtchjbkokjilobaaDoor
