/- Plain laws: what is written is read. No Go and no memory here. -/
import Derived.Test.YtchjbkokjilobaaDoorTextV
namespace Go.Proofs.YtchjbkokjilobaaDoor
set_option linter.unusedVariables false
namespace Tx

/-! ### numerals -/
theorem natOf_snoc (l : List UInt8) (c : UInt8) : natOf (l ++ [c]) = natOf l * 10 + (c.toNat - 48) := by simp [natOf]
theorem digit_of (u : Nat) (h : u < 10) : (UInt8.ofNat (48 + u)).toNat = 48 + u := by simp; omega
theorem digit_ok (u : Nat) (h : u < 10) : digit (UInt8.ofNat (48 + u)) = true := by
  unfold digit
  simp only [Bool.and_eq_true, decide_eq_true_eq, UInt8.le_iff_toNat_le, digit_of u h]
  exact ⟨by simp, by simp; omega⟩
theorem dec_facts : ∀ (k u : Nat), u ≤ k → natOf (Lib.decDigits u) = u ∧ (Lib.decDigits u).all digit = true ∧ Lib.decDigits u ≠ []
  | k, u, hk => by
    by_cases h : u < 10
    · rw [Lib.decDigits, dif_pos h]
      refine ⟨?_, ?_, by simp⟩
      · have := natOf_snoc [] (UInt8.ofNat (48 + u))
        rw [List.nil_append] at this
        rw [this, digit_of u h]
        simp [natOf]
      · simp only [List.all_cons, List.all_nil, Bool.and_true]
        exact digit_ok u h
    · match k, hk with
      | 0, hk => omega
      | k + 1, hk =>
        obtain ⟨h1, h2, h3⟩ := dec_facts k (u / 10) (by omega)
        rw [Lib.decDigits, dif_neg h]
        refine ⟨?_, ?_, by simp⟩
        · rw [natOf_snoc, h1, digit_of _ (by omega)]
          omega
        · rw [List.all_append, h2]
          simp only [List.all_cons, List.all_nil, Bool.and_true, Bool.true_and]
          exact digit_ok _ (by omega)
theorem digit_letter {c : UInt8} (h : digit c = true) : letter c = true := by
  unfold letter
  unfold digit at h
  simp only [Bool.or_eq_true]
  exact .inl (.inr h)
theorem digit_ne {c : UInt8} (h : digit c = true) : ¬ c = 45 := by
  rintro rfl
  revert h
  decide
theorem itoa_facts (n : Int) : number (Lib.itoa n) = true ∧ intOf (Lib.itoa n) = n ∧ (Lib.itoa n).all letter = true ∧ Lib.itoa n ≠ [] := by
  unfold Lib.itoa
  split
  · rename_i h
    obtain ⟨h1, h2, h3⟩ := dec_facts n.natAbs n.natAbs (Nat.le_refl _)
    have hb : bare (45 :: Lib.decDigits n.natAbs) = Lib.decDigits n.natAbs := by simp [bare]
    refine ⟨?_, ?_, ?_, by simp⟩
    · unfold number
      rw [hb, h2]
      cases hx : Lib.decDigits n.natAbs with
      | nil => exact absurd hx h3
      | cons a l => rfl
    · unfold intOf
      rw [hb, if_pos (by simp), h1]
      omega
    · simp only [List.all_cons, Bool.and_eq_true]
      refine ⟨by decide, ?_⟩
      rw [List.all_eq_true] at h2 ⊢
      exact fun x hx => digit_letter (h2 x hx)
  · rename_i h
    obtain ⟨h1, h2, h3⟩ := dec_facts n.toNat n.toNat (Nat.le_refl _)
    obtain ⟨a, l, hx⟩ : ∃ a l, Lib.decDigits n.toNat = a :: l := by
      cases hx : Lib.decDigits n.toNat with
      | nil => exact absurd hx h3
      | cons a l => exact ⟨a, l, rfl⟩
    have ha : digit a = true := by
      rw [hx] at h2
      simp only [List.all_cons, Bool.and_eq_true] at h2
      exact h2.1
    have hb : bare (Lib.decDigits n.toNat) = Lib.decDigits n.toNat := by
      unfold bare
      rw [hx]
      simp [digit_ne ha]
    refine ⟨?_, ?_, ?_, h3⟩
    · unfold number
      rw [hb, h2, hx]
      rfl
    · unfold intOf
      rw [hb, h1, if_neg (by rw [hx]; simp [digit_ne ha])]
      omega
    · rw [List.all_eq_true] at h2 ⊢
      exact fun x hx => digit_letter (h2 x hx)

/-! ### data as they are read back -/
mutual
def canon : Datum → Datum
  | .mk k n s st lb ks => if k = 1 then num n else if k = 2 then truth n else if k = 3 then sym s else if k = 4 then list (canons ks) else .mk k n s st lb ks
def canons : List Datum → List Datum
  | [] => []
  | d :: ds => canon d :: canons ds
end
theorem canon_num {d : Datum} (h : d.kind = 1) : canon d = num d.num := by cases d; simp only [Datum.kind] at h; subst h; unfold canon; rfl
theorem canon_truth {d : Datum} (h : d.kind = 2) : canon d = truth d.num := by cases d; simp only [Datum.kind] at h; subst h; unfold canon; rfl
theorem canon_sym {d : Datum} (h : d.kind = 3) : canon d = sym d.name := by cases d; simp only [Datum.kind] at h; subst h; unfold canon; rfl
theorem canon_list {d : Datum} (h : d.kind = 4) : canon d = list (canons d.kids) := by cases d; simp only [Datum.kind] at h; subst h; unfold canon; rfl
mutual
theorem same_canon : ∀ (d : Datum), OkD d → same d (canon d) = true
  | .mk k n s st lb ks, h => by
    have hk := (okD_iff _).1 h
    simp only [Datum.kind, Datum.num, Datum.name, Datum.stamp, Datum.lib, Datum.kids] at hk
    rcases hk with ⟨rfl, _⟩ | ⟨rfl, _⟩ | ⟨rfl, _, rfl, rfl⟩ | ⟨rfl, hok⟩
    · unfold canon; simp [num, same]
    · unfold canon; simp [truth, same]
    · unfold canon; simp [sym, same]
    · unfold canon
      simp only [show ¬ ((4 : Int) = 1) by decide, show ¬ ((4 : Int) = 2) by decide, show ¬ ((4 : Int) = 3) by decide, if_false, if_true]
      unfold list same
      simp
      exact sames_canon ks hok
theorem sames_canon : ∀ (ds : List Datum), OkL ds → sames ds (canons ds) = true
  | [], _ => by unfold canons sames; rfl
  | d :: ds, h => by
    unfold OkL at h
    unfold canons sames
    rw [same_canon d h.1, sames_canon ds h.2]
    rfl
end
mutual
theorem same_refl : ∀ (d : Datum), same d d = true
  | .mk k n s st lb ks => by
    unfold same
    rw [sames_refl ks]
    simp
theorem sames_refl : ∀ (ds : List Datum), sames ds ds = true
  | [] => by unfold sames; rfl
  | d :: ds => by
    unfold sames
    rw [same_refl d, sames_refl ds]
    rfl
end

/-! ### what stands behind a datum -/
/-- what ends a symbol -/
def Ends (r : List UInt8) : Prop := ∀ x, r.head? = some x → letter x = false
theorem take_ends {s r : List UInt8} (hs : s.all letter = true) (hr : Ends r) : (s ++ r).takeWhile letter = s ∧ (s ++ r).dropWhile letter = r := by
  induction s with
  | nil =>
    cases r with
    | nil => simp
    | cons x r => have := hr x rfl; simp [this]
  | cons c s ih =>
    simp only [List.all_cons, Bool.and_eq_true] at hs
    have := ih hs.2
    simp [hs.1, this]
theorem letter_not {c : UInt8} (h : letter c = true) : ¬ c = 40 ∧ ¬ c = 39 ∧ ¬ c = 35 ∧ ¬ c = 32 ∧ ¬ c = 9 ∧ ¬ c = 10 ∧ ¬ c = 59 ∧ ¬ c = 41 := by
  refine ⟨?_, ?_, ?_, ?_, ?_, ?_, ?_, ?_⟩ <;> (rintro rfl; revert h; decide)
/-- a datum's first sign -/
def Starts (r : List UInt8) : Prop := ∃ c l, r = c :: l ∧ ¬ c = 32 ∧ ¬ c = 9 ∧ ¬ c = 10 ∧ ¬ c = 59 ∧ ¬ c = 41
theorem Starts.append {r t : List UInt8} (h : Starts r) : Starts (r ++ t) := by
  obtain ⟨c, l, rfl, hc⟩ := h
  exact ⟨c, l ++ t, rfl, hc⟩
theorem Starts.skip {r : List UInt8} (h : Starts r) : skip false r = r := by
  obtain ⟨c, l, rfl, h1, h2, h3, h4, h5⟩ := h
  unfold Tx.skip
  rw [if_neg (by simp [h1, h2, h3]), if_neg h4]
theorem write_starts {d : Datum} (h : OkD d) : Starts (write d) := by
  have letters : ∀ s : List UInt8, s.all letter = true → s ≠ [] → Starts s := by
    intro s hs hne
    cases s with
    | nil => exact absurd rfl hne
    | cons c l =>
      simp only [List.all_cons, Bool.and_eq_true] at hs
      obtain ⟨_, _, _, h1, h2, h3, h4, h5⟩ := letter_not hs.1
      exact ⟨c, l, rfl, h1, h2, h3, h4, h5⟩
  rcases (okD_iff d).1 h with ⟨hk, _, _⟩ | ⟨hk, _⟩ | ⟨hk, hn, _⟩ | ⟨hk, _⟩
  · rw [write_num hk]
    obtain ⟨_, _, h3, h4⟩ := itoa_facts d.num
    exact letters _ h3 h4
  · rw [write_truth hk]
    split <;> exact ⟨35, _, rfl, by decide, by decide, by decide, by decide, by decide⟩
  · rw [write_sym hk]
    unfold named at hn
    simp only [Bool.and_eq_true, decide_eq_true_eq] at hn
    exact letters _ hn.1.2 (by intro e; rw [e] at hn; simp at hn)
  · rw [write_list hk]
    exact ⟨40, _, rfl, by decide, by decide, by decide, by decide, by decide⟩
end Tx
end Go.Proofs.YtchjbkokjilobaaDoor
