/- Plain laws: what is written of data is read back. -/
import Derived.Test.YtchjbkokjilobaaDoorTextZ
import Derived.Test.YtchjbkokjilobaaDoorTextF
namespace Go.Proofs.YtchjbkokjilobaaDoor
set_option linter.unusedVariables false
namespace Tx

theorem datum_atomic {S f n : Nat} {c : UInt8} {l : List UInt8} (h : n + 1 ≤ 2000) (h4 : letter c = true) :
    datum S (f + 1) (c :: l) n = atomOut ((c :: l).dropWhile letter) (n + 1) (atom ((c :: l).takeWhile letter) ((S : Int) - (c :: l).length)) := by
  obtain ⟨h1, h2, h3, _⟩ := letter_not h4
  conv => lhs; unfold datum
  rw [if_neg (by omega)]
  simp only [h1, h2, h3, h4, if_false, if_true]
  cases atom ((c :: l).takeWhile letter) ((S : Int) - (c :: l).length) with
  | error e => rfl
  | ok x => rfl
theorem datum_letters {S f n : Nat} {s r : List UInt8} (h : n + 1 ≤ 2000) (hs : s.all letter = true) (hne : s ≠ []) (hr : Ends r) :
    datum S (f + 1) (s ++ r) n = atomOut r (n + 1) (atom s ((S : Int) - (s ++ r).length)) := by
  obtain ⟨h1, h2⟩ := take_ends hs hr
  cases s with
  | nil => exact absurd rfl hne
  | cons c l =>
    have hc : letter c = true := by
      simp only [List.all_cons, Bool.and_eq_true] at hs
      exact hs.1
    rw [List.cons_append] at h1 h2 ⊢
    rw [datum_atomic h hc, h1, h2]
theorem datum_hash_yes {S f n : Nat} {t : UInt8} {r : List UInt8} (h : n + 1 ≤ 2000) (ht : t = 116 ∨ t = 102) (hr : Ends r) :
    datum S (f + 1) (35 :: t :: r) n = .ok (truth (if t = 116 then 1 else 0), r, n + 1) := by
  conv => lhs; unfold datum
  rw [if_neg (by omega)]
  simp only [show ¬ ((35 : UInt8) = 40) by decide, show ¬ ((35 : UInt8) = 39) by decide, if_false, if_true]
  exact if_pos ⟨ht, hr⟩
theorem ends_cons {c : UInt8} {r : List UInt8} (h : letter c = false) : Ends (c :: r) := fun x hx => by simp at hx; subst hx; exact h
theorem ends_writes (ds : List Datum) (r0 : List UInt8) : Ends (writes false ds ++ 41 :: r0) := by
  cases ds with
  | nil => unfold writes; exact ends_cons (by decide)
  | cons d ds => unfold writes; exact ends_cons (by decide)

theorem writes_cons (b : Bool) (d : Datum) (ds : List Datum) : writes b (d :: ds) = (if b then [] else [32]) ++ (write d ++ writes false ds) := by conv => lhs; unfold writes
theorem lines_cons (d : Datum) (ds : List Datum) : lines (d :: ds) = write d ++ (10 :: lines ds) := by
  conv => lhs; unfold lines
  simp
theorem canons_cons (d : Datum) (ds : List Datum) : canons (d :: ds) = canon d :: canons ds := by conv => lhs; unfold canons
theorem items_shut {S q n : Nat} {rd : List UInt8 → Nat → Res (Datum × List UInt8 × Nat)} {r l : List UInt8} (h : skip false r = 41 :: l) : items S rd (q + 1) r n = .ok ([], l, n) := by
  simp [items, h]
theorem skip_blank32 (r : List UInt8) : skip false (32 :: r) = skip false r := by
  conv => lhs; unfold skip
  simp

theorem items_write {S f : Nat} (ih : ∀ d n, (shape f d n).1 = 0 → ∀ r0, Ends r0 → datum S f (write d ++ r0) n = .ok (canon d, r0, (shape f d n).2)) :
    ∀ (ds : List Datum) (b : Bool) (n m : Nat) (r0 : List UInt8), (shapes (shape f) ds n).1 = 0 → ds.length < m → items S (datum S f) m (writes b ds ++ 41 :: r0) n = .ok (canons ds, r0, (shapes (shape f) ds n).2)
  | [], b, n, m, r0, h, hm => by
    obtain ⟨m, rfl⟩ : ∃ m', m = m' + 1 := ⟨m - 1, by omega⟩
    have hw : writes b [] = [] := by unfold writes; rfl
    rw [hw, List.nil_append, items_shut (l := r0) (by unfold skip; rfl)]
    unfold canons shapes
    rfl
  | d :: ds, b, n, m, r0, h, hm => by
    obtain ⟨m, rfl⟩ : ∃ m', m = m' + 1 := ⟨m - 1, by omega⟩
    unfold shapes at h
    split at h
    case isFalse h0 => exact absurd h h0
    rename_i h0
    obtain ⟨hok, _, _⟩ := shape_ok f d n h0
    have hst : Starts (write d ++ (writes false ds ++ 41 :: r0)) := (write_starts hok).append
    have hsk : skip false (writes b (d :: ds) ++ 41 :: r0) = write d ++ (writes false ds ++ 41 :: r0) := by
      rw [writes_cons]
      cases b with
      | true => simp only [if_true, List.nil_append, List.append_assoc]; exact hst.skip
      | false =>
        simp only [Bool.false_eq_true, if_false, List.cons_append, List.nil_append, List.append_assoc]
        rw [skip_blank32]
        exact hst.skip
    obtain ⟨c, l, hcl, _, _, _, _, h41⟩ := hst
    rw [hcl] at hsk
    rw [items_more hsk h41, ← hcl, ih d n h0 _ (ends_writes ds r0)]
    simp only
    rw [items_write ih ds false _ m r0 h (by simpa using hm)]
    conv => rhs; unfold canons shapes
    rw [if_pos h0]

theorem writes_len : ∀ (b : Bool) (ds : List Datum), OkL ds → ds.length ≤ (writes b ds).length
  | b, [], _ => by simp
  | b, d :: ds, h => by
    unfold OkL at h
    have := writes_len false ds h.2
    obtain ⟨c, l, hcl, _⟩ := write_starts h.1
    unfold writes
    rw [hcl]
    simp
    omega

theorem datum_write {S : Nat} : ∀ (f : Nat) (d : Datum) (n : Nat), (shape f d n).1 = 0 → ∀ r0, Ends r0 → datum S f (write d ++ r0) n = .ok (canon d, r0, (shape f d n).2)
  | 0, d, n, h => by simp [shape] at h
  | f + 1, d, n, h => by
    intro r0 hr
    obtain ⟨hok, _, _⟩ := shape_ok (f + 1) d n h
    unfold shape at h ⊢
    split at h
    · simp at h
    rename_i hn
    rw [if_neg hn]
    have hn1 : n + 1 ≤ 2000 := by omega
    rcases (okD_iff d).1 hok with ⟨hk, h0, h1⟩ | ⟨hk, hnum⟩ | ⟨hk, hnm, hst, hlb⟩ | ⟨hk, hkids⟩
    · rw [if_pos hk, write_num hk, canon_num hk]
      obtain ⟨i1, i2, i3, i4⟩ := itoa_facts d.num
      rw [datum_letters hn1 i3 i4 hr]
      unfold atom
      rw [if_pos i1, if_neg (by have := itoa_len h0 h1; omega), i2, if_neg (by omega)]
      rfl
    · rw [if_neg (by rw [hk]; decide), if_pos hk, write_truth hk, canon_truth hk]
      rcases hnum with h0 | h0
      · rw [h0, if_pos rfl]
        exact datum_hash_yes hn1 (.inr rfl) hr
      · rw [h0, if_neg (by decide)]
        exact datum_hash_yes hn1 (.inl rfl) hr
    · rw [if_neg (by rw [hk]; decide), if_neg (by rw [hk]; decide), if_pos hk, write_sym hk, canon_sym hk]
      have hn2 := hnm
      unfold named at hn2
      simp only [Bool.and_eq_true, decide_eq_true_eq, Bool.not_eq_true'] at hn2
      obtain ⟨⟨⟨k1, k2⟩, k3⟩, k4⟩ := hn2
      rw [datum_letters hn1 k3 (by intro e; rw [e] at k1; simp at k1) hr]
      unfold atom
      rw [if_neg (by rw [k4]; decide), if_neg (by omega)]
      rfl
    · rw [if_neg (by rw [hk]; decide), if_neg (by rw [hk]; decide), if_neg (by rw [hk]; decide), if_pos hk, write_list hk, canon_list hk]
      rw [if_neg (by rw [hk]; decide), if_neg (by rw [hk]; decide), if_neg (by rw [hk]; decide), if_pos hk] at h
      have hw : 40 :: (writes true d.kids ++ [41]) ++ r0 = 40 :: (writes true d.kids ++ 41 :: r0) := by simp
      rw [hw, datum_open hn1, items_write (fun d n h r0 hr => datum_write f d n h r0 hr) d.kids true (n + 1) _ r0 h (by
        have := writes_len true d.kids hkids
        simp
        omega)]
      rfl

theorem skip_line (r : List UInt8) : skip false (10 :: r) = skip false r := by
  conv => lhs; unfold skip
  simp
theorem reads_lines {S : Nat} : ∀ (ds : List Datum) (n m : Nat), (shapes (shape 40) ds n).1 = 0 → ds.length < m → reads S m (skip false (lines ds)) n = .ok (canons ds)
  | [], n, m, h, hm => by
    obtain ⟨m, rfl⟩ : ∃ m', m = m' + 1 := ⟨m - 1, by omega⟩
    unfold lines canons
    rfl
  | d :: ds, n, m, h, hm => by
    obtain ⟨m, rfl⟩ : ∃ m', m = m' + 1 := ⟨m - 1, by omega⟩
    unfold shapes at h
    split at h
    case isFalse h0 => exact absurd h h0
    rename_i h0
    obtain ⟨hok, _, _⟩ := shape_ok 40 d n h0
    have hst : Starts (write d ++ (10 :: lines ds)) := (write_starts hok).append
    have he := lines_cons d ds
    rw [he, hst.skip]
    obtain ⟨c, l, hcl, _⟩ := hst
    rw [hcl, reads_more, ← hcl, datum_write 40 d n h0 _ (ends_cons (by decide))]
    simp only
    rw [skip_line, reads_lines ds _ m h (by simpa using hm), canons_cons]
theorem lines_len : ∀ (ds : List Datum), OkL ds → ds.length ≤ (lines ds).length
  | [], _ => by simp
  | d :: ds, h => by
    unfold OkL at h
    have := lines_len ds h.2
    unfold lines
    simp
    omega
/-- what is written is read -/
theorem read_lines {ds : List Datum} (h : (wrong ds).1 = 0) (hl : (lines ds).length ≤ 6000) : read (lines ds) = .ok (canons ds) := by
  obtain ⟨_, hs, _⟩ := wrongs_ok ds 0 0 (by omega) h
  obtain ⟨_, hok, _⟩ := wrong_ok h
  unfold read
  rw [if_neg (by omega)]
  exact reads_lines ds 0 _ hs (by have := lines_len ds hok; omega)
end Tx
end Go.Proofs.YtchjbkokjilobaaDoor
