/- The contract of (*reader).datum, by induction on how much deeper it may go. -/
import Derived.Test.YtchjbkokjilobaaDoorTextN
namespace Go.Proofs.YtchjbkokjilobaaDoor
open Go.RowKit

theorem datum_zero (S : Nat) (r : List UInt8) (n : Nat) : Tx.datum S 0 r n = .error (4, (S : Int) - r.length) := by unfold Tx.datum; rfl
theorem datum_full {S f n : Nat} {r : List UInt8} (h : 2000 < n + 1) : Tx.datum S (f + 1) r n = .error (4, (S : Int) - r.length) := by unfold Tx.datum; exact if_pos h
theorem datum_none {S f n : Nat} (h : n + 1 ≤ 2000) : Tx.datum S (f + 1) [] n = .error (2, (S : Int)) := by unfold Tx.datum; rw [if_neg (by omega)]
theorem datum_open {S f n : Nat} {l : List UInt8} (h : n + 1 ≤ 2000) : Tx.datum S (f + 1) (40 :: l) n = ahead [] (Tx.items S (Tx.datum S f) (l.length + 1) l (n + 1)) := by
  conv => lhs; unfold Tx.datum
  rw [if_neg (by omega)]
  simp only [if_true]
  cases Tx.items S (Tx.datum S f) (l.length + 1) l (n + 1) with
  | error e => rfl
  | ok x => obtain ⟨ds, r, n'⟩ := x; rfl
theorem datum_quoted_no {S f n : Nat} {l : List UInt8} (h : n + 1 ≤ 2000) (h2 : 2000 < n + 2 ∨ f = 0) : Tx.datum S (f + 1) (39 :: l) n = .error (4, (S : Int) - (39 :: l : List UInt8).length) := by
  conv => lhs; unfold Tx.datum
  rw [if_neg (by omega)]
  simp only [show ¬ ((39 : UInt8) = 40) by decide, if_false, if_true]
  rw [if_pos h2]
theorem datum_quoted {S f n : Nat} {l : List UInt8} (h : n + 1 ≤ 2000) (h2 : ¬ (2000 < n + 2 ∨ f = 0)) : Tx.datum S (f + 1) (39 :: l) n = quoted (Tx.datum S f (Tx.skip false l) (n + 2)) := by
  conv => lhs; unfold Tx.datum
  rw [if_neg (by omega)]
  simp only [show ¬ ((39 : UInt8) = 40) by decide, if_false, if_true]
  rw [if_neg h2]
  cases Tx.datum S f (Tx.skip false l) (n + 2) with
  | error e => rfl
  | ok x => obtain ⟨ds, r, n'⟩ := x; rfl
theorem datum_hashed {S f n k : Nat} {l : List UInt8} (h : n + 1 ≤ 2000) (hk : (S : Int) - (35 :: l : List UInt8).length = k) : Tx.datum S (f + 1) (35 :: l) n = hashOut k l n := by
  conv => lhs; unfold Tx.datum
  rw [if_neg (by omega)]
  simp only [show ¬ ((35 : UInt8) = 40) by decide, show ¬ ((35 : UInt8) = 39) by decide, if_false, if_true]
  cases l with
  | nil => simp only [hashOut]; rw [hk]
  | cons t l' => simp only [hashOut]; rw [hk]
theorem datum_lettered {S f n k : Nat} {c : UInt8} {l : List UInt8} (h : n + 1 ≤ 2000) (hk : (S : Int) - (c :: l).length = k) (h1 : ¬ c = 40) (h2 : ¬ c = 39) (h3 : ¬ c = 35) (h4 : Tx.letter c = true) :
    Tx.datum S (f + 1) (c :: l) n = atomOut ((c :: l).dropWhile Tx.letter) (n + 1) (Tx.atom ((c :: l).takeWhile Tx.letter) k) := by
  conv => lhs; unfold Tx.datum
  rw [if_neg (by omega)]
  simp only [h1, h2, h3, h4, if_false, if_true]
  rw [hk]
  cases Tx.atom ((c :: l).takeWhile Tx.letter) k with
  | error e => rfl
  | ok x => rfl
theorem datum_strange {S f n : Nat} {c : UInt8} {l : List UInt8} (h : n + 1 ≤ 2000) (h1 : ¬ c = 40) (h2 : ¬ c = 39) (h3 : ¬ c = 35) (h4 : Tx.letter c = false) :
    Tx.datum S (f + 1) (c :: l) n = .error (2, (S : Int) - (c :: l).length) := by
  conv => lhs; unfold Tx.datum
  rw [if_neg (by omega)]
  simp [h1, h2, h3, h4]

theorem said_datum : ∀ f, f ≤ 41 → SaidDatum f
  | 0, _ => by
    intro s g k n r w hs h hn deep hd
    rw [datum_zero, rd_len h]
    exact (datum_much 0 s g k n r w hs h hn deep (by omega) (.inr (by omega))).mono fun e w' h => h
  | f + 1, hf => by
    have ih : SaidDatum f := said_datum f (by omega)
    intro s g k n r w hs h hn deep hd
    have hk := rd_len h
    rcases Nat.lt_or_ge 2000 (n + 1) with hn1 | hn1
    · rw [datum_full hn1, hk]
      exact (datum_much f s g k n r w hs h hn deep (by omega) (.inl hn1)).mono fun e w' h => h
    cases r with
    | nil =>
      rw [datum_none hn1]
      exact (datum_end s g k n w hs h hn1 deep (by omega) (by omega)).mono fun e w' h => h
    | cons c l =>
      by_cases h1 : c = 40
      · subst h1
        rw [datum_open hn1]
        exact datum_list s g k n l w hs h hn1 deep (by omega) (by omega) f (by omega) (by omega) (Lib.hid ih)
      by_cases h2 : c = 39
      · subst h2
        by_cases hq : 2000 < n + 2 ∨ f = 0
        · rw [datum_quoted_no hn1 hq, hk]
          exact (datum_quote_no s g k n l w hs h hn1 deep (by omega) (by omega) (by omega)).mono fun e w' h => h
        · rw [datum_quoted hn1 hq]
          exact datum_quote s g k n l w hs h hn1 deep (by omega) (by omega) f (by omega) (Lib.hid ih) (by omega) (by omega)
      by_cases h3 : c = 35
      · subst h3
        rw [datum_hashed hn1 hk]
        exact datum_hash s g k n l w hs h hn1 deep (by omega) (by omega)
      cases h4 : Tx.letter c with
      | true =>
        rw [datum_lettered hn1 hk h1 h2 h3 h4]
        exact datum_atom s g k n c l w hs h hn1 deep (by omega) (by omega) h1 h2 h3 h4
      | false =>
        rw [datum_strange hn1 h1 h2 h3 h4, hk]
        exact (datum_other s g k n c l w hs h hn1 deep (by omega) (by omega) h1 h2 h3 h4).mono fun e w' h => h
end Go.Proofs.YtchjbkokjilobaaDoor
