/- Plain laws: what the three statements ask. -/
import Derived.Test.YtchjbkokjilobaaDoorTextZc
namespace Go.Proofs.YtchjbkokjilobaaDoor
set_option linter.unusedVariables false
namespace Tx

/-! ### a fault has a number -/
theorem atom_err {s : List UInt8} {a : Int} {e : Int × Int} (h : atom s a = .error e) : e.1 ≠ 0 := by
  unfold atom at h
  split at h
  · split at h
    · injection h with h; subst h; simp
    · split at h
      · injection h with h; subst h; simp
      · cases h
  · split at h
    · injection h with h; subst h; simp
    · cases h
theorem items_err {S f : Nat} (ih : ∀ r n e, datum S f r n = .error e → e.1 ≠ 0) : ∀ (m : Nat) (r : List UInt8) (n : Nat) (e : Int × Int), r.length < m → items S (datum S f) m r n = .error e → e.1 ≠ 0
  | 0, r, n, e, hm, h => by omega
  | m + 1, r, n, e, hm, h => by
    have hsl := skip_le false r
    unfold items at h
    split at h
    · injection h with h; subst h; simp
    · rename_i c l hsk
      rw [hsk] at hsl
      split at h
      · cases h
      · split at h
        · rename_i e1 hd
          injection h with h
          subst h
          exact ih _ _ _ hd
        · rename_i d r1 n1 hd
          have hlt := datum_lt _ _ _ _ _ _ hd
          split at h
          · rename_i e1 hi
            injection h with h
            subst h
            exact items_err ih m r1 n1 _ (by omega) hi
          · cases h
theorem datum_err {S : Nat} : ∀ (f : Nat) (r : List UInt8) (n : Nat) (e : Int × Int), datum S f r n = .error e → e.1 ≠ 0
  | 0, r, n, e, h => by rw [datum_zero] at h; injection h with h; subst h; simp
  | f + 1, r, n, e, h => by
    rcases Nat.lt_or_ge 2000 (n + 1) with hn | hn
    · rw [datum_full hn] at h; injection h with h; subst h; simp
    cases r with
    | nil => rw [datum_none hn] at h; injection h with h; subst h; simp
    | cons c l =>
      by_cases h1 : c = 40
      · subst h1
        rw [datum_open hn] at h
        cases hi : items S (datum S f) (l.length + 1) l (n + 1) with
        | error e1 =>
          rw [hi] at h
          injection h with h
          subst h
          exact items_err (fun r n e h => datum_err f r n e h) _ _ _ _ (by omega) hi
        | ok x => rw [hi] at h; obtain ⟨a, b, c⟩ := x; cases h
      by_cases h2 : c = 39
      · subst h2
        by_cases hq : 2000 < n + 2 ∨ f = 0
        · rw [datum_quoted_no hn hq] at h; injection h with h; subst h; simp
        · rw [datum_quoted hn hq] at h
          cases hi : datum S f (skip false l) (n + 2) with
          | error e1 =>
            rw [hi] at h
            injection h with h
            subst h
            exact datum_err f _ _ _ hi
          | ok x => rw [hi] at h; obtain ⟨a, b, c⟩ := x; cases h
      by_cases h3 : c = 35
      · subst h3
        cases l with
        | nil => rw [datum_hash_nil hn] at h; injection h with h; subst h; simp
        | cons t l' =>
          rw [datum_hash_cons hn] at h
          split at h
          · cases h
          · injection h with h; subst h; simp
      cases h4 : letter c with
      | true =>
        rw [datum_atomic hn h4] at h
        cases ha : atom ((c :: l).takeWhile letter) ((S : Int) - (c :: l).length) with
        | error e1 =>
          rw [ha] at h
          injection h with h
          subst h
          exact atom_err ha
        | ok x => rw [ha] at h; cases h
      | false => rw [datum_strange hn h1 h2 h3 h4] at h; injection h with h; subst h; simp
theorem reads_err {S : Nat} : ∀ (m : Nat) (r : List UInt8) (n : Nat) (e : Int × Int), r.length < m → reads S m r n = .error e → e.1 ≠ 0
  | 0, r, n, e, hm, h => by omega
  | m + 1, r, n, e, hm, h => by
    cases r with
    | nil => unfold reads at h; cases h
    | cons c l =>
      rw [reads_more] at h
      split at h
      · rename_i e1 hd
        injection h with h
        subst h
        exact datum_err 40 _ _ _ hd
      · rename_i d r1 n1 hd
        have hlt := datum_lt _ _ _ _ _ _ hd
        have hsl := skip_le false r1
        split at h
        · rename_i e1 hi
          injection h with h
          subst h
          exact reads_err m _ n1 _ (by omega) hi
        · cases h
theorem read_err {s : List UInt8} {e : Int × Int} (h : read s = .error e) : e.1 ≠ 0 := by
  unfold read at h
  split at h
  · injection h with h; subst h; simp
  · exact reads_err _ _ _ _ (by have := skip_le false s; omega) h

mutual
theorem SmallD.mono {S S' : Nat} (h : S ≤ S') : ∀ {d : Datum}, SmallD S d → SmallD S' d
  | .mk k n s st lb ks, hd => by
    unfold SmallD at hd ⊢
    exact ⟨by omega, by omega, SmallL.mono h hd.2.2⟩
theorem SmallL.mono {S S' : Nat} (h : S ≤ S') : ∀ {ds : List Datum}, SmallL S ds → SmallL S' ds
  | [], _ => by unfold SmallL; trivial
  | d :: ds, hd => by
    unfold SmallL at hd ⊢
    exact ⟨SmallD.mono h hd.1, SmallL.mono h hd.2⟩
end
/-! ### the statements -/
theorem print_ok {l : List Datum} (h : (print l).2.1 = 0) : (wrong l).1 = 0 ∧ (lines l).length ≤ 6000 ∧ (print l).1 = lines l := by
  unfold print at h ⊢
  split at h
  · rename_i h0
    split at h
    · simp at h
    · rename_i h1
      rw [if_pos h0, if_neg h1]
      exact ⟨h0, by omega, rfl⟩
  · rename_i h0
    exact absurd h h0
/-- what is written is read, and is the same -/
theorem print_read {l : List Datum} (h : (print l).2.1 = 0) : read (print l).1 = .ok (canons l) ∧ sames l (canons l) = true := by
  obtain ⟨h0, h1, h2⟩ := print_ok h
  rw [h2]
  exact ⟨read_lines h0 h1, sames_canon l (wrong_ok h0).2.1⟩
theorem print_right {l : List Datum} (h : (wrong l).1 = 0) : (print l).2.1 = 0 ∨ (print l).2.1 = 4 := by
  unfold print
  rw [if_pos h]
  split
  · exact .inr rfl
  · exact .inl rfl
theorem reads_len {S : Nat} : ∀ (m : Nat) (r : List UInt8) (n : Nat) (ds : List Datum), reads S m r n = .ok ds → ds.length ≤ r.length
  | 0, r, n, ds, h => by simp [reads] at h
  | m + 1, r, n, ds, h => by
    cases r with
    | nil => unfold reads at h; injection h with h; subst h; simp
    | cons c l =>
      rw [reads_more] at h
      split at h
      · cases h
      · rename_i d r1 n1 hd
        have hlt := datum_lt _ _ _ _ _ _ hd
        have hsl := skip_le false r1
        split at h
        · cases h
        · rename_i ds1 hi
          have := reads_len m _ _ _ hi
          injection h with h
          subst h
          simp at hlt ⊢
          omega
theorem print_cases {l : List Datum} (h : (wrong l).1 = 0) : print l = ([], (4, 0)) ∨ (print l = (lines l, (0, 0)) ∧ (lines l).length ≤ 6000) := by
  unfold print
  rw [if_pos h]
  split
  · exact .inl rfl
  · rename_i h1
    exact .inr ⟨rfl, by omega⟩
/-- two texts -/
theorem read_joined {s t : List UInt8} {a b : List Datum} (ha : read s = .ok a) (hb : read t = .ok b) (hl : s.length + t.length + 1 ≤ 6000) :
    read (s ++ 10 :: t) = .ok (a ++ b) ∨ ∃ x, read (s ++ 10 :: t) = .error (4, x) := by
  have hla := (read_right ha).2.2
  unfold read at ha hb
  rw [if_neg (by omega)] at ha hb
  obtain ⟨n1, _, h2, h3⟩ := reads_moved _ s 0 a (by omega) ha
  obtain ⟨n2, k1, k2, k3⟩ := reads_moved _ t 0 b (by omega) hb
  unfold read
  rw [if_neg (by simp; omega)]
  generalize hS : (s ++ 10 :: t).length = S
  obtain ⟨x1, x2⟩ := h3 S 0 (S + 1) (10 :: t) (.inr ⟨t, rfl⟩) (by omega) (by
    have := reads_len _ _ _ _ ha
    have := skip_le false s
    simp at hS
    omega)
  obtain ⟨m'', e1, e2⟩ := x1 (by omega)
  rw [Nat.add_zero] at e2
  rw [e2]
  simp only [Tx.rest, Nat.add_zero]
  have hbl : b.length < m'' := by
    have h1 := reads_len _ _ _ _ ha
    have h2 := reads_len _ _ _ _ hb
    have := skip_le false s
    have := skip_le false t
    simp at hS
    omega
  obtain ⟨y1, y2⟩ := k3 S n1 m'' [] (.inl rfl) (by omega) hbl
  rw [List.append_nil, Nat.zero_add] at y1 y2
  rcases Nat.lt_or_ge 2000 (n2 + n1) with hc | hc
  · obtain ⟨x, hx⟩ := y2 hc
    rw [hx]
    exact .inr ⟨x, rfl⟩
  · obtain ⟨q, z1, z2⟩ := y1 hc
    rw [z2]
    left
    have : reads S q (Tx.rest []) (n2 + n1) = .ok [] := by
      obtain ⟨q, rfl⟩ : ∃ p, q = p + 1 := ⟨q - 1, by omega⟩
      rfl
    rw [this]
    simp [aheads]
theorem skip_note2 : ∀ (note r : List UInt8), (∀ c ∈ note, ¬ c = 10) → skip true (note ++ 10 :: r) = skip false r
  | [], r, _ => by
    show skip true (10 :: r) = skip false r
    conv => lhs; unfold skip
    rfl
  | c :: note, r, h => by
    rw [List.cons_append]
    conv => lhs; unfold skip
    rw [if_neg (h c (by simp))]
    exact skip_note2 note r (fun x hx => h x (by simp [hx]))
theorem skip_note3 : ∀ (note : List UInt8), (∀ c ∈ note, ¬ c = 10) → skip true note = []
  | [], _ => rfl
  | c :: note, h => by
    conv => lhs; unfold skip
    rw [if_neg (h c (by simp))]
    exact skip_note3 note (fun x hx => h x (by simp [hx]))
theorem skip_semi (r : List UInt8) : skip false (59 :: r) = skip true r := by
  conv => lhs; unfold skip
  rfl
theorem skip_tab (r : List UInt8) : skip false (9 :: r) = skip false r := by
  conv => lhs; unfold skip
  rfl
/-- notes and blanks -/
theorem read_blank {s note : List UInt8} {a : List Datum} (ha : read s = .ok a) (hn : ∀ c ∈ note, ¬ c = 10) (hl : s.length + 2 * note.length + 6 ≤ 6000) :
    read (59 :: (note ++ 10 :: 32 :: 9 :: (s ++ 10 :: 59 :: note))) = .ok a := by
  unfold read at ha
  rw [if_neg (by omega)] at ha
  obtain ⟨n1, _, h2, h3⟩ := reads_moved _ s 0 a (by omega) ha
  unfold read
  rw [if_neg (by simp; omega), skip_semi, skip_note2 note _ hn, skip_blank32, skip_tab]
  generalize hS : (59 :: (note ++ 10 :: 32 :: 9 :: (s ++ 10 :: 59 :: note)) : List UInt8).length = S
  have hal := reads_len _ _ _ _ ha
  have hsl := skip_le false s
  obtain ⟨x1, x2⟩ := h3 S 0 (S + 1) (10 :: 59 :: note) (.inr ⟨_, rfl⟩) (by omega) (by simp at hS; omega)
  obtain ⟨m'', e1, e2⟩ := x1 (by omega)
  rw [Nat.add_zero] at e2
  rw [e2]
  have hr : Tx.rest (10 :: 59 :: note) = [] := by
    show skip false (59 :: note) = []
    rw [skip_semi, skip_note3 note hn]
  rw [hr]
  have : reads S m'' [] (n1 + 0) = .ok [] := by
    obtain ⟨q, rfl⟩ : ∃ p, m'' = p + 1 := ⟨m'' - 1, by simp at hS; omega⟩
    rfl
  rw [this]
  simp [aheads]
end Tx
end Go.Proofs.YtchjbkokjilobaaDoor
