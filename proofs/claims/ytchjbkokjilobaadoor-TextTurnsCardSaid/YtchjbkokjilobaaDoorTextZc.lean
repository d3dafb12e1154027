/- Plain laws: a text with more lines behind it, and with more counted ahead. -/
import Derived.Test.YtchjbkokjilobaaDoorTextZb
namespace Go.Proofs.YtchjbkokjilobaaDoor
set_option linter.unusedVariables false
namespace Tx

/-- nothing, or a line's end and more -/
def Sep (u : List UInt8) : Prop := u = [] ∨ ∃ t, u = 10 :: t
/-- what is read of it -/
def rest : List UInt8 → List UInt8
  | [] => []
  | _ :: t => skip false t
theorem skip_append {u : List UInt8} (hu : Sep u) : ∀ (b : Bool) (r : List UInt8), skip b (r ++ u) = if skip b r = [] then rest u else skip b r ++ u
  | b, [] => by
    have h0 : skip b [] = [] := by cases b <;> rfl
    rw [h0, if_pos rfl, List.nil_append]
    rcases hu with rfl | ⟨t, rfl⟩
    · exact h0
    · cases b with
      | true => conv => lhs; unfold skip
                rfl
      | false => exact skip_line t
  | false, c :: l => by
    rw [List.cons_append]
    have h1 := skip_append hu false l
    have h2 := skip_append hu true l
    by_cases hb : c = 32 ∨ c = 9 ∨ c = 10
    · have e1 : ∀ x, skip false (c :: x) = skip false x := fun x => by conv => lhs; unfold skip
                                                                       rw [if_pos hb]
      rw [e1, e1, h1]
    · by_cases hn : c = 59
      · have e1 : ∀ x, skip false (c :: x) = skip true x := fun x => by conv => lhs; unfold skip
                                                                        rw [if_neg hb, if_pos hn]
        rw [e1, e1, h2]
      · have e1 : ∀ x, skip false (c :: x) = c :: x := fun x => by conv => lhs; unfold skip
                                                                   rw [if_neg hb, if_neg hn]
        rw [e1, e1, if_neg (by simp)]
        rfl
  | true, c :: l => by
    rw [List.cons_append]
    have h1 := skip_append hu false l
    have h2 := skip_append hu true l
    by_cases hb : c = 10
    · have e1 : ∀ x, skip true (c :: x) = skip false x := fun x => by conv => lhs; unfold skip
                                                                      rw [if_pos hb]
      rw [e1, e1, h1]
    · have e1 : ∀ x, skip true (c :: x) = skip true x := fun x => by conv => lhs; unfold skip
                                                                     rw [if_neg hb]
      rw [e1, e1, h2]
theorem ends_sep {u : List UInt8} (hu : Sep u) {l : List UInt8} (h : Ends l) : Ends (l ++ u) := by
  cases l with
  | nil =>
    rcases hu with rfl | ⟨t, rfl⟩
    · exact h
    · exact ends_cons (by decide)
  | cons c l => exact fun x hx => h x hx
theorem unends_sep {u : List UInt8} {l : List UInt8} (h : ¬ Ends l) : ¬ Ends (l ++ u) := by
  cases l with
  | nil => exact absurd (fun x hx => by simp at hx) h
  | cons c l => exact fun h' => h (fun x hx => h' x hx)
theorem while_sep {u : List UInt8} (hu : Sep u) : ∀ (r : List UInt8), (r ++ u).takeWhile letter = r.takeWhile letter ∧ (r ++ u).dropWhile letter = r.dropWhile letter ++ u
  | [] => by
    rcases hu with rfl | ⟨t, rfl⟩
    · simp
    · have : letter 10 = false := by decide
      simp [this]
  | c :: l => by
    have ih := while_sep hu l
    rw [List.cons_append, List.takeWhile_cons, List.takeWhile_cons, List.dropWhile_cons, List.dropWhile_cons]
    split
    · rw [ih.1, ih.2]; exact ⟨rfl, rfl⟩
    · exact ⟨rfl, rfl⟩
theorem atom_any_at {s : List UInt8} {a : Int} {d : Datum} (h : atom s a = .ok d) (a' : Int) : atom s a' = .ok d := by
  unfold atom at h ⊢
  split at h
  · rename_i h1
    rw [if_pos h1]
    split at h
    · cases h
    · rename_i h2
      rw [if_neg h2]
      split at h
      · cases h
      · rename_i h3
        rw [if_neg h3]
        exact h
  · rename_i h1
    rw [if_neg h1]
    split at h
    · cases h
    · rename_i h2
      rw [if_neg h2]
      exact h

/-- the same with more behind and more counted, or too much -/
def Moved {α : Type} (x : Res α) (y : α) (c : Nat) : Prop := (c ≤ 2000 → x = .ok y) ∧ (2000 < c → ∃ a, x = .error (4, a))

theorem items_count {S f : Nat} (m : Nat) (r : List UInt8) (n : Nat) (ds : List Datum) (r' : List UInt8) (n' : Nat) (h : items S (datum S f) m r n = .ok (ds, r', n')) : n ≤ n' := by
  have := (items_shape (fun r n d r' n' h => datum_shape f r n d r' n' h) m r n ds r' n' h).2.2.1
  omega
theorem items_moved {S S' f k : Nat} {u : List UInt8} (hu : Sep u)
    (ih : ∀ r n d r' n', datum S f r n = .ok (d, r', n') → Moved (datum S' f (r ++ u) (n + k)) (d, r' ++ u, n' + k) (n' + k)) :
    ∀ (m m' : Nat) (r : List UInt8) (n : Nat) (ds : List Datum) (r' : List UInt8) (n' : Nat), m ≤ m' → n + k ≤ 2000 → items S (datum S f) m r n = .ok (ds, r', n') → Moved (items S' (datum S' f) m' (r ++ u) (n + k)) (ds, r' ++ u, n' + k) (n' + k)
  | 0, m', r, n, ds, r', n', _, _, h => by simp [items] at h
  | m + 1, m', r, n, ds, r', n', hm, hn, h => by
    obtain ⟨m', rfl⟩ : ∃ q, m' = q + 1 := ⟨m' - 1, by omega⟩
    unfold items at h
    split at h
    · cases h
    · rename_i c l hsk
      have hsk2 : skip false (r ++ u) = c :: (l ++ u) := by rw [skip_append hu, hsk, if_neg (by simp)]; rfl
      split at h
      · rename_i hc
        injection h with h
        injection h with h1 h
        injection h with h2 h3
        subst h1 h2 h3 hc
        rw [items_shut hsk2]
        exact ⟨fun _ => rfl, fun h => by omega⟩
      · rename_i hc
        split at h
        · cases h
        · rename_i d r1 n1 hd
          have hmv := ih _ _ _ _ _ hd
          rw [List.cons_append] at hmv
          rw [items_more hsk2 hc]
          split at h
          · cases h
          · rename_i ds1 r2 n2 hi
            injection h with h
            injection h with e1 h
            injection h with e2 e3
            subst e1 e2 e3
            have hge : n1 ≤ n2 := by
              have := items_count m r1 n1 _ _ _ hi
              exact this
            rcases Nat.lt_or_ge 2000 (n1 + k) with hb | hb
            · obtain ⟨a, ha⟩ := hmv.2 hb
              rw [ha]
              exact ⟨fun h => by omega, fun _ => ⟨a, rfl⟩⟩
            · rw [hmv.1 hb]
              simp only
              have hrec := items_moved hu ih m m' r1 n1 ds1 r2 n2 (by omega) hb hi
              refine ⟨fun hc => ?_, fun hc => ?_⟩
              · rw [hrec.1 hc]
              · obtain ⟨a, ha⟩ := hrec.2 hc
                rw [ha]
                exact ⟨a, rfl⟩

theorem datum_moved {S S' k : Nat} {u : List UInt8} (hu : Sep u) : ∀ (f : Nat) (r : List UInt8) (n : Nat) (d : Datum) (r' : List UInt8) (n' : Nat), datum S f r n = .ok (d, r', n') → Moved (datum S' f (r ++ u) (n + k)) (d, r' ++ u, n' + k) (n' + k)
  | 0, r, n, d, r', n', h => by rw [datum_zero] at h; cases h
  | f + 1, r, n, d, r', n', h => by
    have hcount := (datum_shape (f + 1) r n d r' n' h).2.2
    rcases Nat.lt_or_ge 2000 (n + 1) with hn | hn
    · rw [datum_full hn] at h; cases h
    rcases Nat.lt_or_ge 2000 (n + k + 1) with hk | hk
    · rw [datum_full hk]
      exact ⟨fun h => by omega, fun _ => ⟨_, rfl⟩⟩
    cases r with
    | nil => rw [datum_none hn] at h; cases h
    | cons c l =>
      rw [List.cons_append]
      by_cases h1 : c = 40
      · subst h1
        rw [datum_open hn] at h
        rw [datum_open hk]
        cases hi : items S (datum S f) (l.length + 1) l (n + 1) with
        | error e => rw [hi] at h; cases h
        | ok x =>
          obtain ⟨ds, r1, n1⟩ := x
          rw [hi] at h
          simp only [ahead, List.nil_append] at h
          injection h with h
          injection h with e1 h
          injection h with e2 e3
          subst e1 e2 e3
          have := items_moved (S' := S') (k := k) hu (fun r n d r' n' h => datum_moved hu f r n d r' n' h) (l.length + 1) ((l ++ u).length + 1) l (n + 1) ds r1 n1 (by simp) (by omega) hi
          rw [show n + 1 + k = n + k + 1 by omega] at this
          refine ⟨fun hc => by rw [this.1 hc]; rfl, fun hc => ?_⟩
          obtain ⟨a, ha⟩ := this.2 hc
          rw [ha]
          exact ⟨a, rfl⟩
      by_cases h2 : c = 39
      · subst h2
        by_cases hq : 2000 < n + 2 ∨ f = 0
        · rw [datum_quoted_no hn hq] at h; cases h
        · rw [datum_quoted hn hq] at h
          cases hi : datum S f (skip false l) (n + 2) with
          | error e => rw [hi] at h; cases h
          | ok x =>
            obtain ⟨x, r1, n1⟩ := x
            rw [hi] at h
            simp only [quoted] at h
            injection h with h
            injection h with e1 h
            injection h with e2 e3
            subst e1 e2 e3
            have hne : skip false l ≠ [] := by
              intro e
              rw [e] at hi
              obtain ⟨f, rfl⟩ : ∃ g, f = g + 1 := ⟨f - 1, by omega⟩
              rcases Nat.lt_or_ge 2000 (n + 2 + 1) with hx | hx
              · rw [datum_full hx] at hi; cases hi
              · rw [datum_none hx] at hi; cases hi
            have hc2 := (datum_shape f _ _ _ _ _ hi).2.2.1
            by_cases hq2 : 2000 < n + k + 2 ∨ f = 0
            · rw [datum_quoted_no hk hq2]
              have hbig : 2000 < n + k + 2 := by
                rcases hq2 with h | h
                · exact h
                · exact absurd (.inr h) hq
              exact ⟨fun h => by omega, fun _ => ⟨_, rfl⟩⟩
            · rw [datum_quoted hk hq2, skip_append hu, if_neg hne]
              have := datum_moved (S' := S') (k := k) hu f _ _ _ _ _ hi
              rw [show n + 2 + k = n + k + 2 by omega] at this
              refine ⟨fun hc => by rw [this.1 hc]; rfl, fun hc => ?_⟩
              obtain ⟨a, ha⟩ := this.2 hc
              rw [ha]
              exact ⟨a, rfl⟩
      by_cases h3 : c = 35
      · subst h3
        cases l with
        | nil => rw [datum_hash_nil hn] at h; cases h
        | cons t l' =>
          rw [datum_hash_cons hn] at h
          rw [List.cons_append, datum_hash_cons hk]
          split at h
          · rename_i hc
            injection h with h
            injection h with e1 h
            injection h with e2 e3
            subst e1 e2 e3
            rw [if_pos ⟨hc.1, ends_sep hu hc.2⟩]
            exact ⟨fun _ => by rw [show n + 1 + k = n + k + 1 by omega], fun h => by omega⟩
          · cases h
      cases h4 : letter c with
      | true =>
        rw [datum_atomic hn h4] at h
        rw [datum_atomic hk h4]
        cases ha : atom ((c :: l).takeWhile letter) ((S : Int) - (c :: l).length) with
        | error e => rw [ha] at h; cases h
        | ok x =>
          rw [ha] at h
          simp only [atomOut] at h
          injection h with h
          injection h with e1 h
          injection h with e2 e3
          subst e1 e2 e3
          have hw := while_sep hu (c :: l)
          rw [List.cons_append] at hw
          rw [hw.1, hw.2, atom_any_at ha]
          exact ⟨fun _ => by rw [show n + 1 + k = n + k + 1 by omega]; rfl, fun h => by omega⟩
      | false =>
        rw [datum_strange hn h1 h2 h3 h4] at h; cases h

theorem reads_moved {S : Nat} : ∀ (m : Nat) (r : List UInt8) (n : Nat) (ds : List Datum), n ≤ 2000 → reads S m (skip false r) n = .ok ds → ∃ n', n ≤ n' ∧ n' ≤ 2000 ∧ ∀ (S' k m' : Nat) (u : List UInt8), Sep u → n + k ≤ 2000 → ds.length < m' →
    (n' + k ≤ 2000 → ∃ m'', m'' + ds.length = m' ∧ reads S' m' (skip false (r ++ u)) (n + k) = aheads ds (reads S' m'' (rest u) (n' + k))) ∧ (2000 < n' + k → ∃ a, reads S' m' (skip false (r ++ u)) (n + k) = .error (4, a))
  | 0, r, n, ds, hn, h => by simp [reads] at h
  | m + 1, r, n, ds, hn, h => by
    cases hr : skip false r with
    | nil =>
      rw [hr] at h
      unfold reads at h
      injection h with h
      subst h
      refine ⟨n, Nat.le_refl _, hn, fun S' k m' u hu hk hm => ⟨fun _ => ⟨m', rfl, ?_⟩, fun h => by omega⟩⟩
      rw [skip_append hu, hr, if_pos rfl]
      cases reads S' m' (rest u) (n + k) <;> rfl
    | cons c l =>
      rw [hr, reads_more] at h
      split at h
      · cases h
      · rename_i d r1 n1 hd
        have hs := (datum_shape 40 _ _ _ _ _ hd).2.2
        split at h
        · cases h
        · rename_i ds1 hi
          obtain ⟨n', h1, h2, h3⟩ := reads_moved m r1 n1 ds1 hs.2 hi
          injection h with h
          subst h
          refine ⟨n', by omega, h2, fun S' k m' u hu hk hm => ?_⟩
          obtain ⟨m', rfl⟩ : ∃ q, m' = q + 1 := ⟨m' - 1, by omega⟩
          have hmv := datum_moved (S' := S') (k := k) hu 40 _ _ _ _ _ hd
          rw [List.cons_append] at hmv
          rw [skip_append hu, hr, if_neg (by simp), List.cons_append, reads_more]
          rcases Nat.lt_or_ge 2000 (n1 + k) with hb | hb
          · obtain ⟨a, ha⟩ := hmv.2 hb
            rw [ha]
            exact ⟨fun h => by omega, fun _ => ⟨a, rfl⟩⟩
          · rw [hmv.1 hb]
            simp only
            obtain ⟨k1, k2⟩ := h3 S' k m' u hu hb (by simpa using hm)
            refine ⟨fun hc => ?_, fun hc => ?_⟩
            · obtain ⟨m'', e1, e2⟩ := k1 hc
              refine ⟨m'', by simp; omega, ?_⟩
              rw [e2]
              cases reads S' m'' (rest u) (n' + k) <;> rfl
            · obtain ⟨a, ha⟩ := k2 hc
              rw [ha]
              exact ⟨a, rfl⟩
end Tx
end Go.Proofs.YtchjbkokjilobaaDoor
