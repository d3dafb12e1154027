/- Plain laws: what is read is right. -/
import Derived.Test.YtchjbkokjilobaaDoorTextZa
namespace Go.Proofs.YtchjbkokjilobaaDoor
set_option linter.unusedVariables false
namespace Tx

theorem small_atom (k n : Int) (s : List UInt8) (h : s.length ≤ 6000) : SmallD 6000 (.mk k n s 0 0 []) := by
  unfold SmallD SmallL
  exact ⟨h, by simp, trivial⟩
theorem shape_of_num {f n : Nat} {v : Int} (hn : n + 1 ≤ 2000) (h0 : -1000000000000000 ≤ v) (h1 : v ≤ 1000000000000000) : shape (f + 1) (num v) n = (0, n + 1) := by
  unfold shape
  rw [if_neg (by omega), if_pos (show (num v).kind = 1 from rfl), if_neg (by simp only [num, Datum.num]; omega)]
theorem shape_of_truth {f n : Nat} {v : Int} (hn : n + 1 ≤ 2000) (h : v = 0 ∨ v = 1) : shape (f + 1) (truth v) n = (0, n + 1) := by
  unfold shape
  rw [if_neg (by omega), if_neg (by simp [truth, Datum.kind]), if_pos (show (truth v).kind = 2 from rfl), if_neg (by simp only [truth, Datum.num]; omega)]
theorem shape_of_sym {f n : Nat} {s : List UInt8} (hn : n + 1 ≤ 2000) (h : named s = true) : shape (f + 1) (sym s) n = (0, n + 1) := by
  unfold shape
  rw [if_neg (by omega), if_neg (by simp [sym, Datum.kind]), if_neg (by simp [sym, Datum.kind]), if_pos (show (sym s).kind = 3 from rfl), if_neg (by simp [sym, Datum.name, h]), if_neg (by simp [sym, Datum.stamp, Datum.lib])]
theorem shape_of_list {f n : Nat} {ds : List Datum} (hn : n + 1 ≤ 2000) : shape (f + 1) (list ds) n = shapes (shape f) ds (n + 1) := by
  conv => lhs; unfold shape
  rw [if_neg (by omega), if_neg (by simp [list, Datum.kind]), if_neg (by simp [list, Datum.kind]), if_neg (by simp [list, Datum.kind]), if_pos (show (list ds).kind = 4 from rfl)]
  rfl
theorem shapes_cons {sh : Datum → Nat → Int × Nat} {d : Datum} {ds : List Datum} {n n' : Nat} (h : sh d n = (0, n')) : shapes sh (d :: ds) n = shapes sh ds n' := by
  conv => lhs; unfold shapes
  rw [h]
  simp

theorem atom_shape {f n : Nat} {s : List UInt8} {a : Int} {d : Datum} (hn : n + 1 ≤ 2000) (hs : s.all letter = true) (hne : s ≠ []) (h : atom s a = .ok d) : shape (f + 1) d n = (0, n + 1) ∧ SmallD 6000 d := by
  unfold atom at h
  split at h
  · split at h
    · cases h
    · split at h
      · cases h
      · injection h with h
        subst h
        exact ⟨shape_of_num hn (by omega) (by omega), small_atom _ _ _ (by simp)⟩
  · rename_i hnum
    split at h
    · cases h
    · injection h with h
      subst h
      refine ⟨shape_of_sym hn ?_, small_atom _ _ _ (by omega)⟩
      unfold named
      have h1 : 1 ≤ s.length := by
        cases s with
        | nil => exact absurd rfl hne
        | cons c l => simp
      simp only [Bool.and_eq_true, decide_eq_true_eq, Bool.not_eq_true']
      exact ⟨⟨⟨h1, by omega⟩, hs⟩, by simpa using hnum⟩
theorem all_takeWhile (r : List UInt8) : (r.takeWhile letter).all letter = true := by
  induction r with
  | nil => rfl
  | cons c l ih =>
    rw [List.takeWhile_cons]
    split
    · rename_i h; simp only [List.all_cons, h, ih]; rfl
    · rfl

theorem items_shape {S f : Nat} (ih : ∀ r n d r' n', datum S f r n = .ok (d, r', n') → shape f d n = (0, n') ∧ SmallD 6000 d ∧ n < n' ∧ n' ≤ 2000) :
    ∀ (m : Nat) (r : List UInt8) (n : Nat) (ds : List Datum) (r' : List UInt8) (n' : Nat), items S (datum S f) m r n = .ok (ds, r', n') → shapes (shape f) ds n = (0, n') ∧ SmallL 6000 ds ∧ ds.length + n ≤ n' ∧ (n ≤ 2000 → n' ≤ 2000)
  | 0, r, n, ds, r', n', h => by simp [items] at h
  | m + 1, r, n, ds, r', n', h => by
    unfold items at h
    split at h
    · cases h
    · rename_i c l hsk
      split at h
      · injection h with h
        injection h with h1 h
        injection h with h2 h3
        subst h1 h3
        refine ⟨by unfold shapes; rfl, by unfold SmallL; trivial, by simp, fun h => h⟩
      · split at h
        · cases h
        · rename_i d r1 n1 hd
          obtain ⟨h1, h2, h3, h4⟩ := ih _ _ _ _ _ hd
          split at h
          · cases h
          · rename_i ds1 r2 n2 hi
            obtain ⟨k1, k2, k3, k4⟩ := items_shape ih m r1 n1 ds1 r2 n2 hi
            injection h with h
            injection h with e1 h
            injection h with e2 e3
            subst e1 e3
            refine ⟨by rw [shapes_cons h1]; exact k1, by unfold SmallL; exact ⟨h2, k2⟩, by simp; omega, fun _ => k4 h4⟩

instance endsDec (r : List UInt8) : Decidable (Ends r) := by unfold Ends; infer_instance
theorem datum_hash_nil {S f n : Nat} (hn : n + 1 ≤ 2000) : datum S (f + 1) [35] n = .error (2, (S : Int) - ([35] : List UInt8).length) := by
  conv => lhs; unfold datum
  rw [if_neg (by omega)]
  simp only [show ¬ ((35 : UInt8) = 40) by decide, show ¬ ((35 : UInt8) = 39) by decide, if_false, if_true]
theorem datum_hash_cons {S f n : Nat} {t : UInt8} {l : List UInt8} (hn : n + 1 ≤ 2000) : datum S (f + 1) (35 :: t :: l) n = if (t = 116 ∨ t = 102) ∧ Ends l then .ok (truth (if t = 116 then 1 else 0), l, n + 1) else .error (2, (S : Int) - (35 :: t :: l : List UInt8).length) := by
  conv => lhs; unfold datum
  rw [if_neg (by omega)]
  simp only [show ¬ ((35 : UInt8) = 40) by decide, show ¬ ((35 : UInt8) = 39) by decide, if_false, if_true]
  rfl
theorem datum_shape {S : Nat} : ∀ (f : Nat) (r : List UInt8) (n : Nat) (d : Datum) (r' : List UInt8) (n' : Nat), datum S f r n = .ok (d, r', n') → shape f d n = (0, n') ∧ SmallD 6000 d ∧ n < n' ∧ n' ≤ 2000
  | 0, r, n, d, r', n', h => by rw [datum_zero] at h; cases h
  | f + 1, r, n, d, r', n', h => by
    rcases Nat.lt_or_ge 2000 (n + 1) with hn | hn
    · rw [datum_full hn] at h; cases h
    cases r with
    | nil => rw [datum_none hn] at h; cases h
    | cons c l =>
      by_cases h1 : c = 40
      · subst h1
        rw [datum_open hn] at h
        cases hi : items S (datum S f) (l.length + 1) l (n + 1) with
        | error e => rw [hi] at h; cases h
        | ok x =>
          obtain ⟨ds, r1, n1⟩ := x
          rw [hi] at h
          simp only [ahead, List.nil_append] at h
          injection h with h
          injection h with e1 h
          injection h with e2 e3
          subst e1 e3
          obtain ⟨k1, k2, k3, k4⟩ := items_shape (fun r n d r' n' h => datum_shape f r n d r' n' h) _ _ _ _ _ _ hi
          refine ⟨by rw [shape_of_list hn]; exact k1, ?_, by omega, k4 hn⟩
          unfold list SmallD
          exact ⟨by simp, by have := k4 hn; omega, k2⟩
      by_cases h2 : c = 39
      · subst h2
        by_cases hq : 2000 < n + 2 ∨ f = 0
        · rw [datum_quoted_no hn hq] at h; cases h
        · rw [datum_quoted hn hq] at h
          cases hi : datum S f (skip false l) (n + 2) with
          | error e => rw [hi] at h; cases h
          | ok x =>
            obtain ⟨x, r1, n1⟩ := x
            rw [hi] at h
            simp only [quoted] at h
            injection h with h
            injection h with e1 h
            injection h with e2 e3
            subst e1 e3
            obtain ⟨k1, k2, k3, k4⟩ := datum_shape f _ _ _ _ _ hi
            obtain ⟨f, rfl⟩ : ∃ g, f = g + 1 := ⟨f - 1, by omega⟩
            refine ⟨?_, ?_, by omega, k4⟩
            · rw [shape_of_list hn, shapes_cons (n' := n + 1 + 1) (shape_of_sym (by omega) (by decide)), shapes_cons k1]
              unfold shapes
              rfl
            · unfold list SmallD SmallL SmallL SmallL
              exact ⟨by simp, by simp, small_atom _ _ _ (by decide), k2, trivial⟩
      by_cases h3 : c = 35
      · subst h3
        cases l with
        | nil => rw [datum_hash_nil hn] at h; cases h
        | cons t l' =>
          rw [datum_hash_cons hn] at h
          split at h
          · injection h with h
            injection h with e1 h
            injection h with e2 e3
            subst e1 e3
            refine ⟨shape_of_truth hn (by split <;> simp), small_atom _ _ _ (by simp), by omega, hn⟩
          · cases h
      cases h4 : letter c with
      | true =>
        rw [datum_atomic hn h4] at h
        cases ha : atom ((c :: l).takeWhile letter) ((S : Int) - (c :: l).length) with
        | error e => rw [ha] at h; cases h
        | ok x =>
          rw [ha] at h
          simp only [atomOut] at h
          injection h with h
          injection h with e1 h
          injection h with e2 e3
          subst e1 e3
          obtain ⟨k1, k2⟩ := atom_shape (f := f) hn (all_takeWhile _) (by rw [List.takeWhile_cons, if_pos h4]; simp) ha
          exact ⟨k1, k2, by omega, hn⟩
      | false =>
        rw [datum_strange hn h1 h2 h3 h4] at h; cases h

theorem reads_shape {S : Nat} : ∀ (m : Nat) (r : List UInt8) (n : Nat) (ds : List Datum), n ≤ 2000 → reads S m r n = .ok ds → ∃ n', shapes (shape 40) ds n = (0, n') ∧ SmallL 6000 ds ∧ ds.length + n ≤ n' ∧ n' ≤ 2000
  | 0, r, n, ds, hn, h => by simp [reads] at h
  | m + 1, r, n, ds, hn, h => by
    cases r with
    | nil =>
      unfold reads at h
      injection h with h
      subst h
      exact ⟨n, by unfold shapes; rfl, by unfold SmallL; trivial, by simp, hn⟩
    | cons c l =>
      rw [reads_more] at h
      split at h
      · cases h
      · rename_i d r1 n1 hd
        obtain ⟨h1, h2, h3, h4⟩ := datum_shape 40 _ _ _ _ _ hd
        split at h
        · cases h
        · rename_i ds1 hi
          obtain ⟨n2, k1, k2, k3, k4⟩ := reads_shape m _ n1 ds1 h4 hi
          injection h with h
          subst h
          exact ⟨n2, by rw [shapes_cons h1]; exact k1, by unfold SmallL; exact ⟨h2, k2⟩, by simp; omega, k4⟩
theorem wrongs_shape : ∀ (ds : List Datum) (i n n' : Nat), shapes (shape 40) ds n = (0, n') → wrongs i ds n = (0, 0)
  | [], i, n, n', h => rfl
  | d :: ds, i, n, n', h => by
    unfold shapes at h
    unfold wrongs
    split at h
    · rename_i h0
      rw [if_pos h0]
      exact wrongs_shape ds (i + 1) _ n' h
    · rename_i h0
      rw [h] at h0
      exact absurd rfl h0
/-- what is read is right -/
theorem read_right {s : List UInt8} {ds : List Datum} (h : read s = .ok ds) : wrong ds = (0, 0) ∧ SmallL 6000 ds ∧ ds.length ≤ 2000 := by
  unfold read at h
  split at h
  · cases h
  · obtain ⟨n', h1, h2, h3, h4⟩ := reads_shape _ _ 0 _ (by omega) h
    exact ⟨wrongs_shape ds 0 0 n' h1, h2, by omega⟩
end Tx
end Go.Proofs.YtchjbkokjilobaaDoor
