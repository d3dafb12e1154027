/- The walk of (*reader).datum: '#', and symbols and numbers. -/
import Derived.Test.YtchjbkokjilobaaDoorTextM
namespace Go.Proofs.YtchjbkokjilobaaDoor
open Go.RowKit
set_option linter.unusedVariables false

def hashOut (k : Nat) (l : List UInt8) (n : Nat) : Tx.Res (Datum × List UInt8 × Nat) := match l with
  | t :: l' => if (t = 116 ∨ t = 102) ∧ (∀ x, l'.head? = some x → Tx.letter x = false) then .ok (Tx.truth (if t = 116 then 1 else 0), l', n + 1) else .error (2, (k : Int))
  | [] => .error (2, (k : Int))

theorem byte_is {c d : UInt8} (n : Int) (hd : (d.toNat : Int) = n) : c = d ↔ ((c.toNat : Int) == n) = true := by
  rw [beq_iff_eq, ← hd, ← UInt8.toNat_inj]; omega
theorem byte_isnt {c d : UInt8} (n : Int) (hd : (d.toNat : Int) = n) : ¬ c = d ↔ ((c.toNat : Int) == n) = false := by
  rw [beq_eq_false_iff_ne, ← hd, ← UInt8.toNat_inj]; omega

theorem letter_quiet (b : ByteArray) (k : Nat) (hk : k < b.size) (r : Bool) (hr : Tx.letter b[k] = r) (w : World) :
    Calls Tryd.prog 26 #[.int .u8 (b[k].toNat : Int)] w fun e w' => e = .returned (.bool r) ∧ w' = w :=
  (letter_byte b k hk r hr w).mono (fun e w' h => ⟨h.1, h.2.symm⟩)
theorem hash_no {k n : Nat} {t x : UInt8} {l r : List UInt8} (hd : l = x :: r) (h : Tx.letter x = true) : hashOut k (t :: l) n = .error (2, (k : Int)) := by
  subst hd
  unfold hashOut
  exact if_neg (fun h' => by have := h'.2 x rfl; rw [h] at this; cases this)
theorem hash_not {k n : Nat} {t : UInt8} {l : List UInt8} (h : ¬ (t = 116 ∨ t = 102)) : hashOut k (t :: l) n = .error (2, (k : Int)) := by
  unfold hashOut
  exact if_neg (fun h' => h h'.1)
theorem hash_yes {k n : Nat} {t : UInt8} {l : List UInt8} (h : t = 116 ∨ t = 102) (h2 : ∀ x, l.head? = some x → Tx.letter x = false) : hashOut k (t :: l) n = .ok (Tx.truth (if t = 116 then 1 else 0), l, n + 1) := by
  unfold hashOut
  exact if_pos ⟨h, h2⟩
theorem hash_end {w w3 : World} {g k n : Nat} {s : ByteArray} {r : List UInt8} (hg : g < w.heap.size) (hB : Blk w3 w.heap.size zero6 42) (hrd : Rd w3 g s k n r) (hn : n ≤ 2000) (hgr : w.grownBy w3 (some g)) (v : Int) :
    OutPost w g s (.ok (Tx.truth v, r, n)) (.returned (.agg #[.int .i64 2, .int .i64 v, .string ⟨#[]⟩, .int .i64 0, .int .i64 0, .slice none 0 0])) ((set6 w3 w.heap.size (.int .i64 2) (.int .i64 v) (.string ⟨#[]⟩) (.int .i64 0) (.int .i64 0) (.slice none 0 0))) := by
  have h6 := (grown_set6 (grown_refl w3 (some w.heap.size)) (.int .i64 2) (.int .i64 v) (.string ⟨#[]⟩) (.int .i64 0) (.int .i64 0) (.slice none 0 0))
  refine ⟨_, k, rfl, dv_truth _ _ _, ⟨hrd.1.grown h6 (by simp; omega), hrd.2.1, hrd.2.2⟩, hn, ?_⟩
  exact grown_later hgr h6 (.inr fun i hi => by simp at hi; omega)

set_option maxRecDepth 100000 in
set_option maxHeartbeats 1600000 in
theorem datum_hash (s : ByteArray) (g k n : Nat) (l : List UInt8) (w : World) (hs : s.size ≤ 6000) (h : Rd w g s k n (35 :: l)) (hn : n + 1 ≤ 2000) (deep : Int) (hd0 : -100 ≤ deep) (hd : deep ≤ 40) :
    Calls Tryd.prog 17 #[.pointer (some ⟨g, 0, none⟩), .int .i64 deep] w (OutPost w g s (hashOut k l n)) := by
  have c1 : w.cell? ⟨g, 1, none⟩ = some (.int .i64 k) := h.1.cell 1
  have hg := h.1.lt
  have hk := h.2.1
  have hms : s.size ≤ maxLen := by unfold maxLen; omega
  have hms2 : s.size ≤ 9223372036854775807 := by omega
  have HR := Lib.hid h
  obtain ⟨hlt, hc, hl⟩ := rd_cons h
  have hlt' : (k : Int) < (s.size : Int) := by omega
  have e1 : ((k : Int) == (s.size : Int)) = false := by rw [beq_eq_false_iff_ne]; omega
  have HC := Lib.hid hc
  have HL := Lib.hid hl
  clear hc hl h
  go_enter Tryd.func17, Tryd.ntmps17
  go_wp2_with fail
  refine (node_ok s g k n _ deep k _ ⟨HR.out.1.alloc _, HR.out.2⟩ hn hd).mono ?_
  rintro e w1 ⟨rfl, hgr1, hrd1⟩
  have HG1 := Lib.hid (grown_trans (grown_alloc (grown_refl w (some g)) (.cells zero6 42)) hgr1)
  have hB1 := (Blk.new w zero6 42).grown hgr1 (by simp; omega)
  have HB1 := Lib.hid hB1
  have HR1 := Lib.hid hrd1
  have g0 : w1.cell? ⟨g, 0, none⟩ = some (.string s) := hrd1.1.cell 0
  have g1 : w1.cell? ⟨g, 1, none⟩ = some (.int .i64 k) := hrd1.1.cell 1
  have f1 := hrd1.1.frozen 1
  clear c1 hgr1 hB1 hrd1
  have n1 : ((s[k].toNat : Int) == 40) = false := by rw [HC.out]; rfl
  have n2 : ((s[k].toNat : Int) == 39) = false := by rw [HC.out]; rfl
  have n3 : ((s[k].toNat : Int) == 35) = true := by rw [HC.out]; rfl
  go_wp2_with fail
  have hrd2 : Rd (w1.setCell ⟨g, 1, none⟩ (.int .i64 ((k : Int) + 1))) g s (k + 1) (n + 1) l := ⟨HR1.out.1.set 1 _, by omega, HL.out⟩
  have hB2 := HB1.out.far (p := ⟨g, 1, none⟩) (by simp; omega) (.int .i64 ((k : Int) + 1))
  have hG2 := grown_trans HG1.out (grown_setCell (grown_refl w1 (some g)) 1 none (.int .i64 ((k : Int) + 1)))
  generalize w1.setCell ⟨g, 1, none⟩ (.int .i64 ((k : Int) + 1)) = w2 at *
  clear g0 g1 f1 HG1 HB1 HR1 w1 HL n1 n2 n3
  have HB := Lib.hid hB2
  have HG := Lib.hid hG2
  have g0 : w2.cell? ⟨g, 0, none⟩ = some (.string s) := hrd2.1.cell 0
  have g1 : w2.cell? ⟨g, 1, none⟩ = some (.int .i64 (k + 1 : Nat)) := hrd2.1.cell 1
  have f1 := hrd2.1.frozen 1
  have HR2 := Lib.hid hrd2
  have hk1 := hrd2.2.1
  obtain ⟨m, hm⟩ : ∃ m, k + 1 = m := ⟨_, rfl⟩
  rw [hm] at g1 HR2 hk1
  clear hB2 hG2 hrd2 e1
  rcases Nat.lt_or_ge m s.size with hk1 | hk1
  · have hd1 := drop_at s m hk1
    rw [HR2.out.2.2] at hd1
    have hk1' : (m : Int) < (s.size : Int) := by omega
    have hk1d : decide ((m : Int) < (s.size : Int)) = true := by simpa using hk1'
    have HD1 := Lib.hid hd1
    clear hd1
    by_cases ht : s[m] = 116 ∨ s[m] = 102
    · have ht2 : (((s[m].toNat : Int) == 116) = true ∧ (if s[m] = 116 then (1 : Int) else 0) = 1) ∨ ((s[m].toNat : Int) == 116) = false ∧ ((s[m].toNat : Int) == 102) = true ∧ (if s[m] = 116 then (1 : Int) else 0) = 0 := by
        rcases ht with ht | ht
        · exact .inl ⟨(byte_is 116 rfl).1 ht, if_pos ht⟩
        · exact .inr ⟨by rw [ht]; rfl, (byte_is 102 rfl).1 ht, if_neg (by rw [ht]; decide)⟩
      have HT := Lib.hid ht
      clear ht
      rcases ht2 with ⟨t1, htv⟩ | ⟨t1, t2, htv⟩
      all_goals
        have HTV := Lib.hid htv
        clear htv
        go_quiet (fail)
        go_wp2_with fail
        go_quiet (fail)
        go_wp2_with fail
        rename_i N0 _ _
        have hrd3 : Rd ((w2.drewN (N0 + nq)).setCell ⟨g, 1, none⟩ (.int .i64 ((m : Int) + 1))) g s (m + 1) (n + 1) (s.data.toList.drop (m + 1)) := ⟨(HR2.out.1.drewN _).set 1 _, by omega, rfl⟩
        have hB3 := (HB.out.drewN (N0 + nq)).far (p := ⟨g, 1, none⟩) (by simp; omega) (.int .i64 ((m : Int) + 1))
        have hG3 := grown_setCell (grown_drewN HG.out (N0 + nq)) 1 none (.int .i64 ((m : Int) + 1))
        generalize (w2.drewN (N0 + nq)).setCell ⟨g, 1, none⟩ (.int .i64 ((m : Int) + 1)) = w3 at *
        clear g0 g1 f1 HB HG
        have HB := Lib.hid hB3
        have HG := Lib.hid hG3
        have g0 : w3.cell? ⟨g, 0, none⟩ = some (.string s) := hrd3.1.cell 0
        have g1 : w3.cell? ⟨g, 1, none⟩ = some (.int .i64 (m + 1 : Nat)) := hrd3.1.cell 1
        have HR3 := Lib.hid hrd3
        have hk3 := hrd3.2.1
        obtain ⟨m1, hm1⟩ : ∃ x, m + 1 = x := ⟨_, rfl⟩
        rw [hm1] at g1 HR3 hk3 HD1
        clear hB3 hG3 hrd3
        obtain ⟨⟨d0, d1, d2, d3, d4, d5⟩, q0, q1, q2, q3, q4, q5⟩ := HB.out.six
        rcases Nat.lt_or_ge m1 s.size with hk4 | hk4
        · have eqd : ((m1 : Int) == (s.size : Int)) = false := by rw [beq_eq_false_iff_ne]; omega
          have hk4' : (m1 : Int) < (s.size : Int) := by omega
          have hd2 := Lib.hid (drop_at s m1 hk4)
          cases hle : Tx.letter s[m1] with
          | true =>
            have HLE := Lib.hid hle
            clear hle
            go_quiet ((go_at_call 26; refine Calls.quiet_of_same (letter_quiet s m1 hk4 true HLE.out _)))
            go_wp2_with (go_at_call 24; refine (fail_any _ _ _).mono ?_; rintro e w' ⟨rfl, rfl⟩)
            rw [HD1.out, hash_no hd2.out HLE.out]
            exact ⟨rfl, rfl, grown_drewN HG.out _⟩
          | false =>
            have HLE := Lib.hid hle
            clear hle
            go_quiet ((go_at_call 26; refine Calls.quiet_of_same (letter_quiet s m1 hk4 false HLE.out _)))
            go_wp2_with fail
            refine bodyPost_ret (v := .agg #[.int .i64 2, .int .i64 _, .string ⟨#[]⟩, .int .i64 0, .int .i64 0, .slice none 0 0]) (by simp [results, Tryd.results17, go_sem, *]; rfl) rfl ?_
            rw [HD1.out, hash_yes HT.out (by rw [hd2.out]; intro x hx; simp at hx; subst hx; exact HLE.out), HTV.out]
            exact hash_end hg (HB.out.drewN _) ⟨HR3.out.1.drewN _, HR3.out.2⟩ (by omega) (grown_drewN HG.out _) _
        · have eqd : ((m1 : Int) == (s.size : Int)) = true := by rw [beq_iff_eq]; omega
          go_quiet (fail)
          go_wp2_with fail
          refine bodyPost_ret (v := .agg #[.int .i64 2, .int .i64 _, .string ⟨#[]⟩, .int .i64 0, .int .i64 0, .slice none 0 0]) (by simp [results, Tryd.results17, go_sem, *]; rfl) rfl ?_
          rw [HD1.out, hash_yes HT.out (by rw [List.drop_eq_nil_of_le (by simpa using hk4)]; simp), HTV.out]
          exact hash_end hg (HB.out.drewN _) ⟨HR3.out.1.drewN _, HR3.out.2⟩ (by omega) (grown_drewN HG.out _) _
    · have t1 := (byte_isnt (d := 116) 116 rfl).1 (fun e => ht (.inl e))
      have t2 := (byte_isnt (d := 102) 102 rfl).1 (fun e => ht (.inr e))
      have HT := Lib.hid ht
      clear ht
      go_quiet (fail)
      go_wp2_with (go_at_call 24; refine (fail_any _ _ _).mono ?_; rintro e w' ⟨rfl, rfl⟩)
      rw [HD1.out, hash_not HT.out]
      exact ⟨rfl, rfl, grown_drewN HG.out _⟩
  · have hk1' : ¬ (m : Int) < (s.size : Int) := by omega
    have hk1d : decide ((m : Int) < (s.size : Int)) = false := by simpa using hk1'
    go_quiet (fail)
    go_wp2_with (go_at_call 24; refine (fail_any _ _ _).mono ?_; rintro e w' ⟨rfl, rfl⟩)
    rw [show l = [] from by rw [← HR2.out.2.2]; exact List.drop_eq_nil_of_le (by simpa using hk1)]
    exact ⟨rfl, rfl, grown_drewN HG.out _⟩

def atomOut (r : List UInt8) (n : Nat) : Tx.Res Datum → Tx.Res (Datum × List UInt8 × Nat)
  | .error e => .error e
  | .ok d => .ok (d, r, n)
/-- letters from k on, up to k' -/
def Letters (s : ByteArray) (k k' : Nat) : Prop := (s.data.toList.drop k).takeWhile Tx.letter = (s.data.toList.drop k).take (k' - k) ++ (s.data.toList.drop k').takeWhile Tx.letter ∧ (s.data.toList.drop k).dropWhile Tx.letter = (s.data.toList.drop k').dropWhile Tx.letter
theorem Letters.refl (s : ByteArray) (k : Nat) : Letters s k k := ⟨by simp, rfl⟩
theorem Letters.next {s : ByteArray} {k k' : Nat} (h : Letters s k k') (hk : k ≤ k') (hlt : k' < s.size) (hl : Tx.letter s[k'] = true) : Letters s k (k' + 1) := by
  obtain ⟨h1, h2⟩ := h
  have hd := drop_at s k' hlt
  rw [hd, List.takeWhile_cons, if_pos hl] at h1
  rw [hd, List.dropWhile_cons, if_pos hl] at h2
  refine ⟨?_, h2⟩
  rw [h1, show k' + 1 - k = (k' - k) + 1 by omega, List.take_add_one, List.append_assoc]
  congr 1
  have : (s.data.toList.drop k)[k' - k]? = some s[k'] := by
    rw [List.getElem?_drop, show k + (k' - k) = k' by omega]
    rw [List.getElem?_eq_getElem (by simpa using hlt)]
    rfl
  rw [this]
  rfl
theorem Letters.stop {s : ByteArray} {k k' : Nat} (h : Letters s k k') (hl : ∀ hlt : k' < s.size, Tx.letter s[k'] = false) : (s.data.toList.drop k).takeWhile Tx.letter = (s.data.toList.drop k).take (k' - k) ∧ (s.data.toList.drop k).dropWhile Tx.letter = s.data.toList.drop k' := by
  obtain ⟨h1, h2⟩ := h
  rw [h1, h2]
  rcases Nat.lt_or_ge k' s.size with hlt | hlt
  · rw [drop_at s k' hlt, List.takeWhile_cons, List.dropWhile_cons, hl hlt]
    simp
  · rw [List.drop_eq_nil_of_le (i := k') (by simpa using hlt)]
    simp

theorem extract_list (s : ByteArray) (k k' : Nat) : (s.extract k k').data.toList = (s.data.toList.drop k).take (k' - k) := by
  simp [ByteArray.data_extract, List.extract_eq_take_drop]
set_option maxRecDepth 100000 in
set_option maxHeartbeats 1600000 in
theorem datum_atom (s : ByteArray) (g k n : Nat) (c : UInt8) (l : List UInt8) (w : World) (hs : s.size ≤ 6000) (h : Rd w g s k n (c :: l)) (hn : n + 1 ≤ 2000) (deep : Int) (hd0 : -100 ≤ deep) (hd : deep ≤ 40) (h1 : ¬ c = 40) (h2 : ¬ c = 39) (h3 : ¬ c = 35) (h4 : Tx.letter c = true) :
    Calls Tryd.prog 17 #[.pointer (some ⟨g, 0, none⟩), .int .i64 deep] w (OutPost w g s (atomOut ((c :: l).dropWhile Tx.letter) (n + 1) (Tx.atom ((c :: l).takeWhile Tx.letter) k))) := by
  have c1 : w.cell? ⟨g, 1, none⟩ = some (.int .i64 k) := h.1.cell 1
  have hg := h.1.lt
  have hk := h.2.1
  have hms : s.size ≤ maxLen := by unfold maxLen; omega
  have hms2 : s.size ≤ 9223372036854775807 := by omega
  have HR := Lib.hid h
  obtain ⟨hlt, hc, hl⟩ := rd_cons h
  have hlt' : (k : Int) < (s.size : Int) := by omega
  have e1 : ((k : Int) == (s.size : Int)) = false := by rw [beq_eq_false_iff_ne]; omega
  have hdk := h.2.2
  rw [← hdk]
  have HC := Lib.hid hc
  have HL := Lib.hid hl
  have n1 : ((s[k].toNat : Int) == 40) = false := (byte_isnt (d := 40) 40 rfl).1 (by rw [hc]; exact h1)
  have n2 : ((s[k].toNat : Int) == 39) = false := (byte_isnt (d := 39) 39 rfl).1 (by rw [hc]; exact h2)
  have n3 : ((s[k].toNat : Int) == 35) = false := (byte_isnt (d := 35) 35 rfl).1 (by rw [hc]; exact h3)
  have H4 := Lib.hid h4
  clear hc hl h hdk h1 h2 h3 h4
  generalize hT : Tx.atom ((s.data.toList.drop k).takeWhile Tx.letter) (k : Int) = T
  have HT := Lib.hid hT
  clear hT
  go_enter Tryd.func17, Tryd.ntmps17
  go_wp2_with fail
  refine (node_ok s g k n _ deep k _ ⟨HR.out.1.alloc _, HR.out.2⟩ hn hd).mono ?_
  rintro e w1 ⟨rfl, hgr1, hrd1⟩
  have HG1 := Lib.hid (grown_trans (grown_alloc (grown_refl w (some g)) (.cells zero6 42)) hgr1)
  have hB1 := (Blk.new w zero6 42).grown hgr1 (by simp; omega)
  have HB1 := Lib.hid hB1
  have HR1 := Lib.hid hrd1
  have g0 : w1.cell? ⟨g, 0, none⟩ = some (.string s) := hrd1.1.cell 0
  have g1 : w1.cell? ⟨g, 1, none⟩ = some (.int .i64 k) := hrd1.1.cell 1
  have f1 := hrd1.1.frozen 1
  clear c1 hgr1 hB1 hrd1
  go_wp2_with (go_at_call 26; refine (letter_byte s k hlt true (by rw [HC.out]; exact H4.out) _).mono ?_; rintro e w' ⟨rfl, rfl⟩)
  have hrd2 : Rd (w1.setCell ⟨g, 1, none⟩ (.int .i64 ((k : Int) + 1))) g s (k + 1) (n + 1) l := ⟨HR1.out.1.set 1 _, by omega, HL.out⟩
  have hB2 := HB1.out.far (p := ⟨g, 1, none⟩) (by simp; omega) (.int .i64 ((k : Int) + 1))
  have hG2 := grown_trans HG1.out (grown_setCell (grown_refl w1 (some g)) 1 none (.int .i64 ((k : Int) + 1)))
  generalize w1.setCell ⟨g, 1, none⟩ (.int .i64 ((k : Int) + 1)) = w2 at *
  clear g0 g1 f1 HG1 HB1 HR1 w1 n1 n2 n3
  have HB := Lib.hid hB2
  have HG := Lib.hid hG2
  have HR2 := Lib.hid hrd2
  clear hB2 hG2 hrd2 e1
  go_loopg [147] (s.size - (k + 1)) (fun q _ wr => ∃ k' : Nat, q = s.size - k' ∧ k < k' ∧ k' ≤ s.size ∧ Blk wr g #[.string s, .int .i64 k', .int .i64 (n + 1 : Nat)] 52 ∧ Blk wr w.heap.size zero6 42 ∧ Letters s k k' ∧ w.grownBy wr (some g))
  case atStart => exact ⟨k + 1, rfl, by omega, by omega, HR2.out.1, HB.out, (Letters.refl s k).next (by omega) hlt (by rw [HC.out]; exact H4.out), HG.out⟩
  case round =>
    obtain ⟨k', rfl, hkk, hk', hb, hB, hle, hgr⟩ := hrel
    have c0 : wr.cell? ⟨g, 0, none⟩ = some (.string s) := hb.cell 0
    have c1 : wr.cell? ⟨g, 1, none⟩ = some (.int .i64 k') := hb.cell 1
    have f1 := hb.frozen 1
    clear HB HG HR2
    have HR := Lib.hid hb
    have HB := Lib.hid hB
    have HLE := Lib.hid hle
    have HG := Lib.hid hgr
    clear hb hB hle hgr
    by_cases hl2 : k' < s.size
    · have hl2' : (k' : Int) < (s.size : Int) := by omega
      have hl2'' : decide ((k' : Int) < (s.size : Int)) = true := by simpa using hl2
      cases hx : Tx.letter s[k'] with
      | true =>
        have HX := Lib.hid hx
        clear hx
        go_wp2_with fail
        go_quiet ((go_at_call 26; refine Calls.quiet_of_same (letter_quiet s k' hl2 true HX.out _)))
        go_wp2_with fail
        go_roundg (s.size - (k' + 1))
        case measure => omega
        case rel => exact ⟨k' + 1, rfl, by omega, by omega, (HR.out.drewN _).set 1 _, (HB.out.drewN _).far (p := ⟨g, 1, none⟩) (by simp; omega) _, HLE.out.next (by omega) hl2 HX.out, grown_setCell (grown_drewN HG.out _) 1 none _⟩
      | false =>
        have HX := Lib.hid hx
        clear hx
        go_wp2_with fail
        go_quiet ((go_at_call 26; refine Calls.quiet_of_same (letter_quiet s k' hl2 false HX.out _)))
        have hst := HLE.out.stop (fun _ => HX.out)
        have hka : (k : Int) ≤ (k' : Int) := by omega
        have hkb : (k' : Int) ≤ (s.size : Int) := by omega
        have hsz : (s.extract k k').size ≤ 6000 := by simp; omega
        have HSTR := Lib.hid ((extract_list s k k').trans hst.1.symm)
        have HDR := Lib.hid hst.2
        clear hst
        cases T with
        | error er =>
          go_wp2_with fail
          refine wp_region_plan (fun w' => w'.cell? ⟨g, 0, none⟩ = some (.string s) ∧ w'.cell? ⟨g, 1, none⟩ = some (.int .i64 k')) 11 13 0 (by kernel_rfl) rfl (by repeat (first | with_reducible exact panicFree_body | with_reducible refine PanicFree.inBlock ?_ | with_reducible refine PanicFree.then ?_)) (by exact ⟨c0, c1⟩) (fun HQ HS => ?_)
          have hS0 : ∀ x : HeldW (fun w' : World => w'.cell? ⟨g, 0, none⟩ = some (.string s) ∧ w'.cell? ⟨g, 1, none⟩ = some (.int .i64 k')), x.w.cell? ⟨g, 0, none⟩ = some (.string s) := fun x => x.h.1
          have hS1 : ∀ x : HeldW (fun w' : World => w'.cell? ⟨g, 0, none⟩ = some (.string s) ∧ w'.cell? ⟨g, 1, none⟩ = some (.int .i64 k')), x.w.cell? ⟨g, 1, none⟩ = some (.int .i64 k') := fun x => x.h.2
          (refine till_now 0 rfl (by kernel_rfl) rfl HQ (fun _ => HS) ?_; intro K hK; go_big_quiet_op; go_big_quiet_on; refine till_now 1 rfl (by kernel_rfl) rfl HQ (fun _ => HS) ?_; intro K hK; go_big_quiet_op; go_big_quiet_on; refine till_now 2 rfl (by kernel_rfl) rfl HQ (fun _ => HS) ?_; intro K hK; go_big_quiet_op; go_big_quiet_on)
          (refine till_take 3 [9,11] rfl (by kernel_rfl) rfl HQ HS ?_; intro K hK; go_big_quiet_op; refine ⟨_, fun _ => rfl, ?_⟩; go_big_quiet_on)
          (refine till_now 4 rfl (by kernel_rfl) rfl HQ (fun _ => HS) ?_; intro K hK; go_big_quiet_op; go_big_quiet_on; refine till_now 5 rfl (by kernel_rfl) rfl HQ (fun _ => HS) ?_; intro K hK; go_big_quiet_op; go_big_quiet_on; refine till_now 6 rfl (by kernel_rfl) rfl HQ (fun _ => HS) ?_; intro K hK; go_big_quiet_op; go_big_quiet_on; refine till_now 7 rfl (by kernel_rfl) rfl HQ (fun _ => HS) ?_; intro K hK; go_big_quiet_op; go_big_quiet_on)
          (refine till_take 8 [9,11] rfl (by kernel_rfl) rfl HQ HS ?_; intro K hK; go_big_quiet_op; refine ⟨_, fun _ => rfl, ?_⟩; go_big_quiet_on)
          (refine till_now 9 rfl (by kernel_rfl) rfl HQ (fun _ => HS) ?_; intro K hK; go_big_quiet_op; go_big_quiet_on; refine till_now 10 rfl (by kernel_rfl) rfl HQ (fun _ => HS) ?_; intro K hK; go_big_quiet_op; go_big_quiet_on)
          clear hS0 hS1
          (refine till_last 11 (by kernel_rfl) rfl rfl (by kernel_rfl) ?_; intro K hK)
          go_wp2_with (go_at_call 27; refine (atom_any (s.extract k k') k _ hsz).mono ?_; rw [HSTR.out, HT.out]; rintro e w3 ⟨rfl, hgr⟩)
          exact ⟨rfl, rfl, grown_trans HG.out (grown_none (grown_undrew hgr) _)⟩
        | ok d =>
          go_wp2_with fail
          refine wp_region_plan (fun w' => w'.cell? ⟨g, 0, none⟩ = some (.string s) ∧ w'.cell? ⟨g, 1, none⟩ = some (.int .i64 k')) 11 13 0 (by kernel_rfl) rfl (by repeat (first | with_reducible exact panicFree_body | with_reducible refine PanicFree.inBlock ?_ | with_reducible refine PanicFree.then ?_)) (by exact ⟨c0, c1⟩) (fun HQ HS => ?_)
          have hS0 : ∀ x : HeldW (fun w' : World => w'.cell? ⟨g, 0, none⟩ = some (.string s) ∧ w'.cell? ⟨g, 1, none⟩ = some (.int .i64 k')), x.w.cell? ⟨g, 0, none⟩ = some (.string s) := fun x => x.h.1
          have hS1 : ∀ x : HeldW (fun w' : World => w'.cell? ⟨g, 0, none⟩ = some (.string s) ∧ w'.cell? ⟨g, 1, none⟩ = some (.int .i64 k')), x.w.cell? ⟨g, 1, none⟩ = some (.int .i64 k') := fun x => x.h.2
          (refine till_now 0 rfl (by kernel_rfl) rfl HQ (fun _ => HS) ?_; intro K hK; go_big_quiet_op; go_big_quiet_on; refine till_now 1 rfl (by kernel_rfl) rfl HQ (fun _ => HS) ?_; intro K hK; go_big_quiet_op; go_big_quiet_on; refine till_now 2 rfl (by kernel_rfl) rfl HQ (fun _ => HS) ?_; intro K hK; go_big_quiet_op; go_big_quiet_on)
          (refine till_take 3 [9,11] rfl (by kernel_rfl) rfl HQ HS ?_; intro K hK; go_big_quiet_op; refine ⟨_, fun _ => rfl, ?_⟩; go_big_quiet_on)
          (refine till_now 4 rfl (by kernel_rfl) rfl HQ (fun _ => HS) ?_; intro K hK; go_big_quiet_op; go_big_quiet_on; refine till_now 5 rfl (by kernel_rfl) rfl HQ (fun _ => HS) ?_; intro K hK; go_big_quiet_op; go_big_quiet_on; refine till_now 6 rfl (by kernel_rfl) rfl HQ (fun _ => HS) ?_; intro K hK; go_big_quiet_op; go_big_quiet_on; refine till_now 7 rfl (by kernel_rfl) rfl HQ (fun _ => HS) ?_; intro K hK; go_big_quiet_op; go_big_quiet_on)
          (refine till_take 8 [9,11] rfl (by kernel_rfl) rfl HQ HS ?_; intro K hK; go_big_quiet_op; refine ⟨_, fun _ => rfl, ?_⟩; go_big_quiet_on)
          (refine till_now 9 rfl (by kernel_rfl) rfl HQ (fun _ => HS) ?_; intro K hK; go_big_quiet_op; go_big_quiet_on; refine till_now 10 rfl (by kernel_rfl) rfl HQ (fun _ => HS) ?_; intro K hK; go_big_quiet_op; go_big_quiet_on)
          clear hS0 hS1
          (refine till_last 11 (by kernel_rfl) rfl rfl (by kernel_rfl) ?_; intro K hK)
          go_wp2_with (go_at_call 27; refine (atom_any (s.extract k k') k _ hsz).mono ?_; rw [HSTR.out, HT.out]; rintro e w3 ⟨x, rfl, hdv, hgr⟩)
          obtain ⟨kv, rfl, hsl⟩ := hdv
          obtain ⟨kA, kc, rfl⟩ := hsl.form
          have hgr0 : wr.grownBy w3 none := ⟨hgr.os, hgr.tape, hgr.output, hgr.size, hgr.block⟩
          have HE := Lib.hid (out_put (wc := wr) (k := k') (n := n + 1) (s := s) (r := s.data.toList.drop k') hg HG.out HB.out.lt ⟨_, rfl, hsl⟩ ⟨HR.out.grown hgr0 (by simp), hk', rfl⟩ hn (grown_none hgr0 _))
          have hB3 := HB.out.grown hgr0 (by simp)
          obtain ⟨⟨d0, d1, d2, d3, d4, d5⟩, q0, q1, q2, q3, q4, q5⟩ := hB3.six
          clear hgr hgr0 hsl hB3
          (refine till_last 12 (by kernel_rfl) rfl rfl (by kernel_rfl) ?_; intro K hK)
          go_wp2_with fail
          refine till_done (by kernel_rfl) ?_
          go_wp2_with fail
          refine bodyPost_ret (by simp [results, Tryd.results17, go_sem, d0, d1, d2, d3, d4, d5]; rfl) rfl ?_
          rw [HDR.out]
          exact HE.out
    · have hl2' : ¬ (k' : Int) < (s.size : Int) := by omega
      have hl2'' : decide ((k' : Int) < (s.size : Int)) = false := by simpa using hl2
      go_wp2_with fail
      go_quiet (fail)
      have hst := HLE.out.stop (fun h => absurd h hl2)
      have hka : (k : Int) ≤ (k' : Int) := by omega
      have hkb : (k' : Int) ≤ (s.size : Int) := by omega
      have hsz : (s.extract k k').size ≤ 6000 := by simp; omega
      have HSTR := Lib.hid ((extract_list s k k').trans hst.1.symm)
      have HDR := Lib.hid hst.2
      clear hst
      cases T with
      | error er =>
        go_wp2_with fail
        refine wp_region_plan (fun w' => w'.cell? ⟨g, 0, none⟩ = some (.string s) ∧ w'.cell? ⟨g, 1, none⟩ = some (.int .i64 k')) 11 13 0 (by kernel_rfl) rfl (by repeat (first | with_reducible exact panicFree_body | with_reducible refine PanicFree.inBlock ?_ | with_reducible refine PanicFree.then ?_)) (by exact ⟨c0, c1⟩) (fun HQ HS => ?_)
        have hS0 : ∀ x : HeldW (fun w' : World => w'.cell? ⟨g, 0, none⟩ = some (.string s) ∧ w'.cell? ⟨g, 1, none⟩ = some (.int .i64 k')), x.w.cell? ⟨g, 0, none⟩ = some (.string s) := fun x => x.h.1
        have hS1 : ∀ x : HeldW (fun w' : World => w'.cell? ⟨g, 0, none⟩ = some (.string s) ∧ w'.cell? ⟨g, 1, none⟩ = some (.int .i64 k')), x.w.cell? ⟨g, 1, none⟩ = some (.int .i64 k') := fun x => x.h.2
        (refine till_now 0 rfl (by kernel_rfl) rfl HQ (fun _ => HS) ?_; intro K hK; go_big_quiet_op; go_big_quiet_on; refine till_now 1 rfl (by kernel_rfl) rfl HQ (fun _ => HS) ?_; intro K hK; go_big_quiet_op; go_big_quiet_on; refine till_now 2 rfl (by kernel_rfl) rfl HQ (fun _ => HS) ?_; intro K hK; go_big_quiet_op; go_big_quiet_on)
        (refine till_take 3 [9,11] rfl (by kernel_rfl) rfl HQ HS ?_; intro K hK; go_big_quiet_op; refine ⟨_, fun _ => rfl, ?_⟩; go_big_quiet_on)
        (refine till_now 4 rfl (by kernel_rfl) rfl HQ (fun _ => HS) ?_; intro K hK; go_big_quiet_op; go_big_quiet_on; refine till_now 5 rfl (by kernel_rfl) rfl HQ (fun _ => HS) ?_; intro K hK; go_big_quiet_op; go_big_quiet_on; refine till_now 6 rfl (by kernel_rfl) rfl HQ (fun _ => HS) ?_; intro K hK; go_big_quiet_op; go_big_quiet_on; refine till_now 7 rfl (by kernel_rfl) rfl HQ (fun _ => HS) ?_; intro K hK; go_big_quiet_op; go_big_quiet_on)
        (refine till_take 8 [9,11] rfl (by kernel_rfl) rfl HQ HS ?_; intro K hK; go_big_quiet_op; refine ⟨_, fun _ => rfl, ?_⟩; go_big_quiet_on)
        (refine till_now 9 rfl (by kernel_rfl) rfl HQ (fun _ => HS) ?_; intro K hK; go_big_quiet_op; go_big_quiet_on; refine till_now 10 rfl (by kernel_rfl) rfl HQ (fun _ => HS) ?_; intro K hK; go_big_quiet_op; go_big_quiet_on)
        clear hS0 hS1
        (refine till_last 11 (by kernel_rfl) rfl rfl (by kernel_rfl) ?_; intro K hK)
        go_wp2_with (go_at_call 27; refine (atom_any (s.extract k k') k _ hsz).mono ?_; rw [HSTR.out, HT.out]; rintro e w3 ⟨rfl, hgr⟩)
        exact ⟨rfl, rfl, grown_trans HG.out (grown_none (grown_undrew hgr) _)⟩
      | ok d =>
        go_wp2_with fail
        refine wp_region_plan (fun w' => w'.cell? ⟨g, 0, none⟩ = some (.string s) ∧ w'.cell? ⟨g, 1, none⟩ = some (.int .i64 k')) 11 13 0 (by kernel_rfl) rfl (by repeat (first | with_reducible exact panicFree_body | with_reducible refine PanicFree.inBlock ?_ | with_reducible refine PanicFree.then ?_)) (by exact ⟨c0, c1⟩) (fun HQ HS => ?_)
        have hS0 : ∀ x : HeldW (fun w' : World => w'.cell? ⟨g, 0, none⟩ = some (.string s) ∧ w'.cell? ⟨g, 1, none⟩ = some (.int .i64 k')), x.w.cell? ⟨g, 0, none⟩ = some (.string s) := fun x => x.h.1
        have hS1 : ∀ x : HeldW (fun w' : World => w'.cell? ⟨g, 0, none⟩ = some (.string s) ∧ w'.cell? ⟨g, 1, none⟩ = some (.int .i64 k')), x.w.cell? ⟨g, 1, none⟩ = some (.int .i64 k') := fun x => x.h.2
        (refine till_now 0 rfl (by kernel_rfl) rfl HQ (fun _ => HS) ?_; intro K hK; go_big_quiet_op; go_big_quiet_on; refine till_now 1 rfl (by kernel_rfl) rfl HQ (fun _ => HS) ?_; intro K hK; go_big_quiet_op; go_big_quiet_on; refine till_now 2 rfl (by kernel_rfl) rfl HQ (fun _ => HS) ?_; intro K hK; go_big_quiet_op; go_big_quiet_on)
        (refine till_take 3 [9,11] rfl (by kernel_rfl) rfl HQ HS ?_; intro K hK; go_big_quiet_op; refine ⟨_, fun _ => rfl, ?_⟩; go_big_quiet_on)
        (refine till_now 4 rfl (by kernel_rfl) rfl HQ (fun _ => HS) ?_; intro K hK; go_big_quiet_op; go_big_quiet_on; refine till_now 5 rfl (by kernel_rfl) rfl HQ (fun _ => HS) ?_; intro K hK; go_big_quiet_op; go_big_quiet_on; refine till_now 6 rfl (by kernel_rfl) rfl HQ (fun _ => HS) ?_; intro K hK; go_big_quiet_op; go_big_quiet_on; refine till_now 7 rfl (by kernel_rfl) rfl HQ (fun _ => HS) ?_; intro K hK; go_big_quiet_op; go_big_quiet_on)
        (refine till_take 8 [9,11] rfl (by kernel_rfl) rfl HQ HS ?_; intro K hK; go_big_quiet_op; refine ⟨_, fun _ => rfl, ?_⟩; go_big_quiet_on)
        (refine till_now 9 rfl (by kernel_rfl) rfl HQ (fun _ => HS) ?_; intro K hK; go_big_quiet_op; go_big_quiet_on; refine till_now 10 rfl (by kernel_rfl) rfl HQ (fun _ => HS) ?_; intro K hK; go_big_quiet_op; go_big_quiet_on)
        clear hS0 hS1
        (refine till_last 11 (by kernel_rfl) rfl rfl (by kernel_rfl) ?_; intro K hK)
        go_wp2_with (go_at_call 27; refine (atom_any (s.extract k k') k _ hsz).mono ?_; rw [HSTR.out, HT.out]; rintro e w3 ⟨x, rfl, hdv, hgr⟩)
        obtain ⟨kv, rfl, hsl⟩ := hdv
        obtain ⟨kA, kc, rfl⟩ := hsl.form
        have hgr0 : wr.grownBy w3 none := ⟨hgr.os, hgr.tape, hgr.output, hgr.size, hgr.block⟩
        have HE := Lib.hid (out_put (wc := wr) (k := k') (n := n + 1) (s := s) (r := s.data.toList.drop k') hg HG.out HB.out.lt ⟨_, rfl, hsl⟩ ⟨HR.out.grown hgr0 (by simp), hk', rfl⟩ hn (grown_none hgr0 _))
        have hB3 := HB.out.grown hgr0 (by simp)
        obtain ⟨⟨d0, d1, d2, d3, d4, d5⟩, q0, q1, q2, q3, q4, q5⟩ := hB3.six
        clear hgr hgr0 hsl hB3
        (refine till_last 12 (by kernel_rfl) rfl rfl (by kernel_rfl) ?_; intro K hK)
        go_wp2_with fail
        refine till_done (by kernel_rfl) ?_
        go_wp2_with fail
        refine bodyPost_ret (by simp [results, Tryd.results17, go_sem, d0, d1, d2, d3, d4, d5]; rfl) rfl ?_
        rw [HDR.out]
        exact HE.out
end Go.Proofs.YtchjbkokjilobaaDoor
