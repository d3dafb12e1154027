/- The walks of text's reader: blank, node, fail. -/
import Derived.Test.YtchjbkokjilobaaDoorTextA
import Derived.Test.YtchjbkokjilobaaDoorTextQ
import Derived.Deep.LoopGhost
import Derived.Deep.QuietTactic
import Derived.BigQuiet
namespace Go.Proofs.YtchjbkokjilobaaDoor
open Go.RowKit

/-- A reader in block g: it reads s, k bytes are read, n nodes were counted; r is what is left. -/
def Rd (w : World) (g : Nat) (s : ByteArray) (k n : Nat) (r : List UInt8) : Prop :=
  Blk w g #[.string s, .int .i64 k, .int .i64 n] 52 ∧ k ≤ s.size ∧ s.data.toList.drop k = r

theorem drop_at (s : ByteArray) (k : Nat) (h : k < s.size) : s.data.toList.drop k = s[k] :: s.data.toList.drop (k + 1) := by
  rw [List.drop_eq_getElem_cons (by simpa using h)]; rfl

theorem skip_blank {s : ByteArray} {c : UInt8} {k : Nat} {r : List UInt8} (hd : s.data.toList.drop k = c :: s.data.toList.drop (k + 1)) (h : Tx.skip false (s.data.toList.drop k) = r)
    (hc : ((c.toNat : Int) == 32) = true ∨ ((c.toNat : Int) == 9) = true ∨ ((c.toNat : Int) == 10) = true) : Tx.skip false (s.data.toList.drop (k + 1)) = r := by
  rw [hd] at h
  unfold Tx.skip at h
  rw [if_pos] at h
  · exact h
  · simp only [beq_iff_eq] at hc
    rcases hc with hc | hc | hc
    · exact .inl (UInt8.toNat_inj.1 (by simp; omega))
    · exact .inr (.inl (UInt8.toNat_inj.1 (by simp; omega)))
    · exact .inr (.inr (UInt8.toNat_inj.1 (by simp; omega)))
theorem not_byte {c : UInt8} {n : Nat} (hn : n < 256) (h : ((c.toNat : Int) == n) = false) : ¬ c = UInt8.ofNat n := by
  rintro rfl
  simp at h
  omega
theorem skip_note {s : ByteArray} {c : UInt8} {k : Nat} {r : List UInt8} (hd : s.data.toList.drop k = c :: s.data.toList.drop (k + 1)) (h : Tx.skip false (s.data.toList.drop k) = r)
    (h1 : ((c.toNat : Int) == 32) = false) (h2 : ((c.toNat : Int) == 9) = false) (h3 : ((c.toNat : Int) == 10) = false) (h4 : ((c.toNat : Int) == 59) = true) : Tx.skip true (s.data.toList.drop k) = r := by
  rw [hd] at h ⊢
  have n1 := not_byte (n := 32) (by omega) h1
  have n2 := not_byte (n := 9) (by omega) h2
  have n3 := not_byte (n := 10) (by omega) h3
  simp only [UInt8.reduceOfNat] at n1 n2 n3
  have e4 : c = 59 := UInt8.toNat_inj.1 (by simp at h4 ⊢; omega)
  unfold Tx.skip at h ⊢
  rw [if_neg (by simp [n1, n2, n3]), if_pos e4] at h
  rw [if_neg n3]
  exact h
theorem skip_in {s : ByteArray} {c : UInt8} {k : Nat} {r : List UInt8} (hd : s.data.toList.drop k = c :: s.data.toList.drop (k + 1)) (h : Tx.skip true (s.data.toList.drop k) = r)
    (h3 : ((c.toNat : Int) == 10) = false) : Tx.skip true (s.data.toList.drop (k + 1)) = r := by
  rw [hd] at h
  have n3 := not_byte (n := 10) (by omega) h3
  simp only [UInt8.reduceOfNat] at n3
  unfold Tx.skip at h
  rw [if_neg n3] at h
  exact h
theorem skip_out {s : ByteArray} {c : UInt8} {k : Nat} {r : List UInt8} (hd : s.data.toList.drop k = c :: s.data.toList.drop (k + 1)) (h : Tx.skip true (s.data.toList.drop k) = r)
    (h3 : ((c.toNat : Int) == 10) = true) : Tx.skip false (s.data.toList.drop k) = r := by
  rw [hd] at h ⊢
  have e : c = 10 := UInt8.toNat_inj.1 (by simp at h3 ⊢; omega)
  unfold Tx.skip at h ⊢
  rw [if_pos e] at h
  rw [if_pos (.inr (.inr e))]
  exact h
theorem skip_end {s : ByteArray} {k : Nat} {r : List UInt8} {b : Bool} (hk : ¬ k < s.size) (h : Tx.skip b (s.data.toList.drop k) = r) : s.data.toList.drop k = r ∧ Tx.skip false (s.data.toList.drop k) = r := by
  rw [List.drop_eq_nil_of_le (by simpa using hk)] at h ⊢
  have : Tx.skip b [] = [] := by cases b <;> rfl
  rw [this] at h
  exact ⟨h, by rw [← h]; rfl⟩
theorem skip_stop {s : ByteArray} {c : UInt8} {k : Nat} {r : List UInt8} (hd : s.data.toList.drop k = c :: s.data.toList.drop (k + 1)) (h : Tx.skip false (s.data.toList.drop k) = r)
    (h1 : ((c.toNat : Int) == 32) = false) (h2 : ((c.toNat : Int) == 9) = false) (h3 : ((c.toNat : Int) == 10) = false) (h4 : ((c.toNat : Int) == 59) = false) : s.data.toList.drop k = r := by
  rw [hd] at h ⊢
  have n1 := not_byte (n := 32) (by omega) h1
  have n2 := not_byte (n := 9) (by omega) h2
  have n3 := not_byte (n := 10) (by omega) h3
  have n4 := not_byte (n := 59) (by omega) h4
  simp only [UInt8.reduceOfNat] at n1 n2 n3 n4
  unfold Tx.skip at h
  rw [if_neg (by simp [n1, n2, n3]), if_neg n4] at h
  exact h

theorem tri {a b c : Bool} (h : a = true ∨ b = true ∨ c = true) : a = true ∨ (a = false ∧ b = true) ∨ (a = false ∧ b = false ∧ c = true) := by
  cases a <;> cases b <;> simp_all
theorem tri_no {a b c : Bool} (h : ¬ (a = true ∨ b = true ∨ c = true)) : a = false ∧ b = false ∧ c = false := by
  cases a <;> cases b <;> cases c <;> simp_all

set_option maxRecDepth 100000 in
set_option maxHeartbeats 1600000 in
theorem blank_any (s : ByteArray) (g k n : Nat) (r : List UInt8) (w : World) (hs : s.size ≤ maxLen) (h : Rd w g s k n r) :
    Calls Tryd.prog 16 #[.pointer (some ⟨g, 0, none⟩)] w fun e w' => e = .returned (.tuple #[]) ∧ w.grownBy w' (some g) ∧ ∃ k', Rd w' g s k' n (Tx.skip false r) := by
  unfold maxLen at hs
  obtain ⟨hb, hk, hr⟩ := h
  have HR := Lib.hid hr
  clear hr
  have HB := Lib.hid hb
  clear hb
  go_enter Tryd.func16, Tryd.ntmps16
  go_wp2_with fail
  go_loopg [2] (s.size - k) (fun q _ wr => ∃ k' : Nat, q = s.size - k' ∧ k' ≤ s.size ∧ Blk wr g #[.string s, .int .i64 k', .int .i64 n] 52 ∧ Tx.skip false (s.data.toList.drop k') = Tx.skip false r ∧ w.grownBy wr (some g))
  case atStart => exact ⟨k, rfl, hk, HB.out, by rw [HR.out], grown_refl _ _⟩
  case round =>
    obtain ⟨k', rfl, hk', hb, hsk, hgr⟩ := hrel
    have c0 : wr.cell? ⟨g, 0, none⟩ = some (.string s) := hb.cell 0
    have c1 : wr.cell? ⟨g, 1, none⟩ = some (.int .i64 k') := hb.cell 1
    have f1 := hb.frozen 1
    have HB' := Lib.hid hb
    have HS' := Lib.hid hsk
    have HG' := Lib.hid hgr
    clear hb hsk hgr HR HB
    by_cases hlt : k' < s.size
    · have hlt' : (k' : Int) < (s.size : Int) := by omega
      have hd := Lib.hid (drop_at s k' hlt)
      by_cases hbl : ((s[k'].toNat : Int) == 32) = true ∨ ((s[k'].toNat : Int) == 9) = true ∨ ((s[k'].toNat : Int) == 10) = true
      · have HN := Lib.hid (skip_blank hd.out HS'.out hbl)
        clear HS' hd
        rcases tri hbl with e1 | ⟨e1, e2⟩ | ⟨e1, e2, e3⟩
        all_goals
          go_wp2_with fail
          go_quiet (fail)
          go_wp2_with fail
          go_quiet (fail)
          go_wp2_with fail
          go_roundg (s.size - (k' + 1))
          case measure => omega
          case rel => exact ⟨k' + 1, rfl, by omega, (HB'.out.drewN _).set 1 _, HN.out, grown_setCell (grown_drewN HG'.out _) 1 none _⟩
      · obtain ⟨e1, e2, e3⟩ := tri_no hbl
        clear hbl
        cases e4 : ((s[k'].toNat : Int) == 59) with
        | true =>
          have HN := Lib.hid (skip_note hd.out HS'.out e1 e2 e3 e4)
          clear HS' hd
          go_wp2_with fail
          go_quiet (fail)
          go_wp2_with fail
          go_quiet (fail)
          go_wp2_with fail
          obtain ⟨wo, rfl⟩ : ∃ wo : World, wo = wr := ⟨_, rfl⟩
          go_loopg [43] (s.size - k') (fun q _ wr => ∃ k2 : Nat, q = s.size - k2 ∧ k' ≤ k2 ∧ k2 ≤ s.size ∧ Blk wr g #[.string s, .int .i64 k2, .int .i64 n] 52 ∧ Tx.skip true (s.data.toList.drop k2) = Tx.skip false r ∧ w.grownBy wr (some g))
          case atStart => exact ⟨k', rfl, by omega, hk', HB'.out, HN.out, grown_drewN HG'.out _⟩
          case round =>
            clear c0 c1 f1
            obtain ⟨k2, rfl, hk2, hk3, hb, hsk, hgr⟩ := hrel
            have c0 : wr.cell? ⟨g, 0, none⟩ = some (.string s) := hb.cell 0
            have c1 : wr.cell? ⟨g, 1, none⟩ = some (.int .i64 k2) := hb.cell 1
            have f1 := hb.frozen 1
            have HB2 := Lib.hid hb
            have HS2 := Lib.hid hsk
            have HG2 := Lib.hid hgr
            have E3 := Lib.hid e3
            clear hb hsk hgr HB' HG' HN e1 e2 e3 e4
            by_cases hl2 : k2 < s.size
            · have hl2' : (k2 : Int) < (s.size : Int) := by omega
              have hl2'' : decide ((k2 : Int) < (s.size : Int)) = true := by simpa using hl2
              have hd := Lib.hid (drop_at s k2 hl2)
              cases e10 : ((s[k2].toNat : Int) == 10) with
              | true =>
                have HN := Lib.hid (skip_out hd.out HS2.out e10)
                have hne : k' < k2 := by
                  rcases Nat.lt_or_ge k' k2 with h | h
                  · exact h
                  · have : k' = k2 := by omega
                    subst this
                    exact absurd E3.out (by rw [e10]; simp)
                have e10' : ((s[k2].toNat : Int) != 10) = false := by simpa using e10
                go_wp2_with fail
                go_quiet (fail)
                go_wp2_with fail
                go_roundg (s.size - k2)
                case measure => omega
                case rel => exact ⟨k2, rfl, by omega, HB2.out, HN.out, grown_drewN HG2.out _⟩
              | false =>
                have HN := Lib.hid (skip_in hd.out HS2.out e10)
                have e10' : ((s[k2].toNat : Int) != 10) = true := by simpa using e10
                go_wp2_with fail
                go_quiet (fail)
                go_wp2_with fail
                go_roundg (s.size - (k2 + 1))
                case measure => omega
                case rel => exact ⟨k2 + 1, rfl, by omega, by omega, (HB2.out.drewN _).set 1 _, HN.out, grown_setCell (grown_drewN HG2.out _) 1 none _⟩
            · have hl2' : ¬ (k2 : Int) < (s.size : Int) := by omega
              have hl2'' : decide ((k2 : Int) < (s.size : Int)) = false := by simpa using hl2
              have HE := Lib.hid (skip_end hl2 HS2.out)
              go_wp2_with fail
              go_quiet (fail)
              go_wp2_with fail
              go_roundg (s.size - k2)
              case measure => omega
              case rel => exact ⟨k2, rfl, by omega, HB2.out, HE.out.2, grown_drewN HG2.out _⟩
        | false =>
          have HE := Lib.hid (skip_stop hd.out HS'.out e1 e2 e3 e4)
          clear HS' hd
          go_wp2_with fail
          go_quiet (fail)
          go_wp2_with fail
          go_quiet (fail)
          go_wp2_with fail
          exact bodyPost_ret (results_none rfl _ _ _) rfl ⟨rfl, grown_drewN HG'.out _, k', HB'.out, hk', HE.out⟩
    · have hlt' : ¬ (k' : Int) < (s.size : Int) := by omega
      have HE := Lib.hid (skip_end hlt HS'.out)
      go_wp2_with fail
      go_quiet (fail)
      go_wp2_with fail
      exact bodyPost_end (results_none rfl _ _ _) rfl ⟨rfl, grown_drewN HG'.out _, k', HB'.out, hk', HE.out.1⟩
end Go.Proofs.YtchjbkokjilobaaDoor
