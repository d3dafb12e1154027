/- The walk of (*reader).datum. -/
import Derived.Test.YtchjbkokjilobaaDoorTextL
namespace Go.Proofs.YtchjbkokjilobaaDoor
open Go.RowKit
set_option linter.unusedVariables false

def quoted : Tx.Res (Datum × List UInt8 × Nat) → Tx.Res (Datum × List UInt8 × Nat)
  | .error e => .error e
  | .ok (d, r, n) => .ok (Tx.list [Tx.sym Tx.quoteName, d], r, n)
theorem out_put {w wc w3 : World} {g k n : Nat} {s : ByteArray} {d : Datum} {r : List UInt8} {x0 x1 x2 x3 x4 x5 : Value} (hg : g < w.heap.size) (hw : w.grownBy wc (some g)) (hR : w.heap.size < wc.heap.size)
    (hx : Dv w3 (fun b => b < wc.heap.size) (.agg #[x0, x1, x2, x3, x4, x5]) d) (hrd : Rd w3 g s k n r) (hn : n ≤ 2000) (hgr : wc.grownBy w3 (some g)) :
    OutPost w g s (.ok (d, r, n)) (.returned (.agg #[x0, x1, x2, x3, x4, x5])) (set6 w3 w.heap.size x0 x1 x2 x3 x4 x5) := by
  have h6 := grown_set6 (grown_refl w3 (some w.heap.size)) x0 x1 x2 x3 x4 x5
  refine ⟨_, k, rfl, (hx.keep (Same.of_grown h6 (fun b hb => by simp at hb; subst hb; exact hR))).mono (fun b hb => by omega), ⟨hrd.1.grown h6 (by simp; omega), hrd.2.1, hrd.2.2⟩, hn, ?_⟩
  exact grown_later (grown_trans hw hgr) h6 (.inr fun i hi => by simp at hi; omega)

theorem quote_end {w w3 w4 : World} {g k n : Nat} {s : ByteArray} {d : Datum} {r : List UInt8} {kv : Value} {o : Obj} (hg : g < w.heap.size) (hR : w.heap.size < w3.heap.size) (hG : w.grownBy w4 (some g)) (h34 : w3.heap.size ≤ w4.heap.size)
    (hsl : Sl w4 (fun b => b < w3.heap.size) kv d.kids) (hrd : Rd w4 g s k n r) (hn : n ≤ 2000) :
    OutPost w g s (quoted (.ok (d, r, n))) (.returned (.agg #[.int .i64 4, .int .i64 0, .string ⟨#[]⟩, .int .i64 0, .int .i64 0, .slice (some ⟨w4.heap.size + 1, 0, none⟩) 2 2]))
      (((set6 w4 w.heap.size (.int .i64 4) (.int .i64 0) (.string ⟨#[]⟩) (.int .i64 0) (.int .i64 0) (.slice (some ⟨w4.heap.size + 1, 0, none⟩) 2 2)).alloc o).alloc
        (.cells #[.int .i64 3, .int .i64 0, .string ⟨#[113, 117, 111, 116, 101]⟩, .int .i64 0, .int .i64 0, .slice none 0 0, .int .i64 d.kind, .int .i64 d.num, .string ⟨d.name.toArray⟩, .int .i64 d.stamp, .int .i64 d.lib, kv] 42)) := by
  have h6 := grown_set6 (grown_refl w4 (some w.heap.size)) (.int .i64 4) (.int .i64 0) (.string ⟨#[]⟩) (.int .i64 0) (.int .i64 0) (.slice (some ⟨w4.heap.size + 1, 0, none⟩) 2 2)
  generalize hw5 : set6 w4 w.heap.size (.int .i64 4) (.int .i64 0) (.string ⟨#[]⟩) (.int .i64 0) (.int .i64 0) (.slice (some ⟨w4.heap.size + 1, 0, none⟩) 2 2) = w5 at *
  have hsz : w5.heap.size = w4.heap.size := by rw [← hw5]; simp [set6, World.setCell]
  have hB := Blk.new (w5.alloc o) #[.int .i64 3, .int .i64 0, .string ⟨#[113, 117, 111, 116, 101]⟩, .int .i64 0, .int .i64 0, .slice none 0 0, .int .i64 d.kind, .int .i64 d.num, .string ⟨d.name.toArray⟩, .int .i64 d.stamp, .int .i64 d.lib, kv] 42
  have e : (w5.alloc o).heap.size = w4.heap.size + 1 := by simp [hsz]
  rw [e] at hB
  have h7 : w4.grownBy ((w5.alloc o).alloc (.cells #[.int .i64 3, .int .i64 0, .string ⟨#[113, 117, 111, 116, 101]⟩, .int .i64 0, .int .i64 0, .slice none 0 0, .int .i64 d.kind, .int .i64 d.num, .string ⟨d.name.toArray⟩, .int .i64 d.stamp, .int .i64 d.lib, kv] 42)) (some w.heap.size) := grown_alloc (grown_alloc h6 _) _
  generalize ((w5.alloc o).alloc (.cells #[.int .i64 3, .int .i64 0, .string ⟨#[113, 117, 111, 116, 101]⟩, .int .i64 0, .int .i64 0, .slice none 0 0, .int .i64 d.kind, .int .i64 d.num, .string ⟨d.name.toArray⟩, .int .i64 d.stamp, .int .i64 d.lib, kv] 42)) = W at *
  have hsl2 : Sl W (fun b => b < w3.heap.size) kv d.kids := hsl.keep (Same.of_grown h7 (fun b hb => by simp at hb; subst hb; exact hR))
  refine ⟨_, k, rfl, ⟨_, rfl, ?_⟩, ⟨hrd.1.grown h7 (by simp; omega), hrd.2.1, hrd.2.2⟩, hn, grown_later hG h7 (.inr fun i hi => by simp at hi; omega)⟩
  refine Sl.mono (M := fun b => b < w3.heap.size) (fun b hb => by omega) ?_
  refine ⟨some ⟨w4.heap.size + 1, 0, none⟩, 2, six 3 0 Tx.quoteName 0 0 (.slice none 0 0) ++ six d.kind d.num d.name d.stamp d.lib kv, rfl, ?_, fun _ => ⟨_, 0, rfl, by omega, ?_⟩⟩
  · refine RowCells.append (ds := [Tx.sym Tx.quoteName]) (es := [d]) (RowCells.one ?_) (RowCells.one ?_)
    · rw [datCells_iff]; exact ⟨_, rfl, Sl.nil _ _⟩
    · rw [datCells_iff]; exact ⟨_, rfl, hsl2⟩
  · intro j u hu
    rw [Nat.zero_add, hB.cell j]
    rw [← hu]
    simp [six, Tx.quoteName]

theorem rd_len {w : World} {g k n : Nat} {s : ByteArray} {r : List UInt8} (h : Rd w g s k n r) : ((s.size : Int) - r.length = k) := by
  have := congrArg List.length h.2.2
  simp at this
  have := h.2.1
  omega
theorem rd_cons {w : World} {g k n : Nat} {s : ByteArray} {c : UInt8} {l : List UInt8} (h : Rd w g s k n (c :: l)) : ∃ hk : k < s.size, s[k] = c ∧ s.data.toList.drop (k + 1) = l := by
  have hk : k < s.size := by
    rcases Nat.lt_or_ge k s.size with h' | h'
    · exact h'
    · have := h.2.2
      rw [List.drop_eq_nil_of_le (by simpa using h')] at this
      cases this
  have h2 := h.2.2
  rw [drop_at s k hk] at h2
  injection h2 with h3 h4
  exact ⟨hk, h3, h4⟩

set_option maxRecDepth 100000 in
set_option maxHeartbeats 800000 in
theorem datum_much (f : Nat) (s : ByteArray) (g k n : Nat) (r : List UInt8) (w : World) (hs : s.size ≤ 6000) (h : Rd w g s k n r) (hn : n ≤ 2000) (deep : Int) (hd0 : -100 ≤ deep) (hd : 2000 < n + 1 ∨ 40 < deep) :
    Calls Tryd.prog 17 #[.pointer (some ⟨g, 0, none⟩), .int .i64 deep] w fun e w' => e = oops 4 k ∧ w.grownBy w' (some g) := by
  have c1 : w.cell? ⟨g, 1, none⟩ = some (.int .i64 k) := h.1.cell 1
  have hg := h.1.lt
  have HR := Lib.hid h
  have HD := Lib.hid hd
  clear h hd
  go_enter Tryd.func17, Tryd.ntmps17
  go_wp2_with fail
  refine (node_no s g k n r deep k _ ⟨HR.out.1.alloc _, HR.out.2⟩ (by omega) HD.out).mono ?_
  rintro e w1 ⟨rfl, hgr1⟩
  go_wp2_with fail
  exact ⟨rfl, rfl, grown_trans (grown_alloc (grown_refl _ _) _) hgr1⟩
set_option maxRecDepth 100000 in
set_option maxHeartbeats 800000 in
theorem datum_end (s : ByteArray) (g k n : Nat) (w : World) (hs : s.size ≤ 6000) (h : Rd w g s k n []) (hn : n + 1 ≤ 2000) (deep : Int) (hd0 : -100 ≤ deep) (hd : deep ≤ 40) :
    Calls Tryd.prog 17 #[.pointer (some ⟨g, 0, none⟩), .int .i64 deep] w (fun e w' => e = oops 2 s.size ∧ w.grownBy w' (some g)) := by
  have c1 : w.cell? ⟨g, 1, none⟩ = some (.int .i64 k) := h.1.cell 1
  have hg := h.1.lt
  have hk := h.2.1
  have hms : s.size ≤ maxLen := by unfold maxLen; omega
  have hms2 : s.size ≤ 9223372036854775807 := by omega
  have HR := Lib.hid h
  have hke : k = s.size := by
    have := h.2.2
    rcases Nat.lt_or_ge k s.size with h' | h'
    · rw [drop_at s k h'] at this; cases this
    · omega
  have HKE := Lib.hid hke
  clear hke
  clear h
  go_enter Tryd.func17, Tryd.ntmps17
  go_wp2_with fail
  refine (node_ok s g k n _ deep k _ ⟨HR.out.1.alloc _, HR.out.2⟩ hn hd).mono ?_
  rintro e w1 ⟨rfl, hgr1, hrd1⟩
  have HG1 := Lib.hid (grown_trans (grown_alloc (grown_refl w (some g)) (.cells zero6 42)) hgr1)
  have hB1 := (Blk.new w zero6 42).grown hgr1 (by simp; omega)
  have HB1 := Lib.hid hB1
  have HR1 := Lib.hid hrd1
  have g0 : w1.cell? ⟨g, 0, none⟩ = some (.string s) := hrd1.1.cell 0
  have g1 : w1.cell? ⟨g, 1, none⟩ = some (.int .i64 k) := hrd1.1.cell 1
  have f1 := hrd1.1.frozen 1
  clear c1 hgr1 hB1 hrd1
  have hke := HKE.out
  subst hke
  have e1 : ((s.size : Int) == (s.size : Int)) = true := by simp
  go_wp2_with (go_at_call 24; refine (fail_any _ _ _).mono ?_; rintro e w' ⟨rfl, rfl⟩)
  exact ⟨rfl, rfl, HG1.out⟩

set_option maxRecDepth 100000 in
set_option maxHeartbeats 800000 in
theorem datum_list (s : ByteArray) (g k n : Nat) (l : List UInt8) (w : World) (hs : s.size ≤ 6000) (h : Rd w g s k n (40 :: l)) (hn : n + 1 ≤ 2000) (deep : Int) (hd0 : -100 ≤ deep) (hd : deep ≤ 40) (f : Nat) (hf : f ≤ 41) (hdeep : deep = 40 - (f : Int)) (HP : Hid (SaidDatum f)) :
    Calls Tryd.prog 17 #[.pointer (some ⟨g, 0, none⟩), .int .i64 deep] w (OutPost w g s (ahead [] (Tx.items s.size (Tx.datum s.size f) (l.length + 1) l (n + 1)))) := by
  have c1 : w.cell? ⟨g, 1, none⟩ = some (.int .i64 k) := h.1.cell 1
  have hg := h.1.lt
  have hk := h.2.1
  have hms : s.size ≤ maxLen := by unfold maxLen; omega
  have hms2 : s.size ≤ 9223372036854775807 := by omega
  have HR := Lib.hid h
  obtain ⟨hlt, hc, hl⟩ := rd_cons h
  have hlt' : (k : Int) < (s.size : Int) := by omega
  have e1 : ((k : Int) == (s.size : Int)) = false := by rw [beq_eq_false_iff_ne]; omega
  have HC := Lib.hid hc
  have HL := Lib.hid hl
  clear hc hl
  have HD := Lib.hid hdeep
  clear hdeep
  clear h
  go_enter Tryd.func17, Tryd.ntmps17
  go_wp2_with fail
  refine (node_ok s g k n _ deep k _ ⟨HR.out.1.alloc _, HR.out.2⟩ hn hd).mono ?_
  rintro e w1 ⟨rfl, hgr1, hrd1⟩
  have HG1 := Lib.hid (grown_trans (grown_alloc (grown_refl w (some g)) (.cells zero6 42)) hgr1)
  have hB1 := (Blk.new w zero6 42).grown hgr1 (by simp; omega)
  have HB1 := Lib.hid hB1
  have HR1 := Lib.hid hrd1
  have g0 : w1.cell? ⟨g, 0, none⟩ = some (.string s) := hrd1.1.cell 0
  have g1 : w1.cell? ⟨g, 1, none⟩ = some (.int .i64 k) := hrd1.1.cell 1
  have f1 := hrd1.1.frozen 1
  clear c1 hgr1 hB1 hrd1
  have e2 : ((s[k].toNat : Int) == 40) = true := by rw [HC.out]; rfl
  go_wp2_with fail
  have hrd2 : Rd (w1.setCell ⟨g, 1, none⟩ (.int .i64 ((k : Int) + 1))) g s (k + 1) (n + 1) l := ⟨HR1.out.1.set 1 _, by omega, HL.out⟩
  have hla := list_any f hf HP s g (k + 1) (n + 1) l _ hs hrd2 hn (l.length + 1) (by omega) (by have := congrArg List.length HL.out; simp at this; omega) deep HD.out
  have HLA := Lib.hid hla
  clear hla hrd2
  generalize hT : Tx.items s.size (Tx.datum s.size f) (l.length + 1) l (n + 1) = T at *
  clear hT
  refine HLA.out.mono ?_
  cases T with
  | error er =>
    rintro e w2 ⟨rfl, hgr2⟩
    go_wp2_with fail
    exact ⟨rfl, rfl, grown_trans HG1.out (grown_trans (grown_setCell (grown_refl _ _) 1 none _) hgr2)⟩
  | ok x =>
    obtain ⟨ds, r', n'⟩ := x
    simp only [ahead, List.nil_append]
    rintro e w2 ⟨x, k', rfl, ⟨kv, rfl, hsl⟩, hrd2, hn2, hgr2⟩
    obtain ⟨kA, kc, rfl⟩ := hsl.form
    have hB2 := (HB1.out.far (p := ⟨g, 1, none⟩) (by simp; omega) (.int .i64 ((k : Int) + 1))).grown hgr2 (by simp; omega)
    have HE := Lib.hid (out_put hg (grown_trans HG1.out (grown_setCell (grown_refl _ _) 1 none _)) ((HB1.out.far (p := ⟨g, 1, none⟩) (by simp; omega) (.int .i64 ((k : Int) + 1))).lt) ⟨_, rfl, hsl⟩ hrd2 hn2 hgr2)
    obtain ⟨⟨d0, d1, d2, d3, d4, d5⟩, q0, q1, q2, q3, q4, q5⟩ := hB2.six
    clear hB2 hsl hrd2 hgr2
    go_wp2_with fail
    refine bodyPost_ret (by simp [results, Tryd.results17, go_sem, d0, d1, d2, d3, d4, d5]; rfl) rfl ?_
    exact HE.out

set_option maxRecDepth 100000 in
set_option maxHeartbeats 800000 in
theorem datum_other (s : ByteArray) (g k n : Nat) (c : UInt8) (l : List UInt8) (w : World) (hs : s.size ≤ 6000) (h : Rd w g s k n (c :: l)) (hn : n + 1 ≤ 2000) (deep : Int) (hd0 : -100 ≤ deep) (hd : deep ≤ 40) (h1 : ¬ c = 40) (h2 : ¬ c = 39) (h3 : ¬ c = 35) (h4 : Tx.letter c = false) :
    Calls Tryd.prog 17 #[.pointer (some ⟨g, 0, none⟩), .int .i64 deep] w (fun e w' => e = oops 2 k ∧ w.grownBy w' (some g)) := by
  have c1 : w.cell? ⟨g, 1, none⟩ = some (.int .i64 k) := h.1.cell 1
  have hg := h.1.lt
  have hk := h.2.1
  have hms : s.size ≤ maxLen := by unfold maxLen; omega
  have hms2 : s.size ≤ 9223372036854775807 := by omega
  have HR := Lib.hid h
  obtain ⟨hlt, hc, hl⟩ := rd_cons h
  have hlt' : (k : Int) < (s.size : Int) := by omega
  have e1 : ((k : Int) == (s.size : Int)) = false := by rw [beq_eq_false_iff_ne]; omega
  have HC := Lib.hid hc
  have HL := Lib.hid hl
  clear hc hl
  have n1 : ((s[k].toNat : Int) == 40) = false := by rw [HC.out, beq_eq_false_iff_ne]; intro e; exact h1 (UInt8.toNat_inj.1 (by simp at e ⊢; omega))
  have n2 : ((s[k].toNat : Int) == 39) = false := by rw [HC.out, beq_eq_false_iff_ne]; intro e; exact h2 (UInt8.toNat_inj.1 (by simp at e ⊢; omega))
  have n3 : ((s[k].toNat : Int) == 35) = false := by rw [HC.out, beq_eq_false_iff_ne]; intro e; exact h3 (UInt8.toNat_inj.1 (by simp at e ⊢; omega))
  have H4 := Lib.hid h4
  clear h1 h2 h3 h4
  clear h
  go_enter Tryd.func17, Tryd.ntmps17
  go_wp2_with fail
  refine (node_ok s g k n _ deep k _ ⟨HR.out.1.alloc _, HR.out.2⟩ hn hd).mono ?_
  rintro e w1 ⟨rfl, hgr1, hrd1⟩
  have HG1 := Lib.hid (grown_trans (grown_alloc (grown_refl w (some g)) (.cells zero6 42)) hgr1)
  have hB1 := (Blk.new w zero6 42).grown hgr1 (by simp; omega)
  have HB1 := Lib.hid hB1
  have HR1 := Lib.hid hrd1
  have g0 : w1.cell? ⟨g, 0, none⟩ = some (.string s) := hrd1.1.cell 0
  have g1 : w1.cell? ⟨g, 1, none⟩ = some (.int .i64 k) := hrd1.1.cell 1
  have f1 := hrd1.1.frozen 1
  clear c1 hgr1 hB1 hrd1
  go_wp2_with (first
    | (go_at_call 26; refine (letter_byte s k hlt false (by rw [HC.out]; exact H4.out) _).mono ?_; rintro e w' ⟨rfl, rfl⟩)
    | (go_at_call 24; refine (fail_any _ _ _).mono ?_; rintro e w' ⟨rfl, rfl⟩))
  exact ⟨rfl, rfl, grown_trans HG1.out (grown_setCell (grown_refl _ _) 1 none _)⟩

set_option maxRecDepth 100000 in
set_option maxHeartbeats 800000 in
theorem datum_quote_no (s : ByteArray) (g k n : Nat) (l : List UInt8) (w : World) (hs : s.size ≤ 6000) (h : Rd w g s k n (39 :: l)) (hn : n + 1 ≤ 2000) (deep : Int) (hd0 : -100 ≤ deep) (hd : deep ≤ 40) (h2 : 2000 < n + 2 ∨ 40 < deep + 1) :
    Calls Tryd.prog 17 #[.pointer (some ⟨g, 0, none⟩), .int .i64 deep] w (fun e w' => e = oops 4 k ∧ w.grownBy w' (some g)) := by
  have c1 : w.cell? ⟨g, 1, none⟩ = some (.int .i64 k) := h.1.cell 1
  have hg := h.1.lt
  have hk := h.2.1
  have hms : s.size ≤ maxLen := by unfold maxLen; omega
  have hms2 : s.size ≤ 9223372036854775807 := by omega
  have HR := Lib.hid h
  obtain ⟨hlt, hc, hl⟩ := rd_cons h
  have hlt' : (k : Int) < (s.size : Int) := by omega
  have e1 : ((k : Int) == (s.size : Int)) = false := by rw [beq_eq_false_iff_ne]; omega
  have HC := Lib.hid hc
  have HL := Lib.hid hl
  clear hc hl
  have H2 := Lib.hid h2
  clear h2
  clear h
  go_enter Tryd.func17, Tryd.ntmps17
  go_wp2_with fail
  refine (node_ok s g k n _ deep k _ ⟨HR.out.1.alloc _, HR.out.2⟩ hn hd).mono ?_
  rintro e w1 ⟨rfl, hgr1, hrd1⟩
  have HG1 := Lib.hid (grown_trans (grown_alloc (grown_refl w (some g)) (.cells zero6 42)) hgr1)
  have hB1 := (Blk.new w zero6 42).grown hgr1 (by simp; omega)
  have HB1 := Lib.hid hB1
  have HR1 := Lib.hid hrd1
  have g0 : w1.cell? ⟨g, 0, none⟩ = some (.string s) := hrd1.1.cell 0
  have g1 : w1.cell? ⟨g, 1, none⟩ = some (.int .i64 k) := hrd1.1.cell 1
  have f1 := hrd1.1.frozen 1
  clear c1 hgr1 hB1 hrd1
  have e2 : ((s[k].toNat : Int) == 40) = false := by rw [HC.out]; rfl
  have e3 : ((s[k].toNat : Int) == 39) = true := by rw [HC.out]; rfl
  have hrd2 : Rd (w1.setCell ⟨g, 1, none⟩ (.int .i64 ((k : Int) + 1))) g s (k + 1) (n + 1) l := ⟨HR1.out.1.set 1 _, by omega, HL.out⟩
  have HR2 := Lib.hid hrd2
  clear hrd2
  go_wp2_with (go_at_call 23; refine (node_no s g (k + 1) (n + 1) l (deep + 1) k _ (by exact HR2.out) (by omega) (by have := H2.out; omega)).mono ?_; rintro e w2 ⟨rfl, hgr2⟩)
  exact ⟨rfl, rfl, grown_trans HG1.out (grown_trans (grown_setCell (grown_refl _ _) 1 none _) hgr2)⟩

set_option maxRecDepth 100000 in
set_option maxHeartbeats 800000 in
theorem datum_quote (s : ByteArray) (g k n : Nat) (l : List UInt8) (w : World) (hs : s.size ≤ 6000) (h : Rd w g s k n (39 :: l)) (hn : n + 1 ≤ 2000) (deep : Int) (hd0 : -100 ≤ deep) (hd : deep ≤ 40) (f : Nat) (hdeep : deep = 40 - (f : Int)) (HP : Hid (SaidDatum f)) (h2 : n + 2 ≤ 2000) (h3 : deep + 1 ≤ 40) :
    Calls Tryd.prog 17 #[.pointer (some ⟨g, 0, none⟩), .int .i64 deep] w (OutPost w g s (quoted (Tx.datum s.size f (Tx.skip false l) (n + 2)))) := by
  have c1 : w.cell? ⟨g, 1, none⟩ = some (.int .i64 k) := h.1.cell 1
  have hg := h.1.lt
  have hk := h.2.1
  have hms : s.size ≤ maxLen := by unfold maxLen; omega
  have hms2 : s.size ≤ 9223372036854775807 := by omega
  have HR := Lib.hid h
  obtain ⟨hlt, hc, hl⟩ := rd_cons h
  have hlt' : (k : Int) < (s.size : Int) := by omega
  have e1 : ((k : Int) == (s.size : Int)) = false := by rw [beq_eq_false_iff_ne]; omega
  have HC := Lib.hid hc
  have HL := Lib.hid hl
  clear hc hl
  have HD := Lib.hid hdeep
  clear hdeep
  clear h
  go_enter Tryd.func17, Tryd.ntmps17
  go_wp2_with fail
  refine (node_ok s g k n _ deep k _ ⟨HR.out.1.alloc _, HR.out.2⟩ hn hd).mono ?_
  rintro e w1 ⟨rfl, hgr1, hrd1⟩
  have HG1 := Lib.hid (grown_trans (grown_alloc (grown_refl w (some g)) (.cells zero6 42)) hgr1)
  have hB1 := (Blk.new w zero6 42).grown hgr1 (by simp; omega)
  have HB1 := Lib.hid hB1
  have HR1 := Lib.hid hrd1
  have g0 : w1.cell? ⟨g, 0, none⟩ = some (.string s) := hrd1.1.cell 0
  have g1 : w1.cell? ⟨g, 1, none⟩ = some (.int .i64 k) := hrd1.1.cell 1
  have f1 := hrd1.1.frozen 1
  clear c1 hgr1 hB1 hrd1
  have e2 : ((s[k].toNat : Int) == 40) = false := by rw [HC.out]; rfl
  have e3 : ((s[k].toNat : Int) == 39) = true := by rw [HC.out]; rfl
  have hrd2 : Rd (w1.setCell ⟨g, 1, none⟩ (.int .i64 ((k : Int) + 1))) g s (k + 1) (n + 1) l := ⟨HR1.out.1.set 1 _, by omega, HL.out⟩
  have HR2 := Lib.hid hrd2
  clear hrd2
  go_wp2_with fail
  refine (node_ok s g (k + 1) (n + 1) l (deep + 1) k _ (by exact HR2.out) (by omega) (by omega)).mono ?_
  rintro e w2 ⟨rfl, hgr2, hrd3⟩
  go_wp2_with fail
  refine (blank_any s g (k + 1) (n + 1 + 1) l _ hms hrd3).mono ?_
  rintro e w3 ⟨rfl, hgr3, k3, hrd4⟩
  have HG3 := Lib.hid (grown_trans HG1.out (grown_trans (grown_trans (grown_setCell (grown_refl w1 (some g)) 1 none (.int .i64 ((k : Int) + 1))) hgr2) hgr3))
  have HB3 := Lib.hid ((((HB1.out.far (p := ⟨g, 1, none⟩) (by simp; omega) (.int .i64 ((k : Int) + 1))).grown hgr2 (by simp; omega)).grown hgr3 (by simp; omega)))
  clear hgr2 hgr3 hrd3
  go_wp2_with fail
  have hla := HP.out s g k3 (n + 2) _ w3 hs hrd4 (by omega) (deep + 1) (by have := HD.out; omega)
  have HLA := Lib.hid hla
  clear hla hrd4
  generalize hT : Tx.datum s.size f (Tx.skip false l) (n + 2) = T at *
  clear hT
  refine HLA.out.mono ?_
  cases T with
  | error er =>
    rintro e w4 ⟨rfl, hgr4⟩
    go_wp2_with fail
    exact ⟨rfl, show OutPost w g s (.error er) _ _ from ⟨rfl, grown_trans HG3.out hgr4⟩⟩
  | ok x =>
    obtain ⟨d, r', n'⟩ := x
    rintro e w4 ⟨x, k', rfl, ⟨kv, rfl, hsl⟩, hrd5, hn5, hgr4⟩
    obtain ⟨kA, kc, rfl⟩ := hsl.form
    have hB4 := HB3.out.grown hgr4 (by simp; omega)
    have HB4 := Lib.hid hB4
    have hlt4 := hB4.lt
    have hgr5 := hgr4.size
    have HG4 := Lib.hid (grown_trans HG3.out hgr4)
    have HSL := Lib.hid hsl
    have HR5 := Lib.hid hrd5
    obtain ⟨⟨d0, d1, d2, d3, d4, d5⟩, q0, q1, q2, q3, q4, q5⟩ := hB4.six
    clear hB4 hsl hrd5 hgr4
    go_wp2_with fail
    refine bodyPost_ret (v := .agg #[.int .i64 4, .int .i64 0, .string ⟨#[]⟩, .int .i64 0, .int .i64 0, .slice (some ⟨w4.heap.size + 1, 0, none⟩) 2 2]) (by simp [results, Tryd.results17, go_sem, *]) rfl ?_
    exact quote_end hg HB3.out.lt HG4.out hgr5 HSL.out HR5.out hn5

end Go.Proofs.YtchjbkokjilobaaDoor
