/- What is wrong with data: the plain function, and the walks of (*shaper).datum and text.Wrong. -/
import Derived.Test.YtchjbkokjilobaaDoorTextA
import Derived.Test.YtchjbkokjilobaaDoorTextQ
import Derived.Deep.LoopGhost
namespace Go.Proofs.YtchjbkokjilobaaDoor
open Go.RowKit
set_option linter.unusedVariables false

namespace Tx
def shapes (sh : Datum → Nat → Int × Nat) : List Datum → Nat → Int × Nat
  | [], n => (0, n)
  | d :: ds, n => if (sh d n).1 = 0 then shapes sh ds (sh d n).2 else sh d n
/-- what is wrong with a datum, and how many nodes were counted; f: how much deeper it may be -/
def shape : Nat → Datum → Nat → Int × Nat
  | 0, _, n => (4, n + 1)
  | f + 1, d, n =>
    if n + 1 > 2000 then (4, n + 1)
    else if d.kind = 1 then (if d.num > 1000000000000000 ∨ d.num < -1000000000000000 then 3 else 0, n + 1)
    else if d.kind = 2 then (if d.num ≠ 0 ∧ d.num ≠ 1 then 3 else 0, n + 1)
    else if d.kind = 3 then (if named d.name = false then 7 else if d.stamp ≠ 0 ∨ d.lib ≠ 0 then 8 else 0, n + 1)
    else if d.kind = 4 then shapes (shape f) d.kids (n + 1)
    else (1, n + 1)
def wrongs (i : Nat) : List Datum → Nat → Int × Int
  | [], _ => (0, 0)
  | d :: ds, n => if (shape 40 d n).1 = 0 then wrongs (i + 1) ds (shape 40 d n).2 else ((shape 40 d n).1, i)
def wrong (l : List Datum) : Int × Int := wrongs 0 l 0
mutual
/-- names and lists of bounded length -/
def SmallD (S : Nat) : Datum → Prop
  | .mk _ _ s _ _ ks => s.length ≤ S ∧ ks.length ≤ S ∧ SmallL S ks
def SmallL (S : Nat) : List Datum → Prop
  | [] => True
  | d :: ds => SmallD S d ∧ SmallL S ds
end
theorem SmallD.name {S : Nat} {d : Datum} (h : SmallD S d) : d.name.length ≤ S := by cases d; unfold SmallD at h; exact h.1
theorem SmallD.len {S : Nat} {d : Datum} (h : SmallD S d) : d.kids.length ≤ S := by cases d; unfold SmallD at h; exact h.2.1
theorem SmallD.kids {S : Nat} {d : Datum} (h : SmallD S d) : SmallL S d.kids := by cases d; unfold SmallD at h; exact h.2.2
theorem SmallL.get {S : Nat} : ∀ {ds : List Datum} {i : Nat} {d : Datum}, SmallL S ds → ds[i]? = some d → SmallD S d
  | [], i, d, h, hi => by simp at hi
  | e :: ds, 0, d, h, hi => by
    unfold SmallL at h
    simp at hi
    exact hi ▸ h.1
  | e :: ds, i + 1, d, h, hi => by
    unfold SmallL at h
    exact h.2.get (by simpa using hi)
theorem shapes_le {sh : Datum → Nat → Int × Nat} (h : ∀ d n, (sh d n).1 = 0 → (sh d n).2 ≤ 2000) : ∀ (ds : List Datum) (n : Nat), n ≤ 2000 → (shapes sh ds n).1 = 0 → (shapes sh ds n).2 ≤ 2000
  | [], n, hn, _ => hn
  | d :: ds, n, hn, h0 => by
    unfold shapes at h0 ⊢
    split at h0
    · rename_i h1
      rw [if_pos h1]
      exact shapes_le h ds _ (h d n h1) h0
    · rename_i h1
      exact absurd h0 h1
theorem shape_le : ∀ (f : Nat) (d : Datum) (n : Nat), (shape f d n).1 = 0 → (shape f d n).2 ≤ 2000
  | 0, d, n, h => by simp [shape] at h
  | f + 1, d, n, h => by
    unfold shape at h ⊢
    repeat' split
    all_goals (try simp_all)
    all_goals (try omega)
    exact shapes_le (shape_le f) _ _ (by omega) h
end Tx

/-- six cells at b, off: datum d -/
def At6 (w : World) (b off : Nat) (d : Datum) (kv : Value) : Prop :=
  w.cell? ⟨b, off, none⟩ = some (.int .i64 d.kind) ∧ w.cell? ⟨b, off + 1, none⟩ = some (.int .i64 d.num) ∧
  w.cell? ⟨b, off + 2, none⟩ = some (.string ⟨d.name.toArray⟩) ∧ w.cell? ⟨b, off + 3, none⟩ = some (.int .i64 d.stamp) ∧ w.cell? ⟨b, off + 4, none⟩ = some (.int .i64 d.lib) ∧ w.cell? ⟨b, off + 5, none⟩ = some kv
theorem At6.over {w w' : World} {b off : Nat} {d : Datum} {kv : Value} (h : At6 w b off d kv) {row : Option Nat} (hg : w.grownBy w' row) (hb : some b ≠ row) : At6 w' b off d kv := by
  have hl := lt_of_cell h.1
  have he : ∀ o, w'.cell? ⟨b, o, none⟩ = w.cell? ⟨b, o, none⟩ := fun o => World.cell?_of_block (hg.block b hl hb)
  unfold At6
  rw [he, he, he, he, he, he]
  exact h
theorem At6.of {w : World} {M : Nat → Prop} {v : Value} {ds : List Datum} (h : Sl w M v ds) (hne : ds ≠ []) : ∃ b off cap, v = .slice (some ⟨b, off, none⟩) ds.length cap ∧ ¬ M b ∧ b < w.heap.size ∧ ∀ i d, ds[i]? = some d → ∃ kv, At6 w b (off + i * 6) d kv ∧ Sl w M kv d.kids := by
  obtain ⟨A, cap, hv, hc⟩ := h.at_
  obtain ⟨b, off, rfl, hM, hb, hall⟩ := hc hne
  refine ⟨b, off, cap, hv, hM, hb, fun i d hi => ?_⟩
  obtain ⟨kv, h0, h1, h2, h3, h4, h5, hk⟩ := hall i d hi
  exact ⟨kv, ⟨h0, h1, h2, h3, h4, h5⟩, hk⟩

def SaidShape (f : Nat) : Prop := ∀ (d : Datum) (g b off n : Nat) (kv : Value) (w : World), Tx.SmallD 140737488351232 d → Blk w g #[.int .i64 n] 57 → n ≤ 2000 → b ≠ g → At6 w b off d kv → Sl w (fun x => x = g) kv d.kids → ∀ deep : Int, deep = 41 - (f : Int) → -100 ≤ deep →
  Calls Tryd.prog 19 #[.pointer (some ⟨g, 0, none⟩), .pointer (some ⟨b, off, none⟩), .int .i64 deep] w fun e w' =>
    e = .returned (.int .i64 (Tx.shape f d n).1) ∧ Blk w' g #[.int .i64 (Tx.shape f d n).2] 57 ∧ w.grownBy w' (some g)

set_option maxRecDepth 100000 in
set_option maxHeartbeats 800000 in
theorem shape_much (d : Datum) (g b off n : Nat) (w : World) (hb : Blk w g #[.int .i64 n] 57) (hn : n ≤ 2000) (deep : Int) (h : 2000 < (n : Int) + 1 ∨ 40 < deep) :
    Calls Tryd.prog 19 #[.pointer (some ⟨g, 0, none⟩), .pointer (some ⟨b, off, none⟩), .int .i64 deep] w fun e w' =>
      e = .returned (.int .i64 4) ∧ Blk w' g #[.int .i64 (n + 1 : Nat)] 57 ∧ w.grownBy w' (some g) := by
  have c0 : w.cell? ⟨g, 0, none⟩ = some (.int .i64 n) := hb.cell 0
  have f0 := hb.frozen 0
  have c1 : ∀ v, (w.setCell ⟨g, 0, none⟩ v).cell? ⟨g, 0, none⟩ = some v := fun v => (hb.set 0 v).cell 0
  have HB := Lib.hid hb
  have hn' : (n : Int) ≤ 2000 := by omega
  clear hb
  by_cases h1 : 2000 < (n : Int) + 1
  · go_enter Tryd.func19, Tryd.ntmps19
    go_wp2_with fail
    all_goals go_ret
    exact ⟨rfl, HB.out.set 0 _, grown_setCell (grown_refl _ _) 0 none _⟩
  · have h2 : 40 < deep := by omega
    go_enter Tryd.func19, Tryd.ntmps19
    go_wp2_with fail
    all_goals go_ret
    exact ⟨rfl, HB.out.set 0 _, grown_setCell (grown_refl _ _) 0 none _⟩

set_option maxRecDepth 100000 in
set_option maxHeartbeats 1600000 in
theorem shape_num (d : Datum) (g b off n : Nat) (kv : Value) (w : World) (hsm : Tx.SmallD 140737488351232 d) (hb : Blk w g #[.int .i64 n] 57) (hn : n + 1 ≤ 2000) (hne : b ≠ g) (hat : At6 w b off d kv) (deep : Int) (hd : deep ≤ 40) (hk : d.kind = 1) (R : Int) (hR : (if d.num > 1000000000000000 ∨ d.num < -1000000000000000 then 3 else 0) = R) :
    Calls Tryd.prog 19 #[.pointer (some ⟨g, 0, none⟩), .pointer (some ⟨b, off, none⟩), .int .i64 deep] w fun e w' =>
      e = .returned (.int .i64 R) ∧ Blk w' g #[.int .i64 (n + 1 : Nat)] 57 ∧ w.grownBy w' (some g) := by
  have c0 : w.cell? ⟨g, 0, none⟩ = some (.int .i64 n) := hb.cell 0
  have f0 := hb.frozen 0
  have c1 : ∀ v, (w.setCell ⟨g, 0, none⟩ v).cell? ⟨g, 0, none⟩ = some v := fun v => (hb.set 0 v).cell 0
  obtain ⟨a0, a1, a2, a3, a4, a5⟩ := hat
  have HB := Lib.hid hb
  have hn1 : (n : Int) + 1 ≤ 2000 := by omega
  have hn2 : ¬ 2000 < (n : Int) + 1 := by omega
  have hd2 : ¬ 40 < deep := by omega
  have hne' : ¬ g = b := fun e => hne e.symm
  have k1 : (d.kind == 1) = true := by rw [hk]; rfl
  have k2 : (d.kind == 2) = false := by rw [hk]; rfl
  have k3 : (d.kind == 3) = false := by rw [hk]; rfl
  have k4 : (d.kind == 4) = false := by rw [hk]; rfl
  have HK := Lib.hid hk
  clear hk
  clear hb
  rcases (show 1000000000000000 < d.num ∨ (¬ 1000000000000000 < d.num ∧ d.num < -1000000000000000) ∨ (¬ 1000000000000000 < d.num ∧ ¬ d.num < -1000000000000000) by omega) with h1 | ⟨h1, h2⟩ | ⟨h1, h2⟩
  · obtain rfl : R = 3 := by rw [← hR]; exact if_pos (.inl h1)
    clear hR
    go_enter Tryd.func19, Tryd.ntmps19
    go_wp2_with (fail)
    all_goals go_ret
    exact ⟨rfl, HB.out.set 0 _, grown_setCell (grown_refl _ _) 0 none _⟩
  · obtain rfl : R = 3 := by rw [← hR]; exact if_pos (.inr h2)
    clear hR
    go_enter Tryd.func19, Tryd.ntmps19
    go_wp2_with (fail)
    all_goals go_ret
    exact ⟨rfl, HB.out.set 0 _, grown_setCell (grown_refl _ _) 0 none _⟩
  · obtain rfl : R = 0 := by rw [← hR]; exact if_neg (by omega)
    clear hR
    go_enter Tryd.func19, Tryd.ntmps19
    go_wp2_with (fail)
    all_goals go_ret
    exact ⟨rfl, HB.out.set 0 _, grown_setCell (grown_refl _ _) 0 none _⟩

set_option maxRecDepth 100000 in
set_option maxHeartbeats 1600000 in
theorem shape_truth (d : Datum) (g b off n : Nat) (kv : Value) (w : World) (hsm : Tx.SmallD 140737488351232 d) (hb : Blk w g #[.int .i64 n] 57) (hn : n + 1 ≤ 2000) (hne : b ≠ g) (hat : At6 w b off d kv) (deep : Int) (hd : deep ≤ 40) (hk : d.kind = 2) (R : Int) (hR : (if d.num ≠ 0 ∧ d.num ≠ 1 then 3 else 0) = R) :
    Calls Tryd.prog 19 #[.pointer (some ⟨g, 0, none⟩), .pointer (some ⟨b, off, none⟩), .int .i64 deep] w fun e w' =>
      e = .returned (.int .i64 R) ∧ Blk w' g #[.int .i64 (n + 1 : Nat)] 57 ∧ w.grownBy w' (some g) := by
  have c0 : w.cell? ⟨g, 0, none⟩ = some (.int .i64 n) := hb.cell 0
  have f0 := hb.frozen 0
  have c1 : ∀ v, (w.setCell ⟨g, 0, none⟩ v).cell? ⟨g, 0, none⟩ = some v := fun v => (hb.set 0 v).cell 0
  obtain ⟨a0, a1, a2, a3, a4, a5⟩ := hat
  have HB := Lib.hid hb
  have hn1 : (n : Int) + 1 ≤ 2000 := by omega
  have hn2 : ¬ 2000 < (n : Int) + 1 := by omega
  have hd2 : ¬ 40 < deep := by omega
  have hne' : ¬ g = b := fun e => hne e.symm
  have k1 : (d.kind == 1) = false := by rw [hk]; rfl
  have k2 : (d.kind == 2) = true := by rw [hk]; rfl
  have k3 : (d.kind == 3) = false := by rw [hk]; rfl
  have k4 : (d.kind == 4) = false := by rw [hk]; rfl
  have HK := Lib.hid hk
  clear hk
  clear hb
  cases h1 : (d.num != 0) with
  | false =>
    obtain rfl : R = 0 := by rw [← hR]; exact if_neg (by simp at h1; simp [h1])
    clear hR
    go_enter Tryd.func19, Tryd.ntmps19
    go_wp2_with (fail)
    all_goals go_ret
    exact ⟨rfl, HB.out.set 0 _, grown_setCell (grown_refl _ _) 0 none _⟩
  | true =>
    cases h2 : (d.num != 1) with
    | false =>
      obtain rfl : R = 0 := by rw [← hR]; exact if_neg (by simp at h2; simp [h2])
      clear hR
      go_enter Tryd.func19, Tryd.ntmps19
      go_wp2_with (fail)
      all_goals go_ret
      exact ⟨rfl, HB.out.set 0 _, grown_setCell (grown_refl _ _) 0 none _⟩
    | true =>
      obtain rfl : R = 3 := by rw [← hR]; exact if_pos (by simp at h1 h2; exact ⟨h1, h2⟩)
      clear hR
      go_enter Tryd.func19, Tryd.ntmps19
      go_wp2_with (fail)
      all_goals go_ret
      exact ⟨rfl, HB.out.set 0 _, grown_setCell (grown_refl _ _) 0 none _⟩

set_option maxRecDepth 100000 in
set_option maxHeartbeats 1600000 in
theorem shape_sym (d : Datum) (g b off n : Nat) (kv : Value) (w : World) (hsm : Tx.SmallD 140737488351232 d) (hb : Blk w g #[.int .i64 n] 57) (hn : n + 1 ≤ 2000) (hne : b ≠ g) (hat : At6 w b off d kv) (deep : Int) (hd : deep ≤ 40) (hk : d.kind = 3) (R : Int) (hR : (if Tx.named d.name = false then 7 else if d.stamp ≠ 0 ∨ d.lib ≠ 0 then 8 else 0) = R) :
    Calls Tryd.prog 19 #[.pointer (some ⟨g, 0, none⟩), .pointer (some ⟨b, off, none⟩), .int .i64 deep] w fun e w' =>
      e = .returned (.int .i64 R) ∧ Blk w' g #[.int .i64 (n + 1 : Nat)] 57 ∧ w.grownBy w' (some g) := by
  have c0 : w.cell? ⟨g, 0, none⟩ = some (.int .i64 n) := hb.cell 0
  have f0 := hb.frozen 0
  have c1 : ∀ v, (w.setCell ⟨g, 0, none⟩ v).cell? ⟨g, 0, none⟩ = some v := fun v => (hb.set 0 v).cell 0
  obtain ⟨a0, a1, a2, a3, a4, a5⟩ := hat
  have HB := Lib.hid hb
  have hn1 : (n : Int) + 1 ≤ 2000 := by omega
  have hn2 : ¬ 2000 < (n : Int) + 1 := by omega
  have hd2 : ¬ 40 < deep := by omega
  have hne' : ¬ g = b := fun e => hne e.symm
  have k1 : (d.kind == 1) = false := by rw [hk]; rfl
  have k2 : (d.kind == 2) = false := by rw [hk]; rfl
  have k3 : (d.kind == 3) = true := by rw [hk]; rfl
  have k4 : (d.kind == 4) = false := by rw [hk]; rfl
  have HK := Lib.hid hk
  clear hk
  have hsz : (⟨d.name.toArray⟩ : ByteArray).size ≤ maxLen := by have := hsm.name; show d.name.toArray.size ≤ _; simp; unfold maxLen; omega
  have hnm : Tx.named (⟨d.name.toArray⟩ : ByteArray).data.toList = Tx.named d.name := by simp
  clear hb
  cases h0 : Tx.named d.name with
  | false =>
    rw [h0] at hnm
    obtain rfl : R = 7 := by rw [← hR]; exact if_pos h0
    clear hR
    go_enter Tryd.func19, Tryd.ntmps19
    go_wp2_with (go_at_call 28; refine (Named_any ⟨d.name.toArray⟩ _ hsz).mono ?_; rw [hnm]; rintro e w2 ⟨rfl, rfl⟩)
    all_goals go_ret
    exact ⟨rfl, HB.out.set 0 _, grown_setCell (grown_refl _ _) 0 none _⟩
  | true =>
    rw [h0] at hnm
    cases h1 : (d.stamp != 0) with
    | true =>
      obtain rfl : R = 8 := by rw [← hR]; exact (if_neg (by simp [h0])).trans (if_pos (.inl (by simpa using h1)))
      clear hR
      go_enter Tryd.func19, Tryd.ntmps19
      go_wp2_with (go_at_call 28; refine (Named_any ⟨d.name.toArray⟩ _ hsz).mono ?_; rw [hnm]; rintro e w2 ⟨rfl, rfl⟩)
      all_goals go_ret
      exact ⟨rfl, HB.out.set 0 _, grown_setCell (grown_refl _ _) 0 none _⟩
    | false =>
      cases h2 : (d.lib != 0) with
      | true =>
        obtain rfl : R = 8 := by rw [← hR]; exact (if_neg (by simp [h0])).trans (if_pos (.inr (by simpa using h2)))
        clear hR
        go_enter Tryd.func19, Tryd.ntmps19
        go_wp2_with (go_at_call 28; refine (Named_any ⟨d.name.toArray⟩ _ hsz).mono ?_; rw [hnm]; rintro e w2 ⟨rfl, rfl⟩)
        all_goals go_ret
        exact ⟨rfl, HB.out.set 0 _, grown_setCell (grown_refl _ _) 0 none _⟩
      | false =>
        obtain rfl : R = 0 := by rw [← hR]; exact (if_neg (by simp [h0])).trans (if_neg (by simp at h1 h2; simp [h1, h2]))
        clear hR
        go_enter Tryd.func19, Tryd.ntmps19
        go_wp2_with (go_at_call 28; refine (Named_any ⟨d.name.toArray⟩ _ hsz).mono ?_; rw [hnm]; rintro e w2 ⟨rfl, rfl⟩)
        all_goals go_ret
        exact ⟨rfl, HB.out.set 0 _, grown_setCell (grown_refl _ _) 0 none _⟩

set_option maxRecDepth 100000 in
set_option maxHeartbeats 1600000 in
theorem shape_none (d : Datum) (g b off n : Nat) (kv : Value) (w : World) (hsm : Tx.SmallD 140737488351232 d) (hb : Blk w g #[.int .i64 n] 57) (hn : n + 1 ≤ 2000) (hne : b ≠ g) (hat : At6 w b off d kv) (deep : Int) (hd : deep ≤ 40) (k1 : (d.kind == 1) = false) (k2 : (d.kind == 2) = false) (k3 : (d.kind == 3) = false) (k4 : (d.kind == 4) = false) (R : Int) (hR : ((1 : Int)) = R) :
    Calls Tryd.prog 19 #[.pointer (some ⟨g, 0, none⟩), .pointer (some ⟨b, off, none⟩), .int .i64 deep] w fun e w' =>
      e = .returned (.int .i64 R) ∧ Blk w' g #[.int .i64 (n + 1 : Nat)] 57 ∧ w.grownBy w' (some g) := by
  have c0 : w.cell? ⟨g, 0, none⟩ = some (.int .i64 n) := hb.cell 0
  have f0 := hb.frozen 0
  have c1 : ∀ v, (w.setCell ⟨g, 0, none⟩ v).cell? ⟨g, 0, none⟩ = some v := fun v => (hb.set 0 v).cell 0
  obtain ⟨a0, a1, a2, a3, a4, a5⟩ := hat
  have HB := Lib.hid hb
  have hn1 : (n : Int) + 1 ≤ 2000 := by omega
  have hn2 : ¬ 2000 < (n : Int) + 1 := by omega
  have hd2 : ¬ 40 < deep := by omega
  have hne' : ¬ g = b := fun e => hne e.symm

  clear hb
  obtain rfl : R = 1 := hR.symm
  clear hR
  go_enter Tryd.func19, Tryd.ntmps19
  go_wp2_with (fail)
  all_goals go_ret
  exact ⟨rfl, HB.out.set 0 _, grown_setCell (grown_refl _ _) 0 none _⟩


/-- what holds at the head of each round over kids -/
def ShapeRel (f g : Nat) (w : World) (ds : List Datum) (T : Int × Nat) (q : Nat) (p : Value) (wr : World) : Prop :=
  ∃ i n' : Nat, q = ds.length - i ∧ p = .int .i64 i ∧ i ≤ ds.length ∧ Blk wr g #[.int .i64 n'] 57 ∧ n' ≤ 2000 ∧ Tx.shapes (Tx.shape f) (ds.drop i) n' = T ∧ w.grownBy wr (some g)

set_option maxRecDepth 100000 in
set_option maxHeartbeats 1600000 in
theorem shape_list (f : Nat) (HP : Hid (SaidShape f)) (d : Datum) (g b off n : Nat) (kv : Value) (w : World) (hsm : Tx.SmallD 140737488351232 d) (hb : Blk w g #[.int .i64 n] 57) (hn : n + 1 ≤ 2000) (hne : b ≠ g) (hat : At6 w b off d kv) (hsl : Sl w (fun x => x = g) kv d.kids) (deep : Int) (hd : deep ≤ 40) (hd0 : -100 ≤ deep) (hf : deep = 40 - (f : Int)) (hk : d.kind = 4) (T : Int × Nat) (hT : Tx.shapes (Tx.shape f) d.kids (n + 1) = T) :
    Calls Tryd.prog 19 #[.pointer (some ⟨g, 0, none⟩), .pointer (some ⟨b, off, none⟩), .int .i64 deep] w fun e w' =>
      e = .returned (.int .i64 T.1) ∧ Blk w' g #[.int .i64 T.2] 57 ∧ w.grownBy w' (some g) := by
  have c0 : w.cell? ⟨g, 0, none⟩ = some (.int .i64 n) := hb.cell 0
  have f0 := hb.frozen 0
  have c1 : ∀ v, (w.setCell ⟨g, 0, none⟩ v).cell? ⟨g, 0, none⟩ = some v := fun v => (hb.set 0 v).cell 0
  obtain ⟨kA, kc, rfl⟩ := hsl.form
  have HAT := Lib.hid hat
  obtain ⟨a0, a1, a2, a3, a4, a5⟩ := hat
  have HB := Lib.hid hb
  have HS := Lib.hid hsl
  have HT := Lib.hid hT
  have HF := Lib.hid hf
  have hn1 : (n : Int) + 1 ≤ 2000 := by omega
  have hn2 : ¬ 2000 < (n : Int) + 1 := by omega
  have hd2 : ¬ 40 < deep := by omega
  have hne' : ¬ g = b := fun e => hne e.symm
  have k1 : (d.kind == 1) = false := by rw [hk]; rfl
  have k2 : (d.kind == 2) = false := by rw [hk]; rfl
  have k3 : (d.kind == 3) = false := by rw [hk]; rfl
  have k4 : (d.kind == 4) = true := by rw [hk]; rfl
  have hkl := hsm.len
  have hkl2 : d.kids.length ≤ maxLen := by unfold maxLen; omega
  clear hb hk hsl hT hf
  go_enter Tryd.func19, Tryd.ntmps19
  go_wp2_with fail
  have hgr0 := Lib.hid (grown_setCell (grown_refl w (some g)) 0 none (.int .i64 ((n : Int) + 1)))
  have hB0 : Hid (Blk (w.setCell ⟨g, 0, none⟩ (.int .i64 ((n : Int) + 1))) g #[.int .i64 (n + 1 : Nat)] 57) := Lib.hid (HB.out.set 0 _)
  generalize w.setCell ⟨g, 0, none⟩ (.int .i64 ((n : Int) + 1)) = w0 at *
  go_loopg [84] d.kids.length (fun q p wr => ShapeRel f g w d.kids T q p wr)
  case atStart => exact ⟨0, n + 1, by simp, rfl, by omega, hB0.out, hn, by simpa using HT.out, hgr0.out⟩
  case round =>
    obtain ⟨i, n', rfl, rfl, hi, hb, hn', hT, hgr⟩ := hrel
    have HAr := Lib.hid (HAT.out.over hgr (by simpa using hne))
    have s5 : wr.cell? ⟨b, off + 5, none⟩ = some (.slice kA d.kids.length kc) := HAr.out.2.2.2.2.2
    have HB := Lib.hid hb
    have HT := Lib.hid hT
    have HG := Lib.hid hgr
    clear c0 f0 c1 a0 a1 a2 a3 a4 a5 hb hT hgr
    by_cases hlt : i < d.kids.length
    · have hlt' : (i : Int) < (d.kids.length : Int) := by omega
      obtain ⟨x, hx⟩ : ∃ x, d.kids[i]? = some x := ⟨d.kids[i], by simp [hlt]⟩
      have hsr := HS.out.keep (Same.of_grown HG.out (fun k hk => by simp at hk; exact hk.symm))
      obtain ⟨kb, ko, cap, hkv, hkM, hkb, hall⟩ := At6.of hsr (by intro e; rw [e] at hlt; simp at hlt)
      injection hkv with hkA _ hkc
      subst hkA hkc
      obtain ⟨xv, hxa, hxs⟩ := hall i x hx
      have hdrop : d.kids.drop i = x :: d.kids.drop (i + 1) := by
        rw [List.drop_eq_getElem_cons hlt]
        congr 1
        rw [List.getElem?_eq_getElem hlt] at hx
        injection hx
      have hstep := HT.out
      rw [hdrop, Tx.shapes] at hstep
      have HXA := Lib.hid hxa
      have HXS := Lib.hid hxs
      have HXM := Lib.hid (hsm.kids.get hx)
      have hle := Tx.shape_le f x n'
      by_cases h0 : (Tx.shape f x n').1 = 0
      · rw [if_pos h0] at hstep
        have HST := Lib.hid hstep
        have HLE := Lib.hid (hle h0)
        have HH := Lib.hid h0
        clear hstep hle hxa hxs hx hdrop hall hsr
        go_wp2_with (go_at_call 19; refine (HP.out x g kb (ko + i * 6) n' xv _ HXM.out (by exact HB.out) hn' hkM HXA.out HXS.out (deep + 1) (by have := HF.out; omega) (by omega)).mono ?_; rw [HH.out]; rintro e w2 ⟨rfl, hb2, hgr2⟩; have HB2 := Lib.hid hb2; have HG2 := Lib.hid hgr2; clear hb2 hgr2)
        go_roundg (d.kids.length - (i + 1))
        case measure => omega
        case rel => exact ⟨i + 1, _, rfl, rfl, by omega, HB2.out, HLE.out, HST.out, grown_trans HG.out HG2.out⟩
      · rw [if_neg h0] at hstep
        have HST := Lib.hid hstep
        have h0' : ((Tx.shape f x n').1 != 0) = true := by simpa using h0
        clear hstep hle hxa hxs hx hdrop hall hsr h0
        generalize hR : Tx.shape f x n' = R at *
        have HR := Lib.hid hR
        clear hR
        go_wp2_with (go_at_call 19; refine (HP.out x g kb (ko + i * 6) n' xv _ HXM.out (by exact HB.out) hn' hkM HXA.out HXS.out (deep + 1) (by have := HF.out; omega) (by omega)).mono ?_; rw [HR.out]; rintro e w2 ⟨rfl, hb2, hgr2⟩; have HB2 := Lib.hid hb2; have HG2 := Lib.hid hgr2; clear hb2 hgr2)
        go_ret
        rw [← HST.out]
        exact ⟨rfl, HB2.out, grown_trans HG.out HG2.out⟩
    · have hlt' : ¬ (i : Int) < (d.kids.length : Int) := by omega
      have hT0 := HT.out
      rw [List.drop_eq_nil_of_le (by omega), Tx.shapes] at hT0
      have HT0 := Lib.hid hT0
      clear hT0
      go_wp2_with fail
      all_goals go_ret
      rw [← HT0.out]
      exact ⟨rfl, HB.out, HG.out⟩

theorem said_shape : ∀ f, SaidShape f
  | 0 => by
    intro d g b off n kv w hsm hb hn hne hat hsl deep hd hd0
    exact (shape_much d g b off n w hb hn deep (.inr (by omega))).mono fun e w' h => h
  | f + 1 => by
    have ih : SaidShape f := said_shape f
    intro d g b off n kv w hsm hb hn hne hat hsl deep hd hd0
    rcases Nat.lt_or_ge 2000 (n + 1) with hn1 | hn1
    · rw [Tx.shape, if_pos hn1]
      exact shape_much d g b off n w hb hn deep (.inl (by omega))
    · rw [Tx.shape, if_neg (by omega)]
      by_cases k1 : d.kind = 1
      · rw [if_pos k1]
        exact shape_num d g b off n kv w hsm hb hn1 hne hat deep (by omega) k1 _ rfl
      rw [if_neg k1]
      by_cases k2 : d.kind = 2
      · rw [if_pos k2]
        exact shape_truth d g b off n kv w hsm hb hn1 hne hat deep (by omega) k2 _ rfl
      rw [if_neg k2]
      by_cases k3 : d.kind = 3
      · rw [if_pos k3]
        exact shape_sym d g b off n kv w hsm hb hn1 hne hat deep (by omega) k3 _ rfl
      rw [if_neg k3]
      by_cases k4 : d.kind = 4
      · rw [if_pos k4]
        exact shape_list f (Lib.hid ih) d g b off n kv w hsm hb hn1 hne hat hsl deep (by omega) hd0 (by omega) k4 _ rfl
      rw [if_neg k4]
      exact shape_none d g b off n kv w hsm hb hn1 hne hat deep (by omega) (by simpa using k1) (by simpa using k2) (by simpa using k3) (by simpa using k4) _ rfl
end Go.Proofs.YtchjbkokjilobaaDoor
