/- Words for memory, of no program: one block may have turned (grownBy), a block known whole. -/
import Derived.WalkKit
import Derived.WalkSpells
import Derived.Lib.Hide
import Derived.Lib.Builder
import Derived.Deep.Draws
namespace Go.Proofs.YtchjbkokjilobaaDoor
open Go.RowKit

theorem grown_refl (w : World) (row : Option Nat) : w.grownBy w row := ⟨rfl, rfl, rfl, Nat.le_refl _, fun _ _ _ => rfl⟩
theorem grown_trans {w w1 w2 : World} {row : Option Nat} (h : w.grownBy w1 row) (k : w1.grownBy w2 row) : w.grownBy w2 row :=
  ⟨k.os.trans h.os, k.tape.trans h.tape, k.output.trans h.output, Nat.le_trans h.size k.size, fun i hi hr => (k.block i (Nat.lt_of_lt_of_le hi h.size) hr).trans (h.block i hi hr)⟩
/-- what only lays new blocks turns no row -/
theorem grown_none {w w1 : World} (h : w.grownBy w1 none) (row : Option Nat) : w.grownBy w1 row := ⟨h.os, h.tape, h.output, h.size, fun i hi _ => h.block i hi (by simp)⟩
theorem grown_drew {w w1 : World} {row : Option Nat} (h : w.grownBy w1 row) : w.grownBy w1.drew row := ⟨h.os, h.tape, h.output, h.size, h.block⟩
theorem grown_drewN {w w1 : World} {row : Option Nat} (h : w.grownBy w1 row) (n : Nat) : w.grownBy (w1.drewN n) row := ⟨h.os, h.tape, h.output, h.size, h.block⟩
theorem grown_undrew {w w1 : World} {row : Option Nat} {n : Nat} (h : (w.drewN n).grownBy w1 row) : w.grownBy w1 row := ⟨h.os, h.tape, h.output, h.size, h.block⟩
theorem grown_alloc {w w1 : World} {row : Option Nat} (h : w.grownBy w1 row) (o : Obj) : w.grownBy (w1.alloc o) row := grown_trans h (World.grownBy_alloc w1 o row)
theorem grown_setCell {w w1 : World} {g : Nat} (h : w.grownBy w1 (some g)) (j : Nat) (s : Option Nat) (v : Value) : w.grownBy (w1.setCell ⟨g, j, s⟩ v) (some g) :=
  grown_trans h ⟨rfl, rfl, rfl, by simp [World.setCell], fun k _ hk => Below.heap_setCell _ _ _ _ (fun e => hk (by simp [e]))⟩
/-- a store into a block that did not stand when the call began -/
theorem grown_setCell_new {w w1 : World} {row : Option Nat} (h : w.grownBy w1 row) {p : Addr} (hp : w.heap.size ≤ p.block) (v : Value) : w.grownBy (w1.setCell p v) row :=
  ⟨h.os, h.tape, h.output, by simpa [World.setCell] using h.size, fun k hk hr => (Below.heap_setCell _ _ _ _ (by omega)).trans (h.block k hk hr)⟩
/-- a later call that turned a block of our own, or one that did not stand -/
theorem grown_later {w w1 w2 : World} {row row' : Option Nat} (h : w.grownBy w1 row) (k : w1.grownBy w2 row') (hr : row' = row ∨ ∀ i, row' = some i → w.heap.size ≤ i) : w.grownBy w2 row :=
  ⟨k.os.trans h.os, k.tape.trans h.tape, k.output.trans h.output, Nat.le_trans h.size k.size, fun i hi hne => (k.block i (Nat.lt_of_lt_of_le hi h.size) (fun e => by
    rcases hr with rfl | hr
    · exact hne e
    · have := hr i e.symm; omega)).trans (h.block i hi hne)⟩
theorem grown_below {w w' : World} (h : w.grownBy w' none) : Below w.heap.size w w' := ⟨h.os, h.tape, h.output, h.size, fun k hk => h.block k hk (by simp)⟩
theorem below_grown {w w' : World} (h : Below w.heap.size w w') (row : Option Nat) : w.grownBy w' row := ⟨h.os, h.tape, h.output, h.size, fun k hk _ => h.block k hk⟩

/-- a block known whole -/
def Blk (w : World) (g : Nat) (cs : Array Value) (T : TypeId) : Prop := w.heap[g]? = some (.cells cs T (0, 0))
theorem Blk.lt {w : World} {g : Nat} {cs : Array Value} {T : TypeId} (h : Blk w g cs T) : g < w.heap.size := by
  rcases Nat.lt_or_ge g w.heap.size with h' | h'
  · exact h'
  · simp [Blk, Array.getElem?_eq_none h'] at h
theorem Blk.cell {w : World} {g : Nat} {cs : Array Value} {T : TypeId} (h : Blk w g cs T) (j : Nat) : w.cell? ⟨g, j, none⟩ = cs[j]? := Lib.cell_of_heap h j
theorem Blk.frozen {w : World} {g : Nat} {cs : Array Value} {T : TypeId} (h : Blk w g cs T) (j : Nat) : w.frozen? ⟨g, j, none⟩ = false := Lib.frozen_of_heap h j
theorem Blk.set {w : World} {g : Nat} {cs : Array Value} {T : TypeId} (h : Blk w g cs T) (j : Nat) (v : Value) : Blk (w.setCell ⟨g, j, none⟩ v) g (cs.setIfInBounds j v) T := by
  unfold Blk at *
  simp [World.setCell, Array.getElem?_modify, h]
theorem Blk.far {w : World} {g : Nat} {cs : Array Value} {T : TypeId} (h : Blk w g cs T) {p : Addr} (hp : g ≠ p.block) (v : Value) : Blk (w.setCell p v) g cs T := by
  unfold Blk at *
  rw [Below.heap_setCell _ _ _ _ hp]; exact h
theorem Blk.drew {w : World} {g : Nat} {cs : Array Value} {T : TypeId} (h : Blk w g cs T) : Blk w.drew g cs T := h
theorem Blk.drewN {w : World} {g : Nat} {cs : Array Value} {T : TypeId} (h : Blk w g cs T) (n : Nat) : Blk (w.drewN n) g cs T := h
theorem Blk.alloc {w : World} {g : Nat} {cs : Array Value} {T : TypeId} (h : Blk w g cs T) (o : Obj) : Blk (w.alloc o) g cs T := ((heap_alloc_old w o h.lt)).trans h
theorem Blk.new (w : World) (cs : Array Value) (T : TypeId) : Blk (w.alloc (.cells cs T)) w.heap.size cs T := heap_alloc_new w _
theorem Blk.grown {w w' : World} {g : Nat} {cs : Array Value} {T : TypeId} (h : Blk w g cs T) {row : Option Nat} (hg : w.grownBy w' row) (hne : some g ≠ row) : Blk w' g cs T :=
  (hg.block g h.lt hne).trans h

theorem Blk.six {w : World} {g : Nat} {a0 a1 a2 a3 a4 a5 : Value} {T : TypeId} (h : Blk w g #[a0, a1, a2, a3, a4, a5] T) :
    (w.cell? ⟨g, 0, none⟩ = some a0 ∧ w.cell? ⟨g, 1, none⟩ = some a1 ∧ w.cell? ⟨g, 2, none⟩ = some a2 ∧ w.cell? ⟨g, 3, none⟩ = some a3 ∧ w.cell? ⟨g, 4, none⟩ = some a4 ∧ w.cell? ⟨g, 5, none⟩ = some a5) ∧
    (w.frozen? ⟨g, 0, none⟩ = false ∧ w.frozen? ⟨g, 1, none⟩ = false ∧ w.frozen? ⟨g, 2, none⟩ = false ∧ w.frozen? ⟨g, 3, none⟩ = false ∧ w.frozen? ⟨g, 4, none⟩ = false ∧ w.frozen? ⟨g, 5, none⟩ = false) :=
  ⟨⟨h.cell 0, h.cell 1, h.cell 2, h.cell 3, h.cell 4, h.cell 5⟩, h.frozen 0, h.frozen 1, h.frozen 2, h.frozen 3, h.frozen 4, h.frozen 5⟩
abbrev set6 (w : World) (g : Nat) (b0 b1 b2 b3 b4 b5 : Value) : World :=
  (((((w.setCell ⟨g, 0, none⟩ b0).setCell ⟨g, 1, none⟩ b1).setCell ⟨g, 2, none⟩ b2).setCell ⟨g, 3, none⟩ b3).setCell ⟨g, 4, none⟩ b4).setCell ⟨g, 5, none⟩ b5
theorem grown_set6 {w w1 : World} {g : Nat} (h : w.grownBy w1 (some g)) (b0 b1 b2 b3 b4 b5 : Value) : w.grownBy (set6 w1 g b0 b1 b2 b3 b4 b5) (some g) :=
  grown_setCell (grown_setCell (grown_setCell (grown_setCell (grown_setCell (grown_setCell h 0 none b0) 1 none b1) 2 none b2) 3 none b3) 4 none b4) 5 none b5
/-- six stores, one a cell -/
theorem Blk.put6 {w : World} {g : Nat} {a0 a1 a2 a3 a4 a5 b0 b1 b2 b3 b4 b5 : Value} {T : TypeId} (h : Blk w g #[a0, a1, a2, a3, a4, a5] T) :
    Blk ((((((w.setCell ⟨g, 0, none⟩ b0).setCell ⟨g, 1, none⟩ b1).setCell ⟨g, 2, none⟩ b2).setCell ⟨g, 3, none⟩ b3).setCell ⟨g, 4, none⟩ b4).setCell ⟨g, 5, none⟩ b5) g #[b0, b1, b2, b3, b4, b5] T :=
  (((((h.set 0 b0).set 1 b1).set 2 b2).set 3 b3).set 4 b4).set 5 b5
theorem grown_six {w w1 : World} {row : Option Nat} (h : w.grownBy w1 row) {g : Nat} (hg : w.heap.size ≤ g) {b0 b1 b2 b3 b4 b5 : Value} :
    w.grownBy ((((((w1.setCell ⟨g, 0, none⟩ b0).setCell ⟨g, 1, none⟩ b1).setCell ⟨g, 2, none⟩ b2).setCell ⟨g, 3, none⟩ b3).setCell ⟨g, 4, none⟩ b4).setCell ⟨g, 5, none⟩ b5) row :=
  grown_setCell_new (grown_setCell_new (grown_setCell_new (grown_setCell_new (grown_setCell_new (grown_setCell_new h (p := ⟨g, 0, none⟩) hg _) (p := ⟨g, 1, none⟩) hg _) (p := ⟨g, 2, none⟩) hg _) (p := ⟨g, 3, none⟩) hg _) (p := ⟨g, 4, none⟩) hg _) (p := ⟨g, 5, none⟩) hg _
theorem ret_bool {a b : Bool} (h : a = b) : Ending.returned (.bool a) = .returned (.bool b) := by rw [h]
theorem ret_int {k : IntKind} {a b : Int} (h : a = b) : Ending.returned (.int k a) = .returned (.int k b) := by rw [h]
end Go.Proofs.YtchjbkokjilobaaDoor
