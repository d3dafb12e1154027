/- Plans: two operations that may come up in either order; a row of our own whose last part is written. -/
import Derived.Test.YtchjbkokjilobaaDoorPlan
import Derived.Test.YtchjbkokjilobaaDoorMem
import Derived.Deep.OwnRows
namespace Go.Proofs.YtchjbkokjilobaaDoor
open Go Go.RowKit

section
variable {P : Program} {ops : Array Oper} {Q : Exit → Act → World → Prop} {S : World → Prop} {d : Nat}
/-- i or j may come up, no other -/
theorem till_two (i j : Nat) {l : List Oper} {oi oj : Oper} {fuel : Nat} {listed : Array Bool} {a : Act} {w : World} (hr : Region.ready .any l.toArray listed = [i, j]) (hi : l[i]? = some oi) (hgi : oi.guard = none) (hj : l[j]? = some oj) (hgj : oj.guard = none)
    (h1 : ∀ K : Act → World → Prop, (∀ a' w', ((listed.setIfInBounds i true).getD d true = false → S w') ∧ wpTill P l.toArray Q S d fuel (listed.setIfInBounds i true) a' w' → K a' w') → oi.wp P a w K Q)
    (h2 : ∀ K : Act → World → Prop, (∀ a' w', ((listed.setIfInBounds j true).getD d true = false → S w') ∧ wpTill P l.toArray Q S d fuel (listed.setIfInBounds j true) a' w' → K a' w') → oj.wp P a w K Q) :
    wpTill P l.toArray Q S d (fuel + 1) listed a w := by
  have hi : l.toArray[i]? = some oi := by simpa using hi
  have hj : l.toArray[j]? = some oj := by simpa using hj
  refine ⟨fun h0 => (by rw [hr] at h0; cases h0), fun k hk => ?_⟩
  rw [hr] at hk
  have : k = i ∨ k = j := by simpa using hk
  rcases this with rfl | rfl
  · unfold wpOp
    simp only [hi]
    rw [if_pos (by simp [Region.wanted, hgi])]
    exact .inl (h1 _ (fun a' w' h => h))
  · unfold wpOp
    simp only [hj]
    rw [if_pos (by simp [Region.wanted, hgj])]
    exact .inl (h2 _ (fun a' w' h => h))
end

/-- the last part of a row of our own is written -/
theorem own_set6 {w : World} {base g n cap : Nat} {e : TypeId} {xs z : List Value} (h : w.ownsRow base e 6 (.slice (some ⟨g, 0, none⟩) (n + 1) cap) (n + 1) (xs ++ z)) (hx : xs.length = n * 6) (hz : z.length = 6) (b0 b1 b2 b3 b4 b5 : Value) :
    World.ownsRow ((((((w.setCell ⟨g, n * 6 + 0, none⟩ b0).setCell ⟨g, n * 6 + 1, none⟩ b1).setCell ⟨g, n * 6 + 2, none⟩ b2).setCell ⟨g, n * 6 + 3, none⟩ b3).setCell ⟨g, n * 6 + 4, none⟩ b4).setCell ⟨g, n * 6 + 5, none⟩ b5) base e 6 (.slice (some ⟨g, 0, none⟩) (n + 1) cap) (n + 1) (xs ++ [b0, b1, b2, b3, b4, b5]) := by
  obtain ⟨_, h | ⟨g', cap', cur, hv, hb, hg, h1, h2, h3, h4⟩⟩ := h
  · cases h.1
  · injection hv with hv1 hv2 hv3
    injection hv1 with hv1
    injection hv1 with hv1
    subst hv1 hv3
    have hB : Blk w g cur e := hg
    refine ⟨by simp [hx]; omega, .inr ⟨g, cap, _, rfl, hb, ((((((hB.set (n * 6 + 0) b0).set (n * 6 + 1) b1).set (n * 6 + 2) b2).set (n * 6 + 3) b3).set (n * 6 + 4) b4).set (n * 6 + 5) b5), h1, h2, by simp [h3], ?_⟩⟩
    simp only [Array.toList_setIfInBounds, List.take_set, h4]
    obtain ⟨z0, z1, z2, z3, z4, z5, rfl⟩ : ∃ z0 z1 z2 z3 z4 z5, z = [z0, z1, z2, z3, z4, z5] := by
      match z, hz with
      | [z0, z1, z2, z3, z4, z5], _ => exact ⟨_, _, _, _, _, _, rfl⟩
    have : ∀ (j : Nat) (l : List Value) (b : Value), (xs ++ l).set (n * 6 + j) b = xs ++ l.set j b := by
      intro j l b
      rw [List.set_append_right _ _ (by omega)]
      congr 2
      omega
    simp only [this]
    rfl
/-- six stores in a row -/
def set6n (w : World) (g o : Nat) (b0 b1 b2 b3 b4 b5 : Value) : World := (((((w.setCell ⟨g, o, none⟩ b0).setCell ⟨g, o + 1, none⟩ b1).setCell ⟨g, o + 2, none⟩ b2).setCell ⟨g, o + 3, none⟩ b3).setCell ⟨g, o + 4, none⟩ b4).setCell ⟨g, o + 5, none⟩ b5
theorem set6n_grown (w : World) (g o : Nat) (b0 b1 b2 b3 b4 b5 : Value) : w.grownBy (set6n w g o b0 b1 b2 b3 b4 b5) (some g) :=
  grown_setCell (grown_setCell (grown_setCell (grown_setCell (grown_setCell (grown_setCell (grown_refl w (some g)) o none b0) (o + 1) none b1) (o + 2) none b2) (o + 3) none b3) (o + 4) none b4) (o + 5) none b5
theorem set6n_size (w : World) (g o : Nat) (b0 b1 b2 b3 b4 b5 : Value) : (set6n w g o b0 b1 b2 b3 b4 b5).heap.size = w.heap.size := by simp [set6n, World.setCell]
theorem set6n_far (w : World) (g o : Nat) (b0 b1 b2 b3 b4 b5 : Value) {b : Nat} (hb : b ≠ g) : (set6n w g o b0 b1 b2 b3 b4 b5).heap[b]? = w.heap[b]? := by
  have h := fun (w : World) (o : Nat) (v : Value) => Below.heap_setCell w ⟨g, o, none⟩ v b hb
  unfold set6n
  rw [h, h, h, h, h, h]
theorem set6n_own {w : World} {base g n cap : Nat} {e : TypeId} {xs z : List Value} (h : w.ownsRow base e 6 (.slice (some ⟨g, 0, none⟩) (n + 1) cap) (n + 1) (xs ++ z)) (hx : xs.length = n * 6) (hz : z.length = 6) (b0 b1 b2 b3 b4 b5 : Value) :
    (set6n w g (n * 6) b0 b1 b2 b3 b4 b5).ownsRow base e 6 (.slice (some ⟨g, 0, none⟩) (n + 1) cap) (n + 1) (xs ++ [b0, b1, b2, b3, b4, b5]) := own_set6 h hx hz b0 b1 b2 b3 b4 b5
/-- what is known of the block of such a row -/
theorem own_blk {w : World} {base g n cap size : Nat} {e : TypeId} {xs : List Value} (h : w.ownsRow base e size (.slice (some ⟨g, 0, none⟩) (n + 1) cap) (n + 1) xs) : base ≤ g ∧ g < w.heap.size ∧ ∀ j, j < (n + 1) * size → w.frozen? ⟨g, j, none⟩ = false ∧ ∃ u, w.cell? ⟨g, j, none⟩ = some u := by
  obtain ⟨_, h | ⟨g', cap', cur, hv, hb, hg, h1, h2, h3, h4⟩⟩ := h
  · cases h.1
  · injection hv with hv1 hv2 hv3
    injection hv1 with hv1
    injection hv1 with hv1
    subst hv1 hv3
    have hB : Blk w g cur e := hg
    refine ⟨hb, hB.lt, fun j hj => ⟨hB.frozen j, ?_⟩⟩
    have hj' : j < cur.size := by
      rw [h3]
      exact Nat.lt_of_lt_of_le hj (Nat.mul_le_mul_right _ h1)
    exact ⟨cur[j], by rw [hB.cell j]; simp [hj']⟩
end Go.Proofs.YtchjbkokjilobaaDoor
