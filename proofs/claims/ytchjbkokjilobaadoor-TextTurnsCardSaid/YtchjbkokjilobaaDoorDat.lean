/- Data in Lean, and how they lie in memory: of no program. -/
import Derived.Test.YtchjbkokjilobaaDoorMem
namespace Go.Proofs.YtchjbkokjilobaaDoor
open Go.RowKit

/-- api.Datum -/
inductive Datum where
  | mk (kind n : Int) (name : List UInt8) (stamp lib : Int) (kids : List Datum)
  deriving Inhabited
namespace Datum
def kind : Datum → Int | .mk k _ _ _ _ _ => k
def num : Datum → Int | .mk _ n _ _ _ _ => n
def name : Datum → List UInt8 | .mk _ _ s _ _ _ => s
def stamp : Datum → Int | .mk _ _ _ s _ _ => s
def lib : Datum → Int | .mk _ _ _ _ l _ => l
def kids : Datum → List Datum | .mk _ _ _ _ _ ks => ks
end Datum

/-- the six cells of a datum whose kids' slice is v -/
def six (k n : Int) (s : List UInt8) (st lb : Int) (v : Value) : List Value := [.int .i64 k, .int .i64 n, .string ⟨s.toArray⟩, .int .i64 st, .int .i64 lb, v]

mutual
/-- The cells xs are datum d's; all memory that they lead to lies in blocks that M does not hold. -/
def DatCells (w : World) (M : Nat → Prop) : Datum → List Value → Prop
  | .mk k n s st lb kids, xs => ∃ v, xs = six k n s st lb v ∧ ∃ A cap ys, v = .slice A kids.length cap ∧ RowCells w M kids ys ∧
      (kids ≠ [] → ∃ b off, A = some ⟨b, off, none⟩ ∧ ¬ M b ∧ ∀ j u, ys[j]? = some u → w.cell? ⟨b, off + j, none⟩ = some u)
/-- the same of data, one behind the other -/
def RowCells (w : World) (M : Nat → Prop) : List Datum → List Value → Prop
  | [], xs => xs = []
  | d :: ds, xs => ∃ y r, xs = y ++ r ∧ DatCells w M d y ∧ RowCells w M ds r
end

/-- the slice v holds the data ds -/
def Sl (w : World) (M : Nat → Prop) (v : Value) (ds : List Datum) : Prop :=
  ∃ A cap ys, v = .slice A ds.length cap ∧ RowCells w M ds ys ∧ (ds ≠ [] → ∃ b off, A = some ⟨b, off, none⟩ ∧ ¬ M b ∧ ∀ j u, ys[j]? = some u → w.cell? ⟨b, off + j, none⟩ = some u)
/-- the struct value x is datum d -/
def Dv (w : World) (M : Nat → Prop) (x : Value) (d : Datum) : Prop := ∃ v, x = .agg #[.int .i64 d.kind, .int .i64 d.num, .string ⟨d.name.toArray⟩, .int .i64 d.stamp, .int .i64 d.lib, v] ∧ Sl w M v d.kids

theorem datCells_iff {w : World} {M : Nat → Prop} {d : Datum} {xs : List Value} : DatCells w M d xs ↔ ∃ v, xs = six d.kind d.num d.name d.stamp d.lib v ∧ Sl w M v d.kids := by
  cases d
  unfold DatCells Sl Datum.kind Datum.num Datum.name Datum.stamp Datum.lib Datum.kids
  rfl

theorem lt_of_cell {w : World} {b o : Nat} {u : Value} (h : w.cell? ⟨b, o, none⟩ = some u) : b < w.heap.size := World.block_lt_of_cell? w _ h

/-- what M does not hold is as it was -/
def Same (M : Nat → Prop) (w w' : World) : Prop := ∀ b, b < w.heap.size → ¬ M b → w'.heap[b]? = w.heap[b]?
theorem Same.cell {M : Nat → Prop} {w w' : World} (h : Same M w w') {b o : Nat} {u : Value} (hb : ¬ M b) (hc : w.cell? ⟨b, o, none⟩ = some u) : w'.cell? ⟨b, o, none⟩ = some u := by
  rw [World.cell?_of_block (w := w) (h b (lt_of_cell hc) hb)]; exact hc
theorem Same.of_grown {w w' : World} {row : Option Nat} {M : Nat → Prop} (h : w.grownBy w' row) (hr : ∀ k, row = some k → M k) : Same M w w' :=
  fun b hb hm => h.block b hb (fun e => hm (hr b e.symm))
theorem Same.refl (M : Nat → Prop) (w : World) : Same M w w := fun _ _ _ => rfl

mutual
theorem DatCells.keep {w w' : World} {M : Nat → Prop} (h : Same M w w') : ∀ {d : Datum} {xs : List Value}, DatCells w M d xs → DatCells w' M d xs
  | .mk k n s st lb kids, xs, hd => by
    unfold DatCells at hd ⊢
    obtain ⟨v, hx, A, cap, ys, hv, hr, hc⟩ := hd
    exact ⟨v, hx, A, cap, ys, hv, RowCells.keep h hr, fun hne => by
      obtain ⟨b, off, hA, hM, hcell⟩ := hc hne
      exact ⟨b, off, hA, hM, fun j u hu => h.cell hM (hcell j u hu)⟩⟩
theorem RowCells.keep {w w' : World} {M : Nat → Prop} (h : Same M w w') : ∀ {ds : List Datum} {xs : List Value}, RowCells w M ds xs → RowCells w' M ds xs
  | [], xs, hd => by unfold RowCells at hd ⊢; exact hd
  | d :: ds, xs, hd => by
    unfold RowCells at hd ⊢
    obtain ⟨y, r, hx, h1, h2⟩ := hd
    exact ⟨y, r, hx, DatCells.keep h h1, RowCells.keep h h2⟩
end
mutual
theorem DatCells.mono {w : World} {M M' : Nat → Prop} (h : ∀ b, M' b → M b) : ∀ {d : Datum} {xs : List Value}, DatCells w M d xs → DatCells w M' d xs
  | .mk k n s st lb kids, xs, hd => by
    unfold DatCells at hd ⊢
    obtain ⟨v, hx, A, cap, ys, hv, hr, hc⟩ := hd
    exact ⟨v, hx, A, cap, ys, hv, RowCells.mono h hr, fun hne => by
      obtain ⟨b, off, hA, hM, hcell⟩ := hc hne
      exact ⟨b, off, hA, fun hb => hM (h b hb), hcell⟩⟩
theorem RowCells.mono {w : World} {M M' : Nat → Prop} (h : ∀ b, M' b → M b) : ∀ {ds : List Datum} {xs : List Value}, RowCells w M ds xs → RowCells w M' ds xs
  | [], xs, hd => by unfold RowCells at hd ⊢; exact hd
  | d :: ds, xs, hd => by
    unfold RowCells at hd ⊢
    obtain ⟨y, r, hx, h1, h2⟩ := hd
    exact ⟨y, r, hx, DatCells.mono h h1, RowCells.mono h h2⟩
end
theorem Sl.keep {w w' : World} {M : Nat → Prop} {v : Value} {ds : List Datum} (h : Same M w w') (hd : Sl w M v ds) : Sl w' M v ds := by
  obtain ⟨A, cap, ys, hv, hr, hc⟩ := hd
  exact ⟨A, cap, ys, hv, RowCells.keep h hr, fun hne => by
    obtain ⟨b, off, hA, hM, hcell⟩ := hc hne
    exact ⟨b, off, hA, hM, fun j u hu => h.cell hM (hcell j u hu)⟩⟩
theorem Sl.mono {w : World} {M M' : Nat → Prop} {v : Value} {ds : List Datum} (h : ∀ b, M' b → M b) (hd : Sl w M v ds) : Sl w M' v ds := by
  obtain ⟨A, cap, ys, hv, hr, hc⟩ := hd
  exact ⟨A, cap, ys, hv, RowCells.mono h hr, fun hne => by
    obtain ⟨b, off, hA, hM, hcell⟩ := hc hne
    exact ⟨b, off, hA, fun hb => hM (h b hb), hcell⟩⟩
theorem Dv.keep {w w' : World} {M : Nat → Prop} {x : Value} {d : Datum} (h : Same M w w') (hd : Dv w M x d) : Dv w' M x d := by
  obtain ⟨v, hx, hs⟩ := hd; exact ⟨v, hx, hs.keep h⟩
theorem Dv.mono {w : World} {M M' : Nat → Prop} {x : Value} {d : Datum} (h : ∀ b, M' b → M b) (hd : Dv w M x d) : Dv w M' x d := by
  obtain ⟨v, hx, hs⟩ := hd; exact ⟨v, hx, hs.mono h⟩

theorem DatCells.length {w : World} {M : Nat → Prop} {d : Datum} {xs : List Value} (h : DatCells w M d xs) : xs.length = 6 := by
  rw [datCells_iff] at h
  obtain ⟨v, rfl, _⟩ := h
  rfl
theorem RowCells.length {w : World} {M : Nat → Prop} : ∀ {ds : List Datum} {xs : List Value}, RowCells w M ds xs → xs.length = ds.length * 6
  | [], xs, h => by unfold RowCells at h; subst h; rfl
  | d :: ds, xs, h => by
    unfold RowCells at h
    obtain ⟨y, r, rfl, h1, h2⟩ := h
    have e1 := h1.length
    have e2 := RowCells.length h2
    simp only [List.length_append, List.length_cons, e1, e2]
    omega
theorem RowCells.append {w : World} {M : Nat → Prop} : ∀ {ds : List Datum} {xs : List Value} {es : List Datum} {ys : List Value}, RowCells w M ds xs → RowCells w M es ys → RowCells w M (ds ++ es) (xs ++ ys)
  | [], xs, es, ys, h, k => by unfold RowCells at h; subst h; exact k
  | d :: ds, xs, es, ys, h, k => by
    unfold RowCells at h
    obtain ⟨y, r, rfl, h1, h2⟩ := h
    rw [List.cons_append]
    unfold RowCells
    exact ⟨y, r ++ ys, by simp, h1, RowCells.append h2 k⟩
theorem RowCells.one {w : World} {M : Nat → Prop} {d : Datum} {xs : List Value} (h : DatCells w M d xs) : RowCells w M [d] xs := by
  unfold RowCells
  exact ⟨xs, [], by simp, h, by unfold RowCells; rfl⟩
theorem RowCells.nil {w : World} {M : Nat → Prop} : RowCells w M [] [] := by unfold RowCells; rfl
theorem DatCells.oneCell {w : World} {M : Nat → Prop} {d : Datum} {xs : List Value} (h : DatCells w M d xs) : ∀ u ∈ xs, u.oneCell' = true := by
  rw [datCells_iff] at h
  obtain ⟨v, rfl, A, cap, ys, rfl, _⟩ := h
  intro u hu
  simp only [six, List.mem_cons, List.not_mem_nil, or_false] at hu
  rcases hu with rfl | rfl | rfl | rfl | rfl | rfl <;> rfl
theorem RowCells.oneCell {w : World} {M : Nat → Prop} : ∀ {ds : List Datum} {xs : List Value}, RowCells w M ds xs → ∀ u ∈ xs, u.oneCell' = true
  | [], xs, h => by unfold RowCells at h; subst h; intro u hu; cases hu
  | d :: ds, xs, h => by
    unfold RowCells at h
    obtain ⟨y, r, rfl, h1, h2⟩ := h
    intro u hu
    rcases List.mem_append.1 hu with hu | hu
    · exact h1.oneCell u hu
    · exact RowCells.oneCell h2 u hu
theorem RowCells.at_ {w : World} {M : Nat → Prop} : ∀ {ds : List Datum} {xs : List Value} {i : Nat} {d : Datum}, RowCells w M ds xs → ds[i]? = some d →
    ∃ y, DatCells w M d y ∧ ∀ f u, y[f]? = some u → xs[i * 6 + f]? = some u
  | [], xs, i, d, h, hi => by simp at hi
  | e :: ds, xs, i, d, h, hi => by
    unfold RowCells at h
    obtain ⟨y, r, rfl, h1, h2⟩ := h
    have e1 := h1.length
    cases i with
    | zero =>
      simp at hi; subst hi
      refine ⟨y, h1, fun f u hu => ?_⟩
      have hf : f < y.length := (List.getElem?_eq_some_iff.1 hu).1
      rw [Nat.zero_mul, Nat.zero_add, List.getElem?_append_left hf]; exact hu
    | succ i =>
      simp at hi
      obtain ⟨z, hz, hcell⟩ := RowCells.at_ h2 hi
      refine ⟨z, hz, fun f u hu => ?_⟩
      rw [List.getElem?_append_right (by omega)]
      rw [show (i + 1) * 6 + f - y.length = i * 6 + f by omega]
      exact hcell f u hu

/-- what there is lies below the heap's end -/
theorem first_lt {w : World} {M : Nat → Prop} {ds : List Datum} {ys : List Value} {b off : Nat} (hr : RowCells w M ds ys) (hne : ds ≠ []) (hcell : ∀ j u, ys[j]? = some u → w.cell? ⟨b, off + j, none⟩ = some u) : b < w.heap.size := by
  cases ds with
  | nil => exact absurd rfl hne
  | cons d ds =>
    obtain ⟨y, hy, hyc⟩ := hr.at_ (i := 0) (d := d) rfl
    rw [datCells_iff] at hy
    obtain ⟨kv, rfl, _⟩ := hy
    exact lt_of_cell (hcell _ _ (hyc 0 _ rfl))
mutual
theorem DatCells.fresh {w : World} {M : Nat → Prop} : ∀ {d : Datum} {xs : List Value}, DatCells w M d xs → DatCells w (fun b => M b ∨ w.heap.size ≤ b) d xs
  | .mk k n s st lb kids, xs, hd => by
    unfold DatCells at hd ⊢
    obtain ⟨v, hx, A, cap, ys, hv, hr, hc⟩ := hd
    exact ⟨v, hx, A, cap, ys, hv, RowCells.fresh hr, fun hne => by
      obtain ⟨b, off, hA, hM, hcell⟩ := hc hne
      exact ⟨b, off, hA, fun h => h.elim hM (fun h => by have := first_lt hr hne hcell; omega), hcell⟩⟩
theorem RowCells.fresh {w : World} {M : Nat → Prop} : ∀ {ds : List Datum} {xs : List Value}, RowCells w M ds xs → RowCells w (fun b => M b ∨ w.heap.size ≤ b) ds xs
  | [], xs, hd => by unfold RowCells at hd ⊢; exact hd
  | d :: ds, xs, hd => by
    unfold RowCells at hd ⊢
    obtain ⟨y, r, hx, h1, h2⟩ := hd
    exact ⟨y, r, hx, DatCells.fresh h1, RowCells.fresh h2⟩
end

/-- what a row of our own may not lead to: what stood below B, its own block -/
def Mine (B : Nat) (v : Value) (b : Nat) : Prop := b < B ∨ some b = v.ownBlock
/-- a datum more in a row of our own -/
theorem row_push {w w' : World} {base B g n cap : Nat} {e : TypeId} {v : Value} {acc : List Datum} {xs y : List Value} {d : Datum} (hown : w.ownsRow base e 6 v n xs) (hB : B ≤ w.heap.size)
    (hrow : RowCells w (Mine B v) acc xs) (hd : DatCells w (Mine B v) d y) (hg : w.grownBy w' v.ownBlock) (hat : v.ownBlock = some g ∨ g = w.heap.size) :
    RowCells w' (Mine B (.slice (some ⟨g, 0, none⟩) (n + 1) cap)) (acc ++ [d]) (xs ++ y) := by
  have h1 := (hrow.append (RowCells.one hd)).fresh
  have h2 : RowCells w' (fun b => Mine B v b ∨ w.heap.size ≤ b) (acc ++ [d]) (xs ++ y) := h1.keep (Same.of_grown hg (fun b hb => .inl (.inr hb.symm)))
  refine h2.mono (fun b hb => ?_)
  rcases hb with hb | hb
  · exact .inl (.inl hb)
  · have hb' : b = g := by simpa [Value.ownBlock] using hb
    subst hb'
    rcases hat with h | h
    · exact .inl (.inr h.symm)
    · exact .inr (by omega)

/-- a slice of data, read at i: the six cells there -/
theorem Sl.at_ {w : World} {M : Nat → Prop} {v : Value} {ds : List Datum} (h : Sl w M v ds) : ∃ A cap, v = .slice A ds.length cap ∧
    (ds ≠ [] → ∃ b off, A = some ⟨b, off, none⟩ ∧ ¬ M b ∧ b < w.heap.size ∧ ∀ i d, ds[i]? = some d → ∃ kv, w.cell? ⟨b, off + i * 6, none⟩ = some (.int .i64 d.kind) ∧ w.cell? ⟨b, off + i * 6 + 1, none⟩ = some (.int .i64 d.num) ∧
      w.cell? ⟨b, off + i * 6 + 2, none⟩ = some (.string ⟨d.name.toArray⟩) ∧ w.cell? ⟨b, off + i * 6 + 3, none⟩ = some (.int .i64 d.stamp) ∧ w.cell? ⟨b, off + i * 6 + 4, none⟩ = some (.int .i64 d.lib) ∧
      w.cell? ⟨b, off + i * 6 + 5, none⟩ = some kv ∧ Sl w M kv d.kids) := by
  obtain ⟨A, cap, ys, hv, hr, hc⟩ := h
  refine ⟨A, cap, hv, fun hne => ?_⟩
  obtain ⟨b, off, hA, hM, hcell⟩ := hc hne
  have hlt : b < w.heap.size := by
    cases ds with
    | nil => exact absurd rfl hne
    | cons d ds =>
      obtain ⟨y, hy, hyc⟩ := hr.at_ (i := 0) (d := d) rfl
      rw [datCells_iff] at hy
      obtain ⟨kv, rfl, _⟩ := hy
      exact lt_of_cell (hcell _ _ (hyc 0 _ rfl))
  refine ⟨b, off, hA, hM, hlt, fun i d hi => ?_⟩
  obtain ⟨y, hy, hyc⟩ := hr.at_ hi
  rw [datCells_iff] at hy
  obtain ⟨kv, rfl, hk⟩ := hy
  refine ⟨kv, ?_, ?_, ?_, ?_, ?_, ?_, hk⟩
  · exact hcell _ _ (hyc 0 _ rfl)
  · rw [show off + i * 6 + 1 = off + (i * 6 + 1) by omega]; exact hcell _ _ (hyc 1 _ rfl)
  · rw [show off + i * 6 + 2 = off + (i * 6 + 2) by omega]; exact hcell _ _ (hyc 2 _ rfl)
  · rw [show off + i * 6 + 3 = off + (i * 6 + 3) by omega]; exact hcell _ _ (hyc 3 _ rfl)
  · rw [show off + i * 6 + 4 = off + (i * 6 + 4) by omega]; exact hcell _ _ (hyc 4 _ rfl)
  · rw [show off + i * 6 + 5 = off + (i * 6 + 5) by omega]; exact hcell _ _ (hyc 5 _ rfl)

theorem Sl.form {w : World} {M : Nat → Prop} {v : Value} {ds : List Datum} (h : Sl w M v ds) : ∃ A cap, v = .slice A ds.length cap := by
  obtain ⟨A, cap, _, hv, _⟩ := h; exact ⟨A, cap, hv⟩
theorem Sl.nil (w : World) (M : Nat → Prop) : Sl w M (.slice none 0 0) [] := ⟨none, 0, [], rfl, RowCells.nil, fun h => absurd rfl h⟩
/-- a row of our own holds data -/
theorem Sl.of_own {w : World} {M : Nat → Prop} {base : Nat} {e : TypeId} {v : Value} {ds : List Datum} {xs : List Value} (h : w.ownsRow base e 6 v ds.length xs) (hr : RowCells w M ds xs) (hM : ∀ b, base ≤ b → ¬ M b) : Sl w M v ds := by
  rcases h.2 with ⟨rfl, h0⟩ | ⟨g, cap, cur, rfl, hb, hg, _⟩
  · have : ds = [] := List.eq_nil_of_length_eq_zero h0
    subst this
    exact Sl.nil w M
  · refine ⟨_, cap, xs, rfl, hr, fun _ => ⟨g, 0, rfl, hM g hb, fun j u hu => ?_⟩⟩
    have := h.cells (g := g) rfl j u hu
    rw [show (⟨g, 0, none⟩ : Addr).add j = ⟨g, 0 + j, none⟩ by unfold Addr.add; split <;> simp_all] at this
    exact this
end Go.Proofs.YtchjbkokjilobaaDoor
