/- Out of the row's condition: an argument of type []api.Datum holds data. -/
import Derived.Test.YtchjbkokjilobaaDoorLaid
import Derived.Test.YtchjbkokjilobaaDoorTextX
namespace Go.Proofs.YtchjbkokjilobaaDoor
open Go.ChangeShapes Go.WideShapes Go.ChangeAt Go.RowKit
set_option linter.unusedVariables false

theorem cellsD : Tryd.prog.cellsOf 42 = 6 := by kernel_rfl
theorem cells3 : Tryd.prog.cellsOf 3 = 1 := by kernel_rfl
theorem cells2 : Tryd.prog.cellsOf 2 = 1 := by kernel_rfl
theorem cells9 : Tryd.prog.cellsOf 9 = 1 := by kernel_rfl
theorem cells22 : Tryd.prog.cellsOf 22 = 1 := by kernel_rfl


set_option maxRecDepth 100000 in
/-- the fields of a struct that is read -/
theorem open_struct {H : Type} {enc : TypeId × Value → H} {w : World} {base : Nat} {sp : Nat → Bool} {held : Bool} {fuel : Nat} {cs : List Value} {x : DataW H × List MemPlace} (h : DataW.trod enc Tryd.prog w base sp held fuel 42 cs = some x) :
    ∃ n c0 c1 c2 c3 c4 c5 x0 x1 x2 x3 x4 x5, fuel = n + 1 ∧ cs = [c0, c1, c2, c3, c4, c5] ∧ DataW.trod enc Tryd.prog w base sp held n 3 [c0] = some x0 ∧ DataW.trod enc Tryd.prog w base sp held n 2 [c1] = some x1 ∧ DataW.trod enc Tryd.prog w base sp held n 9 [c2] = some x2 ∧
      DataW.trod enc Tryd.prog w base sp held n 3 [c3] = some x3 ∧ DataW.trod enc Tryd.prog w base sp held n 3 [c4] = some x4 ∧ DataW.trod enc Tryd.prog w base sp held n 22 [c5] = some x5 ∧ x.1 = .agg [x0.1, x1.1, x2.1, x3.1, x4.1, x5.1] := by
  obtain ⟨xs, n, rfl, rfl, hl, hxl, hf⟩ := DataW.trod_struct Tryd.underlying42 h
  rw [cellsD] at hl
  match cs, hl with
  | [c0, c1, c2, c3, c4, c5], _ =>
    match xs, hxl with
    | [x0, x1, x2, x3, x4, x5], _ =>
      have h0 : DataW.trod enc Tryd.prog w base sp held n 3 (([c0, c1, c2, c3, c4, c5].drop 0).take (Tryd.prog.cellsOf 3)) = some x0 := hf 0 _ rfl
      rw [cells3] at h0
      have h1 : DataW.trod enc Tryd.prog w base sp held n 2 (([c0, c1, c2, c3, c4, c5].drop 1).take (Tryd.prog.cellsOf 2)) = some x1 := hf 1 _ rfl
      rw [cells2] at h1
      have h2 : DataW.trod enc Tryd.prog w base sp held n 9 (([c0, c1, c2, c3, c4, c5].drop 2).take (Tryd.prog.cellsOf 9)) = some x2 := hf 2 _ rfl
      rw [cells9] at h2
      have h3 : DataW.trod enc Tryd.prog w base sp held n 3 (([c0, c1, c2, c3, c4, c5].drop 3).take (Tryd.prog.cellsOf 3)) = some x3 := hf 3 _ rfl
      rw [cells3] at h3
      have h4 : DataW.trod enc Tryd.prog w base sp held n 3 (([c0, c1, c2, c3, c4, c5].drop 4).take (Tryd.prog.cellsOf 3)) = some x4 := hf 4 _ rfl
      rw [cells3] at h4
      have h5 : DataW.trod enc Tryd.prog w base sp held n 22 (([c0, c1, c2, c3, c4, c5].drop 5).take (Tryd.prog.cellsOf 22)) = some x5 := hf 5 _ rfl
      rw [cells22] at h5
      exact ⟨n, c0, c1, c2, c3, c4, c5, x0, x1, x2, x3, x4, x5, rfl, rfl, h0, h1, h2, h3, h4, h5, rfl⟩

theorem add_add (a : Addr) (m n : Nat) : (a.add m).add n = a.add (m + n) := by
  unfold Addr.add
  by_cases hm : m = 0
  · subst hm; simp
  · by_cases hn : n = 0
    · subst hn; simp [hm]
    · simp [hm, hn, Nat.add_assoc]
theorem cells_at {w : World} {base : Nat} {a : Addr} {n : Nat} {cs : List Value} (h : w.cells? base a n = some cs) : cs.length = n ∧ ∀ j u, cs[j]? = some u → w.cell? (a.add j) = some u := by
  unfold World.cells? at h
  split at h
  · have hl : cs.length = n := by simpa using mapM_some_length h
    refine ⟨hl, fun j u hu => ?_⟩
    have hj : j < n := by
      have := (List.getElem?_eq_some_iff.1 hu).1
      omega
    have := mapM_some_get h j j (by simp [hj])
    rw [this, hu]
  · cases h

theorem bytesD : Tryd.prog.bytesOf 42 = 72 := by kernel_rfl
theorem reach : reachBytes = 140737488351232 := by kernel_rfl
/-- so many bytes at most, each -/
def Light (l : List Nat) : Prop := ∀ n ∈ l, n ≤ 140737488351232
theorem Light.left {a b : List Nat} (h : Light (a ++ b)) : Light a := fun n hn => h n (by simp [hn])
theorem Light.right {a b : List Nat} (h : Light (a ++ b)) : Light b := fun n hn => h n (by simp [hn])
theorem light_get {H : Type} {e : TypeId} : ∀ {ds : List (DataW H)} {i : Nat} {d : DataW H}, Light (DataW.weightsAll Tryd.prog e ds) → ds[i]? = some d → Light (d.weights Tryd.prog e)
  | [], i, d, h, hi => by simp at hi
  | x :: ds, 0, d, h, hi => by
    simp at hi
    subst hi
    unfold DataW.weightsAll at h
    exact h.left
  | x :: ds, i + 1, d, h, hi => by
    unfold DataW.weightsAll at h
    exact light_get h.right (by simpa using hi)
/-- an element that is read is a datum -/
def OpenD {H : Type} (enc : TypeId × Value → H) (w : World) (base : Nat) (sp : Nat → Bool) (held : Bool) (n : Nat) : Prop :=
  ∀ (cs : List Value) (x : DataW H × List MemPlace), DataW.trod enc Tryd.prog w base sp held n 42 cs = some x → Light (x.1.weights Tryd.prog 42) → ∃ d, DatCells w (fun _ => False) d cs ∧ Tx.SmallD 140737488351232 d
theorem open_row {H : Type} {enc : TypeId × Value → H} {w : World} {base : Nat} {sp : Nat → Bool} {held : Bool} {n : Nat} (ih : OpenD enc w base sp held n) {a : Addr} {elems : List (DataW H × List MemPlace)}
    (hall : ∀ i, i < elems.length → (w.cells? base (a.add (i * 6)) 6).bind (DataW.trod enc Tryd.prog w base sp held n 42) = elems[i]?) (hl : Light (DataW.weightsAll Tryd.prog 42 (elems.map (·.1)))) :
    ∀ k, k ≤ elems.length → ∃ ds ys, ds.length = k ∧ RowCells w (fun _ => False) ds ys ∧ (∀ j u, ys[j]? = some u → w.cell? (a.add j) = some u) ∧ Tx.SmallL 140737488351232 ds
  | 0, _ => ⟨[], [], rfl, RowCells.nil, fun j u h => by simp at h, by unfold Tx.SmallL; trivial⟩
  | k + 1, hk => by
    obtain ⟨ds, ys, h1, h2, h3, h4⟩ := open_row ih hall hl k (by omega)
    have hi := hall k (by omega)
    have hx : elems[k]? = some elems[k] := List.getElem?_eq_getElem (by omega)
    rw [hx] at hi
    cases hc : w.cells? base (a.add (k * 6)) 6 with
    | none => rw [hc] at hi; cases hi
    | some cs =>
      rw [hc] at hi
      have hi2 : DataW.trod enc Tryd.prog w base sp held n 42 cs = some elems[k] := hi
      obtain ⟨d, hd, hs⟩ := ih cs _ hi2 (light_get (i := k) hl (by simp [hx]))
      obtain ⟨_, hcell⟩ := cells_at hc
      refine ⟨ds ++ [d], ys ++ cs, by simp [h1], h2.append (RowCells.one hd), fun j u hu => ?_, ?_⟩
      · have hyl := h2.length
        rcases Nat.lt_or_ge j ys.length with hj | hj
        · rw [List.getElem?_append_left hj] at hu
          exact h3 j u hu
        · rw [List.getElem?_append_right hj] at hu
          have := hcell _ u hu
          rw [add_add, show k * 6 + (j - ys.length) = j by omega] at this
          exact this
      · exact small_snoc h4 hs
where small_snoc : ∀ {ds : List Datum} {d : Datum}, Tx.SmallL 140737488351232 ds → Tx.SmallD 140737488351232 d → Tx.SmallL 140737488351232 (ds ++ [d])
  | [], d, _, hd => by
    rw [List.nil_append]
    unfold Tx.SmallL Tx.SmallL
    exact ⟨hd, trivial⟩
  | e :: ds, d, h, hd => by
    rw [List.cons_append]
    unfold Tx.SmallL at h ⊢
    exact ⟨h.1, small_snoc h.2 hd⟩

/-- a slice that is read holds data -/
def OpenL {H : Type} (enc : TypeId × Value → H) (w : World) (base : Nat) (sp : Nat → Bool) (held : Bool) (n : Nat) : Prop :=
  ∀ (cs : List Value) (x : DataW H × List MemPlace), DataW.trod enc Tryd.prog w base sp held n 22 cs = some x → Light (x.1.weights Tryd.prog 22) → ∃ v ds, cs = [v] ∧ Sl w (fun _ => False) v ds ∧ Tx.SmallL 140737488351232 ds ∧ ds.length ≤ 140737488351232
theorem slice_weights {H : Type} (a b : List (DataW H)) : DataW.weights Tryd.prog 22 (.slice a b) = (a.length + b.length) * 72 :: (DataW.weightsAll Tryd.prog 42 a ++ DataW.weightsAll Tryd.prog 42 b) := by
  conv => lhs; unfold DataW.weights
  rw [Tryd.underlying22]
  simp only [bytesD]
theorem openL_of {H : Type} {enc : TypeId × Value → H} {w : World} {base : Nat} {sp : Nat → Bool} {held : Bool} {N : Nat} (ih : ∀ n, n < N → OpenD enc w base sp held n) : OpenL enc w base sp held N := by
  intro cs x h hl
  rcases DataW.trod_slice Tryd.underlying22 h with ⟨rfl, rfl⟩ | ⟨a, len, cap, elems, rest, n, rfl, rfl, rfl, _, hle, _, rfl, hall, _, _⟩
  · exact ⟨_, [], rfl, Sl.nil _ _, by unfold Tx.SmallL; trivial, by simp⟩
  · rw [cellsD] at hall
    rw [slice_weights] at hl
    have h0 := hl _ (List.mem_cons_self ..)
    have h1 : Light (DataW.weightsAll Tryd.prog 42 (elems.map (·.1))) := Light.left (fun n hn => hl n (List.mem_cons_of_mem _ hn))
    obtain ⟨ds, ys, e1, e2, e3, e4⟩ := open_row (ih n (by omega)) hall h1 elems.length (Nat.le_refl _)
    refine ⟨_, ds, rfl, ⟨some a, cap, ys, by rw [e1], e2, fun hne => ?_⟩, e4, by simp at h0; omega⟩
    have hsp : a.spot = none := by
      cases ds with
      | nil => exact absurd rfl hne
      | cons d ds =>
        obtain ⟨y, hy, hyc⟩ := e2.at_ (i := 0) (d := d) rfl
        rw [datCells_iff] at hy
        obtain ⟨kv, rfl, _⟩ := hy
        have := e3 _ _ (hyc 0 _ rfl)
        simp only [Nat.zero_mul, Nat.zero_add, Addr.add, if_true] at this
        unfold World.cell? at this
        split at this
        · split at this
          · cases this
          · rename_i h; simpa using h
        · cases this
    refine ⟨a.block, a.off, by rw [← hsp], fun h => h, fun j u hu => ?_⟩
    have := e3 j u hu
    rw [show a.add j = ⟨a.block, a.off + j, none⟩ by
      unfold Addr.add
      split
      · rename_i h; subst h; rw [Nat.add_zero, ← hsp]
      · rfl] at this
    exact this
theorem agg_weights {H : Type} (d0 d1 d2 d3 d4 d5 : DataW H) : DataW.weights Tryd.prog 42 (.agg [d0, d1, d2, d3, d4, d5]) = d0.weights Tryd.prog 3 ++ (d1.weights Tryd.prog 2 ++ (d2.weights Tryd.prog 9 ++ (d3.weights Tryd.prog 3 ++ (d4.weights Tryd.prog 3 ++ (d5.weights Tryd.prog 22 ++ []))))) := by
  conv => lhs; unfold DataW.weights
  rw [Tryd.underlying42]
  rfl
theorem openD_of {H : Type} {enc : TypeId × Value → H} {w : World} {base : Nat} {sp : Nat → Bool} {held : Bool} {N : Nat} (ih : ∀ n, n < N → OpenL enc w base sp held n) : OpenD enc w base sp held N := by
  intro cs x h hl
  obtain ⟨n, c0, c1, c2, c3, c4, c5, x0, x1, x2, x3, x4, x5, rfl, rfl, h0, h1, h2, h3, h4, h5, hx⟩ := open_struct h
  obtain ⟨z0, e0, rfl, _⟩ := DataW.trod_int Tryd.underlying3 h0
  obtain ⟨z1, e1, rfl, _⟩ := DataW.trod_int Tryd.underlying2 h1
  obtain ⟨s, e2, rfl, _⟩ := DataW.trod_string Tryd.underlying9 h2
  obtain ⟨z3, e3, rfl, _⟩ := DataW.trod_int Tryd.underlying3 h3
  obtain ⟨z4, e4, rfl, _⟩ := DataW.trod_int Tryd.underlying3 h4
  rw [hx, agg_weights] at hl
  obtain ⟨v, ds, e5, hsl, hsm, hlen⟩ := ih n (by omega) _ _ h5 hl.right.right.right.right.right.left
  have hs : s.data.toList.length ≤ 140737488351232 := by
    have := hl.right.right.left
    unfold DataW.weights at this
    exact this _ (by simp)
  injection e0 with e0
  injection e1 with e1
  injection e2 with e2
  injection e3 with e3
  injection e4 with e4
  injection e5 with e5
  subst e0 e1 e2 e3 e4 e5
  refine ⟨.mk z0 z1 s.data.toList z3 z4 ds, ?_, by unfold Tx.SmallD; exact ⟨hs, hlen, hsm⟩⟩
  rw [datCells_iff]
  refine ⟨c5, ?_, hsl⟩
  have : (⟨s.data.toList.toArray⟩ : ByteArray) = s := by cases s; simp
  simp only [six, Datum.kind, Datum.num, Datum.name, Datum.stamp, Datum.lib, this]
theorem open_all {H : Type} {enc : TypeId × Value → H} {w : World} {base : Nat} {sp : Nat → Bool} {held : Bool} : ∀ N n, n < N → OpenL enc w base sp held n ∧ OpenD enc w base sp held n
  | 0, n, h => by omega
  | N + 1, n, h => ⟨openL_of fun m hm => (open_all N m (by omega)).2, openD_of fun m hm => (open_all N m (by omega)).1⟩
theorem open_data {H : Type} {enc : TypeId × Value → H} {w : World} {base : Nat} {sp : Nat → Bool} {held : Bool} (n : Nat) : OpenL enc w base sp held n := (open_all (n + 1) n (by omega)).1
end Go.Proofs.YtchjbkokjilobaaDoor
