/- A row of data of our own, appended to out of whatever slice of data. -/
import Derived.Test.YtchjbkokjilobaaDoorTextX
import Derived.Deep.AppendLies
import Derived.Deep.Upon
namespace Go.Proofs.YtchjbkokjilobaaDoor
open Go Go.RowKit
set_option linter.unusedVariables false

/-- the slice v is a row of our own (blocks from base on) that holds ds -/
def OwnD (base : Nat) (w : World) (v : Value) (ds : List Datum) : Prop := ∃ xs, w.ownsRow base 42 6 v ds.length xs ∧ RowCells w (fun b => some b = v.ownBlock) ds xs
theorem OwnD.start {base : Nat} {w : World} (h : base ≤ w.heap.size) : OwnD base (w.alloc (.cells #[] 42)) (.slice (some ⟨w.heap.size, 0, none⟩) 0 0) [] :=
  ⟨[], ⟨rfl, .inr ⟨w.heap.size, 0, #[], rfl, h, heap_alloc_new w _, Nat.le_refl _, by unfold maxLen; omega, rfl, rfl⟩⟩, RowCells.nil⟩
theorem OwnD.form {base : Nat} {w : World} {v : Value} {ds : List Datum} (h : OwnD base w v ds) : ∃ A cap, v = .slice A ds.length cap ∧ ds.length ≤ cap := by
  obtain ⟨xs, h, _⟩ := h
  rcases h.2 with ⟨rfl, h0⟩ | ⟨g, cap, cur, rfl, _, _, hle, _⟩
  · exact ⟨none, 0, by rw [h0], by omega⟩
  · exact ⟨_, cap, rfl, hle⟩
theorem OwnD.sl {base : Nat} {w : World} {v : Value} {ds : List Datum} (h : OwnD base w v ds) : Sl w (fun _ => False) v ds := by
  obtain ⟨xs, h, hr⟩ := h
  exact Sl.of_own h (hr.mono (fun b hb => hb.elim)) (fun b _ hb => hb)
/-- data beside the row stay, whatever becomes of the row -/
theorem beside {w w' : World} {v v' u : Value} {es : List Datum} (h : Sl w (fun b => some b = v.ownBlock) u es) (hg : w.grownBy w' v.ownBlock) (hv : v'.ownBlock = v.ownBlock ∨ v'.ownBlock = some w.heap.size) : Sl w' (fun b => some b = v'.ownBlock) u es := by
  have h1 := h.fresh
  have h2 : Sl w' (fun b => some b = v.ownBlock ∨ w.heap.size ≤ b) u es := h1.keep (Same.of_grown hg (fun k hk => .inl hk.symm))
  refine h2.mono (fun b hb => ?_)
  rcases hv with hv | hv
  · exact .inl (hb.trans hv)
  · right
    have : some b = some w.heap.size := hb.trans hv
    injection this with this
    omega
theorem src_nothing (x : Option Addr) (c : Nat) (w : World) : Src Tryd.prog 6 22 (.slice x 0 c) 0 [] w where
  kind := .inl ⟨_, Tryd.underlying22⟩
  len := fun w' => rfl
  cells := by cases x <;> rfl
  cellsD := by cases x <;> rfl
  newsLen := rfl
  one := fun u hu => by cases hu
theorem infoD : ∃ i : TypeInfo, Tryd.prog.info? 42 = some i ∧ i.zero = some (.agg #[.int .i64 0, .int .i64 0, .string ⟨#[]⟩, .int .i64 0, .int .i64 0, .slice none 0 0]) ∧ i.size = 6 ∧ i.bytes = 72 := by
  have h : (Tryd.prog.info? 42).map (fun i => (i.zero, i.size, i.bytes)) = some (some (.agg #[.int .i64 0, .int .i64 0, .string ⟨#[]⟩, .int .i64 0, .int .i64 0, .slice none 0 0]), 6, 72) := by kernel_rfl
  obtain ⟨i, hi, h1⟩ := Option.map_eq_some_iff.1 h
  simp only [Prod.mk.injEq] at h1
  exact ⟨i, hi, h1.1, h1.2.1, h1.2.2⟩
/-- THE APPEND. -/
theorem run_append_data {base : Nat} {w : World} {v : Value} {ds es : List Datum} {u : Value} (ty : TypeId) (h : OwnD base w v ds) (hu : Sl w (fun b => some b = v.ownBlock) u es) (hlen : ds.length + es.length ≤ 100000) (hbase : base ≤ w.heap.size) :
    ∃ v' w', (Builtin.append_ #[22, 22] ty #[v, u]).run Tryd.prog w = .ok v' w' ∧ OwnD base w' v' (ds ++ es) ∧ w.grownBy w' v.ownBlock ∧ (v'.ownBlock = v.ownBlock ∨ v'.ownBlock = some w.heap.size) := by
  obtain ⟨i, hi, hz, hs, hb⟩ := infoD
  obtain ⟨A, cap, rfl, hcap⟩ := h.form
  cases es with
  | nil =>
    obtain ⟨B, c, rfl⟩ := hu.form
    have hsrc := src_nothing B c w
    rw [← hs] at hsrc
    exact ⟨_, w, run_append_nothing w _ _ ty _ i Tryd.underlying22 hi A ds.length cap hcap _ hsrc, by simpa using h, grown_refl _ _, .inl rfl⟩
  | cons e es =>
    obtain ⟨B, c, ys, rfl, hr, hc⟩ := hu
    obtain ⟨b, off, rfl, hM, hcell⟩ := hc (by simp)
    obtain ⟨xs, hown, hrow⟩ := h
    have hyl := hr.length
    obtain ⟨g, cap', w', hrun, hown', hgr, hat, hlt⟩ := run_append_lies (P := Tryd.prog) w 22 ty base 42 i _ 6 72 Tryd.underlying22 hi hz hs hb rfl (by omega) _ ds.length xs hown ⟨b, off, none⟩ (e :: es).length c ys hyl
      (fun j x hx => by
        rw [show (⟨b, off, none⟩ : Addr).add j = ⟨b, off + j, none⟩ by unfold Addr.add; split <;> simp_all]
        exact hcell j x hx) hr.oneCell (by simp) (by unfold maxLen; simp at hlen ⊢; omega) (by simp at hlen ⊢; omega) hbase w.heap.size rfl
    have hv : (Value.slice (some ⟨g, 0, none⟩) (ds.length + (e :: es).length) cap').ownBlock = (Value.slice A ds.length cap).ownBlock ∨ (Value.slice (some ⟨g, 0, none⟩) (ds.length + (e :: es).length) cap').ownBlock = some w.heap.size := by
      rcases hat with h | h
      · exact .inl (by rw [h]; rfl)
      · exact .inr (by rw [h]; rfl)
    refine ⟨_, w', hrun, ⟨xs ++ ys, by rw [List.length_append]; exact hown', ?_⟩, hgr, hv⟩
    have h1 := (hrow.append hr).fresh
    have h2 : RowCells w' (fun b => some b = (Value.slice A ds.length cap).ownBlock ∨ w.heap.size ≤ b) (ds ++ e :: es) (xs ++ ys) := h1.keep (Same.of_grown hgr (fun k hk => .inl hk.symm))
    refine h2.mono (fun b hb => ?_)
    rcases hv with hv | hv
    · exact .inl (hb.trans hv)
    · right
      have : some b = some w.heap.size := hb.trans hv
      injection this with this
      omega
/-- .. at the list of a region's operations -/
theorem wpList_append_data {ops : Array Oper} {rest : List Oper} {o : Oper} {a : Act} {Q : Exit → Act → World → Prop} {w : World} (s x : Operand) (hw : Region.wanted o (yielded ops a.tmps) = true)
    (ho : o.op = .call { callee := .builtin .append, args := #[s, x], argTypes := #[22, 22] }) {base : Nat} {v u : Value} {ds es : List Datum} (hs : a.eval s = v) (hx : a.eval x = u) (h : OwnD base w v ds) (hu : Sl w (fun b => some b = v.ownBlock) u es) (hlen : ds.length + es.length ≤ 100000) (hbase : base ≤ w.heap.size)
    (hk : ∀ v' w', OwnD base w' v' (ds ++ es) → w.grownBy w' v.ownBlock → (v'.ownBlock = v.ownBlock ∨ v'.ownBlock = some w.heap.size) → wpList Tryd.prog ops Q rest (a.put o.dst v') w') : wpList Tryd.prog ops Q (o :: rest) a w := by
  obtain ⟨v', w', hr, h2, h3, h4⟩ := run_append_data o.type h hu hlen hbase
  refine wpList_step fun K hK => ?_
  rw [if_pos hw]
  unfold Oper.wp execOp
  simp only [ho, resolve, invoke, builtin, Sem.run_bind, Sem.run_pure, Result.andThen_ok, List.map_toArray, List.map_cons, List.map_nil, hs, hx, hr]
  exact hK _ _ (hk v' w' h2 h3 h4)
end Go.Proofs.YtchjbkokjilobaaDoor
