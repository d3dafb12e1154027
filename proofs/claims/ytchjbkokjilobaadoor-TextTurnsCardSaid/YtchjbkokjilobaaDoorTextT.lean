/- What is written of data: the plain function; a builder and a table that a call keeps. -/
import Derived.Test.YtchjbkokjilobaaDoorTextB
import Derived.Test.YtchjbkokjilobaaDoorTextX
import Derived.Lib.ItoaNum
import Derived.Lib.LaidTab
import Derived.Sort.Grow
namespace Go.Proofs.YtchjbkokjilobaaDoor
open Go.RowKit
set_option linter.unusedVariables false

namespace Tx
mutual
/-- what is written of a datum -/
def write : Datum → List UInt8
  | .mk k n s _ _ ks => if k = 1 then Lib.itoa n else if k = 2 then (if n = 0 then [35, 102] else [35, 116]) else if k = 3 then s else if k = 4 then 40 :: (writes true ks ++ [41]) else []
/-- data with a blank ahead of each but the first -/
def writes : Bool → List Datum → List UInt8
  | _, [] => []
  | first, d :: ds => (if first then [] else [32]) ++ (write d ++ writes false ds)
end
theorem write_num {d : Datum} (h : d.kind = 1) : write d = Lib.itoa d.num := by cases d; simp only [Datum.kind] at h; unfold write; rw [if_pos h]; rfl
theorem write_truth {d : Datum} (h : d.kind = 2) : write d = if d.num = 0 then [35, 102] else [35, 116] := by cases d; simp only [Datum.kind] at h; subst h; unfold write; rfl
theorem write_sym {d : Datum} (h : d.kind = 3) : write d = d.name := by cases d; simp only [Datum.kind] at h; subst h; unfold write; rfl
theorem write_list {d : Datum} (h : d.kind = 4) : write d = 40 :: (writes true d.kids ++ [41]) := by cases d; simp only [Datum.kind] at h; subst h; unfold write; rfl
mutual
/-- data that can be written -/
def OkD : Datum → Prop
  | .mk k n s st lb ks => (k = 1 ∧ -1000000000000000 ≤ n ∧ n ≤ 1000000000000000) ∨ (k = 2 ∧ (n = 0 ∨ n = 1)) ∨ (k = 3 ∧ named s = true ∧ st = 0 ∧ lb = 0) ∨ (k = 4 ∧ OkL ks)
def OkL : List Datum → Prop
  | [] => True
  | d :: ds => OkD d ∧ OkL ds
end
theorem okD_iff (d : Datum) : OkD d ↔ (d.kind = 1 ∧ -1000000000000000 ≤ d.num ∧ d.num ≤ 1000000000000000) ∨ (d.kind = 2 ∧ (d.num = 0 ∨ d.num = 1)) ∨ (d.kind = 3 ∧ named d.name = true ∧ d.stamp = 0 ∧ d.lib = 0) ∨ (d.kind = 4 ∧ OkL d.kids) := by
  cases d; unfold OkD; rfl
theorem OkL.get : ∀ {ds : List Datum} {i : Nat} {d : Datum}, OkL ds → ds[i]? = some d → OkD d
  | [], i, d, h, hi => by simp at hi
  | e :: ds, 0, d, h, hi => by
    unfold OkL at h
    simp at hi
    exact hi ▸ h.1
  | e :: ds, i + 1, d, h, hi => by
    unfold OkL at h
    exact h.2.get (by simpa using hi)
end Tx

/-- the table of powers of ten that FormatInt reads, laid below B -/
def TabAt (B : Nat) (w : World) : Prop := ∃ g, Tryd.prog.globalNamed "internal/strconv.uint64pow10" = some g ∧ g < B ∧ Lib.TabIs Tryd.prog w "internal/strconv.uint64pow10" .u64 Lib.pow10Tab
theorem TabAt.keep {B : Nat} {w w' : World} (h : TabAt B w) (hb : ∀ b, b < B → w'.heap[b]? = w.heap[b]?) : TabAt B w' := by
  obtain ⟨g, hg, hlt, ht⟩ := h
  refine ⟨g, hg, hlt, ?_⟩
  unfold Lib.TabIs World.var? at ht ⊢
  rw [hg] at ht ⊢
  simp only [Option.bind_some] at ht ⊢
  rw [hb g hlt]
  exact ht
theorem TabAt.below {B : Nat} {w w' : World} (h : TabAt B w) (hb : Below B w w') : TabAt B w' := h.keep hb.block
theorem TabAt.grown {w w' : World} (h : TabAt w.heap.size w) (hg : w.grownBy w' none) : TabAt w'.heap.size w' := by
  obtain ⟨g, h1, h2, h3⟩ := h.below (grown_below hg)
  exact ⟨g, h1, Nat.lt_of_lt_of_le h2 hg.size, h3⟩
theorem TabAt.of {w : World} (ht : Lib.TabIs Tryd.prog w "internal/strconv.uint64pow10" .u64 Lib.pow10Tab) : TabAt w.heap.size w := by
  have h := ht
  unfold Lib.TabIs World.var? at h
  cases hg : Tryd.prog.globalNamed "internal/strconv.uint64pow10" with
  | none => rw [hg] at h; simp at h
  | some g =>
    rw [hg] at h
    simp only [Option.bind_some] at h
    refine ⟨g, hg, ?_, ht⟩
    rcases Nat.lt_or_ge g w.heap.size with h' | h'
    · exact h'
    · rw [Array.getElem?_eq_none h'] at h; cases h
theorem grow_grown (w : World) (k : Nat) (os : Array Obj) : w.grownBy (Sort.grow (w.drewN k) os) none :=
  ⟨rfl, rfl, rfl, by show w.heap.size ≤ (w.heap ++ os).size; rw [Array.size_append]; omega, fun i hi _ => by show (w.heap ++ os)[i]? = w.heap[i]?; rw [Array.getElem?_append_left hi]⟩

/-- a builder in block b that holds the bytes l -/
def Bld (B b : Nat) (l : List UInt8) (w : World) : Prop := Lib.IsBuilder 38 5 B b (Lib.byteCells l) w ∧ B ≤ w.heap.size
theorem built_keep {B b : Nat} {p : Value} {bs : List Value} {w w' : World} (h : Lib.BuilderAt 38 5 B b p bs w) (hg : w.grownBy w' none) : Lib.BuilderAt 38 5 B b p bs w' := by
  have hlt := h.lt
  obtain ⟨hB, v, hb, hown, hne⟩ := h
  refine ⟨hB, v, (hg.block b hlt (by simp)).trans hb, hown.kept hg ?_, hne⟩
  rcases hv : v.ownBlock with _ | c
  · exact .inl rfl
  · exact .inr (by simp)
theorem Bld.keep {B b : Nat} {l : List UInt8} {w w' : World} (h : Bld B b l w) (hg : w.grownBy w' none) : Bld B b l w' := by
  refine ⟨?_, Nat.le_trans h.2 hg.size⟩
  rcases h.1 with h | h
  · exact .inl (built_keep h hg)
  · exact .inr (built_keep h hg)
theorem Bld.byte {B b : Nat} {l : List UInt8} {w : World} (h : Bld B b l w) (c : UInt8) (n : Int) (hc : n = c.toNat) (hlen : l.length + 1 ≤ 1000000) :
    Calls Tryd.prog 12 #[.pointer (some ⟨b, 0, none⟩), .int .u8 n] w fun e w' => e = .returned .nilIface ∧ Bld B b (l ++ [c]) w' ∧ Below B w w' := by
  subst hc
  refine (WriteByte_any B b _ (c.toNat : Int) w h.1 (by rw [Lib.byteCells_length]; omega) h.2).mono ?_
  rintro e w' ⟨rfl, h1, h2⟩
  refine ⟨rfl, ⟨.inr ?_, Nat.le_trans h.2 h2.size⟩, h2⟩
  rw [Lib.byteCells_append]
  exact h1
theorem Bld.string {B b : Nat} {l : List UInt8} {w : World} (h : Bld B b l w) (s : ByteArray) (hlen : l.length + s.size ≤ 1000000) :
    Calls Tryd.prog 20 #[.pointer (some ⟨b, 0, none⟩), .string s] w fun e w' => e = .returned (.tuple #[.int .i64 s.size, .nilIface]) ∧ Bld B b (l ++ s.data.toList) w' ∧ Below B w w' := by
  refine (WriteString_any B b _ s w h.1 (by rw [Lib.byteCells_length]; omega) h.2).mono ?_
  rintro e w' ⟨rfl, h1, h2⟩
  refine ⟨rfl, ⟨.inr ?_, Nat.le_trans h.2 h2.size⟩, h2⟩
  rw [Lib.byteCells_append]
  exact h1
theorem At6.under {w w' : World} {B b off : Nat} {d : Datum} {kv : Value} (h : At6 w b off d kv) (hg : Below B w w') (hb : b < B) : At6 w' b off d kv := by
  have he : ∀ o, w'.cell? ⟨b, o, none⟩ = w.cell? ⟨b, o, none⟩ := fun o => World.cell?_of_block (hg.block b hb)
  unfold At6
  rw [he, he, he, he, he, he]
  exact h
theorem Sl.under {w w' : World} {B : Nat} {v : Value} {ds : List Datum} (h : Sl w (fun x => B ≤ x) v ds) (hg : Below B w w') : Sl w' (fun x => B ≤ x) v ds := h.keep (fun b _ hm => hg.block b (by omega))
end Go.Proofs.YtchjbkokjilobaaDoor
