/- What the rows' list gives a walk, and a world that meets it. -/
import Derived.Test.YtchjbkokjilobaaDoorRows
import Derived.Test.YtchjbkokjilobaaDoorTextT
import Derived.ProofKit
import Derived.OpenShut
import Derived.ChangeMaps5
import Derived.Deep.DeepHandedRow
import Derived.Deep.DeepWitnessRowRef
import Derived.LaidSub
import Derived.LaidLaws
import Derived.MakeChecks
import Derived.Lib.LaidTab
namespace Go.Proofs.YtchjbkokjilobaaDoor
open Go.ChangeShapes Go.WideShapes Go.ChangeAt Go.RowKit

theorem own : ownKnob Tryd.prog.godebug = none := by kernel_rfl
theorem gPow : Tryd.prog.globalNamed "internal/strconv.uint64pow10" = some 0 := by kernel_rfl
theorem gPowType : (Tryd.prog.globals[0]?).map (·.type) = some 85 := by kernel_rfl
theorem cellsPow : Tryd.prog.cellsOf 85 = 20 := by kernel_rfl
theorem cellsU64 : Tryd.prog.cellsOf 76 = 1 := by kernel_rfl
def laidList : List (String × DataW Unit) := [("math/bits.deBruijn32tab", Rows.laid_math_bits_deBruijn32tab), ("math/bits.deBruijn64tab", Rows.laid_math_bits_deBruijn64tab), ("internal/strconv.uint64pow10", Rows.laid_internal_strconv_uint64pow10), ("strconv.ErrRange", Rows.laid_strconv_ErrRange), ("strconv.ErrSyntax", Rows.laid_strconv_ErrSyntax)]
/-- the table is there -/
theorem tabOf {W : World} (h : laidMetH Tryd.prog laidList W) : TabAt W.heap.size W := by
  have h1 := h.filter (fun x => x.1 == "internal/strconv.uint64pow10")
  have e : laidList.filter (fun x => x.1 == "internal/strconv.uint64pow10") = [("internal/strconv.uint64pow10", Lib.tabData .u64 Lib.pow10Tab)] := by rfl
  rw [e] at h1
  have h2 : laidMet Tryd.prog [("internal/strconv.uint64pow10", Lib.tabData .u64 Lib.pow10Tab)] W := h1
  exact TabAt.of (Lib.tabIs_of_head (rest := []) gPow gPowType Tryd.underlying85 Tryd.underlying76 cellsU64 cellsPow h2)

/-- a table's cells -/
def tabCells : DataW Unit → Array Value
  | .agg l => (l.map fun
    | .lit (.int k n) => Value.int k n
    | _ => undef).toArray
  | _ => #[]
def msgCell : DataW Unit → Value
  | .iface _ (.ptr (.agg [.lit (.string s)])) => .string ⟨s.toArray⟩
  | _ => undef
def putCells (h : Array Obj) (g : Nat) (cs : Array Value) : Array Obj := h.modify g fun
  | .cells _ t frozen => .cells cs t frozen
  | o => o
/-- a world in which the listed variables hold what is listed -/
noncomputable def laidWorld (os : Os) : World :=
  let w0 := World.holding Tryd.prog os ⟨#[], #[], []⟩
  let n := w0.heap.size
  let h1 := putCells w0.heap 0 (tabCells Rows.laid_internal_strconv_uint64pow10)
  let h2 := putCells h1 4 (tabCells Rows.laid_math_bits_deBruijn32tab)
  let h3 := putCells h2 5 (tabCells Rows.laid_math_bits_deBruijn64tab)
  let h4 := putCells h3 3 #[.iface 105 (.pointer (some ⟨n, 0, none⟩))]
  let h5 := putCells h4 2 #[.iface 105 (.pointer (some ⟨n + 1, 0, none⟩))]
  { w0 with heap := (h5.push (.cells #[msgCell Rows.laid_strconv_ErrRange] 107)).push (.cells #[msgCell Rows.laid_strconv_ErrSyntax] 107) }
theorem laid_met (os : Os) (args : Array Value) (h : args = #[.string ⟨#[]⟩, .string ⟨#[]⟩]) : laidMet Tryd.prog laidList ((laidWorld os).forCall (fun _ _ => 0) ⟨#[], args, []⟩).memory := by
  subst h
  exact laidMet_of_run' 12 (by kernel_rfl) (by kernel_rfl)
end Go.Proofs.YtchjbkokjilobaaDoor
