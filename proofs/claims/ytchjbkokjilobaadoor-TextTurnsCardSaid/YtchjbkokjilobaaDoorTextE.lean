/- The walks of text.Read$1 and text.Read. -/
import Derived.Test.YtchjbkokjilobaaDoorTextD
import Derived.Defers
import Derived.Recover
namespace Go.Proofs.YtchjbkokjilobaaDoor
open Go.RowKit
set_option linter.unusedVariables false

/-- what the deferred closure leaves: out and f -/
def Caught (w : World) (b2 b3 : Nat) (e a : Int) (w' : World) : Prop :=
  Blk w' b2 #[.slice none 0 0] 22 ∧ Blk w' b3 #[.int .i64 e, .int .i64 a] 26 ∧ Same (fun b => b = b2 ∨ b = b3) w w' ∧ w.heap.size ≤ w'.heap.size ∧ w'.os = w.os ∧ w'.tape = w.tape ∧ w'.output = w.output

set_option maxRecDepth 100000 in
set_option maxHeartbeats 800000 in
theorem catch_oops (b2 b3 : Nat) (x y0 y1 : Value) (er at_ : Int) (w : World) (h2 : Blk w b2 #[x] 22) (h3 : Blk w b3 #[y0, y1] 26) (hne : b2 ≠ b3) :
    CallsD Tryd.prog 15 #[.pointer (some ⟨b2, 0, none⟩), .pointer (some ⟨b3, 0, none⟩)] (.panicking [{ v := .iface 49 (.agg #[.int .i64 er, .int .i64 at_]), recovered := false }]) w fun e u' w' =>
      e = .returned (.tuple #[]) ∧ u' = .panicking [{ v := .iface 49 (.agg #[.int .i64 er, .int .i64 at_]), recovered := true }] ∧ Caught w b2 b3 er at_ w' := by
  refine callsD_of_wpS Tryd.func15 rfl fun c₀ cs hu => ?_
  apply wpS_seq
  apply wpS_region
  simp [wpOpsS, go_sem, recoverD, hu, Tryd.ntmps15, Exit.thenS]
  have hnil : ∀ (w : World), (binOp .eql 20 (.iface 49 (.agg #[.int .i64 er, .int .i64 at_])) .nilIface).run Tryd.prog w = .ok (.bool false) w := fun w => by kernel_rfl
  have H2 := Lib.hid h2
  have H3 := Lib.hid h3
  have c2 := h2.cell 0
  have f2 := h2.frozen 0
  have c30 := h3.cell 0
  have f30 := h3.frozen 0
  have c31 := h3.cell 1
  have f31 := h3.frozen 1
  have l2 := h2.lt
  have l3 := h3.lt
  clear h2 h3
  have hta : ∀ (w : World), (Instr.typeAssert (.iface 49 (.agg #[.int .i64 er, .int .i64 at_])) 20 49 true).run Tryd.prog w = .ok (.tuple #[.agg #[.int .i64 er, .int .i64 at_], .bool true]) w := fun w => by kernel_rfl
  have htm : (#[Value.pointer (some ⟨b2, 0, none⟩), Value.pointer (some ⟨b3, 0, none⟩)] ++ (Array.replicate 11 undef).setIfInBounds 3 (.iface 49 (.agg #[.int .i64 er, .int .i64 at_]))) =
    #[Value.pointer (some ⟨b2, 0, none⟩), Value.pointer (some ⟨b3, 0, none⟩), undef, undef, undef, .iface 49 (.agg #[.int .i64 er, .int .i64 at_]), undef, undef, undef, undef, undef, undef, undef] := rfl
  rw [htm]
  refine wpS_of_wp ?_
  go_wp2_with fail
  go_region
  go_wp2_with fail
  refine ⟨rfl, _, rfl, _, results_none rfl _ _ _, rfl, rfl, ?_⟩
  refine ⟨?_, ?_, ?_, by simp [World.setCell], rfl, rfl, rfl⟩
  · exact ((((H2.out.set 0 (.slice none 0 0)).far (p := ⟨b3, 0, none⟩) hne _).far (p := ⟨b3, 1, none⟩) hne _).alloc _).drew
  · exact ((((H3.out.far (p := ⟨b2, 0, none⟩) hne.symm (.slice none 0 0)).set 0 (.int .i64 er)).set 1 (.int .i64 at_)).alloc _).drew
  · intro b hb hm
    have h2 : b ≠ b2 := fun e => hm (.inl e)
    have h3 : b ≠ b3 := fun e => hm (.inr e)
    refine (heap_alloc_old _ _ (by simpa [World.setCell] using hb)).trans ?_
    exact (Below.heap_setCell _ _ _ _ h3).trans ((Below.heap_setCell _ _ _ _ h3).trans (Below.heap_setCell _ _ _ _ h2))

set_option maxRecDepth 100000 in
set_option maxHeartbeats 800000 in
theorem catch_idle (b2 b3 : Nat) (w : World) :
    CallsD Tryd.prog 15 #[.pointer (some ⟨b2, 0, none⟩), .pointer (some ⟨b3, 0, none⟩)] .returning w fun e u' w' => e = .returned (.tuple #[]) ∧ u' = .returning ∧ w' = w := by
  refine callsD_of_wpS Tryd.func15 rfl fun c₀ cs hu => ?_
  apply wpS_seq
  apply wpS_region
  simp [wpOpsS, go_sem, recoverD, hu, Tryd.ntmps15, Exit.thenS]
  have hnil : ∀ (w : World), (binOp .eql 20 .nilIface .nilIface).run Tryd.prog w = .ok (.bool true) w := fun w => by kernel_rfl
  have htm : (#[Value.pointer (some ⟨b2, 0, none⟩), Value.pointer (some ⟨b3, 0, none⟩)] ++ (Array.replicate 11 undef).setIfInBounds 3 .nilIface) =
    #[Value.pointer (some ⟨b2, 0, none⟩), Value.pointer (some ⟨b3, 0, none⟩), undef, undef, undef, .nilIface, undef, undef, undef, undef, undef, undef, undef] := rfl
  rw [htm]
  refine wpS_of_wp ?_
  go_wp2_with fail
  exact ⟨rfl, _, by rw [← hu], _, results_none rfl _ _ _, rfl, rfl, rfl⟩

/-- what text.Read comes to -/
def ReadPost (w : World) : Tx.Res (List Datum) → Ending → World → Prop
  | .error e, en, w' => en = .returned (.tuple #[.slice none 0 0, .agg #[.int .i64 e.1, .int .i64 e.2]]) ∧ w.grownBy w' none
  | .ok ds, en, w' => ∃ v, en = .returned (.tuple #[v, .agg #[.int .i64 0, .int .i64 0]]) ∧ Sl w' (fun b => b < w.heap.size) v ds ∧ w.grownBy w' none

set_option maxRecDepth 100000 in
set_option maxHeartbeats 800000 in
theorem read_long (s : ByteArray) (w : World) (hs : 6000 < s.size) (hs2 : s.size ≤ maxLen) :
    Calls Tryd.prog 8 #[.string s] w (ReadPost w (.error (4, 0))) := by
  have hs' : 6000 < (s.size : Int) := by omega
  have hmf : ∀ (fn : Fn) (first cap : Array Value) (w : World), (Instr.makeFunc fn first cap).run Tryd.prog w = .ok (.func fn first cap) w := fun _ _ _ _ => rfl
  go_enter_defers Tryd.func8, Tryd.ntmps8
  go_wp2_with fail
  exact ⟨_, by simp [results, Tryd.results8, go_sem], rfl, grown_alloc (grown_alloc (grown_refl _ _) _) _⟩
end Go.Proofs.YtchjbkokjilobaaDoor
