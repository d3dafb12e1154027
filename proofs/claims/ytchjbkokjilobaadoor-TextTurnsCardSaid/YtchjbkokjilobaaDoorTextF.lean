/- The walk of text.Read. -/
import Derived.Test.YtchjbkokjilobaaDoorTextE
import Derived.Test.YtchjbkokjilobaaDoorPlan2
namespace Go.Proofs.YtchjbkokjilobaaDoor
open Go.RowKit
set_option linter.unusedVariables false

def aheads (acc : List Datum) : Tx.Res (List Datum) → Tx.Res (List Datum)
  | .error e => .error e
  | .ok ds => .ok (acc ++ ds)
/-- what Read keeps beside the reader -/
def KeepsR (w wr : World) (acc : List Datum) (xs : List Value) (v : Value) : Prop :=
  Blk wr w.heap.size #[v] 22 ∧ Blk wr (w.heap.size + 1) #[.int .i64 0, .int .i64 0] 26 ∧ wr.ownsRow (w.heap.size + 3) 42 6 v acc.length xs ∧ RowCells wr (Mine (w.heap.size + 3) v) acc xs ∧ w.grownBy wr none ∧ w.heap.size + 3 ≤ wr.heap.size
theorem KeepsR.over {w wr w1 : World} {acc : List Datum} {xs : List Value} {v : Value} (h : KeepsR w wr acc xs v) (hgr : wr.grownBy w1 (some (w.heap.size + 2))) : KeepsR w w1 acc xs v := by
  obtain ⟨hR, hD, hown, hrow, hw, hB⟩ := h
  refine ⟨hR.grown hgr (by simp), hD.grown hgr (by simp), ?_, ?_, grown_later hw hgr (.inr fun i hi => by simp at hi; omega), Nat.le_trans hB hgr.size⟩
  · refine hown.kept hgr ?_
    rcases hv : v.ownBlock with _ | b
    · exact .inl rfl
    · right
      have := hown.lt b hv
      simp; omega
  · exact hrow.keep (Same.of_grown hgr (fun b hb => by simp at hb; subst hb; exact .inl (by omega)))
theorem KeepsR.alloc {w wr : World} {acc : List Datum} {xs : List Value} {v : Value} (h : KeepsR w wr acc xs v) (o : Obj) : KeepsR w (wr.alloc o) acc xs v := by
  obtain ⟨hR, hD, hown, hrow, hw, hB⟩ := h
  exact ⟨hR.alloc o, hD.alloc o, hown.alloc o, hrow.keep (Same.of_grown (World.grownBy_alloc wr o none) (by simp)), grown_alloc hw o, by simp; omega⟩
theorem KeepsR.drew {w wr : World} {acc : List Datum} {xs : List Value} {v : Value} (h : KeepsR w wr acc xs v) : KeepsR w wr.drew acc xs v := by
  obtain ⟨hR, hD, hown, hrow, hw, hB⟩ := h
  exact ⟨hR, hD, hown, RowCells.keep (w := wr) (w' := wr.drew) (fun _ _ _ => rfl) hrow, grown_drew hw, hB⟩
theorem caught_grown {w w2 w3 : World} {e a : Int} (h : w.grownBy w2 none) (hc : Caught w2 w.heap.size (w.heap.size + 1) e a w3) : w.grownBy w3 none := by
  obtain ⟨_, _, hs, hz, ho, ht, hp⟩ := hc
  exact ⟨ho.trans h.os, ht.trans h.tape, hp.trans h.output, Nat.le_trans h.size hz, fun i hi hne => (hs i (Nat.lt_of_lt_of_le hi h.size) (by omega)).trans (h.block i hi hne)⟩
theorem mine_lt {w wr : World} {acc : List Datum} {xs : List Value} {v : Value} (h : KeepsR w wr acc xs v) {b : Nat} (hb : Mine (w.heap.size + 3) v b) : b < wr.heap.size := by
  rcases hb with hb | hb
  · have := h.2.2.2.2.2; omega
  · exact (h.2.2.1.lt b hb.symm).2
theorem mine_ne {w wr : World} {acc : List Datum} {xs : List Value} {v : Value} (h : KeepsR w wr acc xs v) : some w.heap.size ≠ v.ownBlock := fun e => by
  have := (h.2.2.1.lt _ e.symm).1; omega
/-- what holds at the head of each round of Read -/
structure RRel (s : ByteArray) (w : World) (T : Tx.Res (List Datum)) (q : Nat) (wr : World) (k n : Nat) (r : List UInt8) (acc : List Datum) (xs : List Value) (v : Value) : Prop where
  rd : Rd wr (w.heap.size + 2) s k n r
  nodes : n ≤ 2000
  left : r.length < q
  few : acc.length + q ≤ 6001
  keeps : KeepsR w wr acc xs v
  goal : aheads acc (Tx.reads s.size q r n) = T

/-- a round: a datum was read and appended; new: the slice -/
theorem read_round {w Wa W4 W' : World} {m4 cap k2 n' : Nat} {s : ByteArray} {r' : List UInt8} {acc : List Datum} {xs : List Value} {v kv : Value} {d : Datum}
    (hK : KeepsR w Wa acc xs v) (hrd : Rd Wa (w.heap.size + 2) s k2 n' r') (hd : Sl Wa (Mine (w.heap.size + 3) v) kv d.kids)
    (hgr : Wa.grownBy W4 v.ownBlock) (hat : v.ownBlock = some m4 ∨ m4 = Wa.heap.size)
    (hown : W'.ownsRow (w.heap.size + 3) 42 6 (.slice (some ⟨m4, 0, none⟩) (acc.length + 1) cap) (acc.length + 1) (xs ++ six d.kind d.num d.name d.stamp d.lib kv))
    (hout : Blk W' w.heap.size #[.slice (some ⟨m4, 0, none⟩) (acc.length + 1) cap] 22) (hsame : ∀ b, b ≠ m4 → b ≠ w.heap.size → W'.heap[b]? = W4.heap[b]?) (hsz : W'.heap.size = W4.heap.size) (hos : W'.os = W4.os) (htp : W'.tape = W4.tape) (hop : W'.output = W4.output) :
    KeepsR w W' (acc ++ [d]) (xs ++ six d.kind d.num d.name d.stamp d.lib kv) (.slice (some ⟨m4, 0, none⟩) (acc.length + 1) cap) ∧ Rd W' (w.heap.size + 2) s k2 n' r' := by
  obtain ⟨hR, hD, hown0, hrow, hw, hB⟩ := hK
  have hv : ∀ b, v.ownBlock = some b → w.heap.size + 3 ≤ b ∧ b < Wa.heap.size := fun b hb => hown0.lt b hb
  have hm4 : w.heap.size + 3 ≤ m4 := by
    rcases hat with h | h
    · exact (hv m4 h).1
    · omega
  have hgb : ∀ b, b < w.heap.size + 3 → some b ≠ v.ownBlock := fun b hb e => by have := (hv b e.symm).1; omega
  have hrow4 : RowCells W4 (Mine (w.heap.size + 3) (.slice (some ⟨m4, 0, none⟩) (acc.length + 1) cap)) (acc ++ [d]) (xs ++ six d.kind d.num d.name d.stamp d.lib kv) := by
    refine row_push hown0 hB hrow ?_ hgr hat
    rw [datCells_iff]
    exact ⟨kv, rfl, hd⟩
  refine ⟨⟨hout, ?_, ?_, ?_, ?_, ?_⟩, ?_⟩
  · exact (hsame _ (by omega) (by omega)).trans (hD.grown hgr (hgb _ (by omega)))
  · simpa using hown
  · refine hrow4.keep (fun b hb hm => hsame b (fun e => hm (.inr (by rw [e]; rfl))) (fun e => hm (.inl (by omega))))
  · have h1 : w.grownBy W4 none := grown_later hw hgr (.inr fun i hi => by have := (hv i hi).1; omega)
    refine ⟨hos.trans h1.os, htp.trans h1.tape, hop.trans h1.output, by rw [hsz]; exact h1.size, fun i hi hne => ?_⟩
    exact (hsame i (by omega) (by omega)).trans (h1.block i hi hne)
  · rw [hsz]; exact Nat.le_trans hB hgr.size
  · exact ⟨(hsame _ (by omega) (by omega)).trans (hrd.1.grown hgr (hgb _ (by omega))), hrd.2⟩
theorem round_a {w Wa W4 : World} {m4 cap k2 n' : Nat} {s : ByteArray} {r' : List UInt8} {acc : List Datum} {xs z : List Value} {v kv : Value} {d : Datum}
    (hK : KeepsR w Wa acc xs v) (hrd : Rd Wa (w.heap.size + 2) s k2 n' r') (hd : Sl Wa (Mine (w.heap.size + 3) v) kv d.kids)
    (hgr : Wa.grownBy W4 v.ownBlock) (hat : v.ownBlock = some m4 ∨ m4 = Wa.heap.size) (hz : z.length = 6)
    (hown : W4.ownsRow (w.heap.size + 3) 42 6 (.slice (some ⟨m4, 0, none⟩) (acc.length + 1) cap) (acc.length + 1) (xs ++ z)) :
    KeepsR w ((set6n W4 m4 (acc.length * 6) (.int .i64 d.kind) (.int .i64 d.num) (.string ⟨d.name.toArray⟩) (.int .i64 d.stamp) (.int .i64 d.lib) kv).setCell ⟨w.heap.size, 0, none⟩ (.slice (some ⟨m4, 0, none⟩) (acc.length + 1) cap)) (acc ++ [d]) (xs ++ six d.kind d.num d.name d.stamp d.lib kv) (.slice (some ⟨m4, 0, none⟩) (acc.length + 1) cap) ∧ Rd ((set6n W4 m4 (acc.length * 6) (.int .i64 d.kind) (.int .i64 d.num) (.string ⟨d.name.toArray⟩) (.int .i64 d.stamp) (.int .i64 d.lib) kv).setCell ⟨w.heap.size, 0, none⟩ (.slice (some ⟨m4, 0, none⟩) (acc.length + 1) cap)) (w.heap.size + 2) s k2 n' r' := by
  have hx : xs.length = acc.length * 6 := hK.2.2.1.1
  have hm : w.heap.size + 3 ≤ m4 := (own_blk hown).1
  have ho := set6n_own hown hx hz (.int .i64 d.kind) (.int .i64 d.num) (.string ⟨d.name.toArray⟩) (.int .i64 d.stamp) (.int .i64 d.lib) kv
  have hb := hK.1.grown hgr (mine_ne hK)
  have hne : w.heap.size ≠ m4 := by omega
  have hG := set6n_grown W4 m4 (acc.length * 6) (.int .i64 d.kind) (.int .i64 d.num) (.string ⟨d.name.toArray⟩) (.int .i64 d.stamp) (.int .i64 d.lib) kv
  have hS := set6n_size W4 m4 (acc.length * 6) (.int .i64 d.kind) (.int .i64 d.num) (.string ⟨d.name.toArray⟩) (.int .i64 d.stamp) (.int .i64 d.lib) kv
  generalize set6n W4 m4 (acc.length * 6) (.int .i64 d.kind) (.int .i64 d.num) (.string ⟨d.name.toArray⟩) (.int .i64 d.stamp) (.int .i64 d.lib) kv = X at *
  have hb6 : Blk X w.heap.size #[v] 22 := hb.grown hG (by simpa using hne)
  have hX : X.grownBy (X.setCell ⟨w.heap.size, 0, none⟩ (.slice (some ⟨m4, 0, none⟩) (acc.length + 1) cap)) (some w.heap.size) := grown_setCell (grown_refl X _) 0 none _
  have ho2 := ho.kept hX (.inr (by simp [Value.ownBlock]; omega))
  have hb7 := hb6.set 0 (.slice (some ⟨m4, 0, none⟩) (acc.length + 1) cap)
  have hS2 : (X.setCell ⟨w.heap.size, 0, none⟩ (.slice (some ⟨m4, 0, none⟩) (acc.length + 1) cap)).heap.size = W4.heap.size := by rw [← hS]; simp [World.setCell]
  generalize X.setCell ⟨w.heap.size, 0, none⟩ (.slice (some ⟨m4, 0, none⟩) (acc.length + 1) cap) = Y at *
  refine read_round hK hrd hd hgr hat ho2 hb7 (fun b h1 h2 => ?_) hS2 (hX.os.trans hG.os) (hX.tape.trans hG.tape) (hX.output.trans hG.output)
  rcases Nat.lt_or_ge b W4.heap.size with hl | hl
  · exact (hX.block b (by omega) (by simpa using h2)).trans (hG.block b hl (by simpa using h1))
  · rw [Array.getElem?_eq_none (by omega), Array.getElem?_eq_none hl]
theorem round_b {w Wa W4 : World} {m4 cap k2 n' : Nat} {s : ByteArray} {r' : List UInt8} {acc : List Datum} {xs z : List Value} {v kv : Value} {d : Datum}
    (hK : KeepsR w Wa acc xs v) (hrd : Rd Wa (w.heap.size + 2) s k2 n' r') (hd : Sl Wa (Mine (w.heap.size + 3) v) kv d.kids)
    (hgr : Wa.grownBy W4 v.ownBlock) (hat : v.ownBlock = some m4 ∨ m4 = Wa.heap.size) (hz : z.length = 6)
    (hown : W4.ownsRow (w.heap.size + 3) 42 6 (.slice (some ⟨m4, 0, none⟩) (acc.length + 1) cap) (acc.length + 1) (xs ++ z)) :
    KeepsR w (set6n (W4.setCell ⟨w.heap.size, 0, none⟩ (.slice (some ⟨m4, 0, none⟩) (acc.length + 1) cap)) m4 (acc.length * 6) (.int .i64 d.kind) (.int .i64 d.num) (.string ⟨d.name.toArray⟩) (.int .i64 d.stamp) (.int .i64 d.lib) kv) (acc ++ [d]) (xs ++ six d.kind d.num d.name d.stamp d.lib kv) (.slice (some ⟨m4, 0, none⟩) (acc.length + 1) cap) ∧ Rd (set6n (W4.setCell ⟨w.heap.size, 0, none⟩ (.slice (some ⟨m4, 0, none⟩) (acc.length + 1) cap)) m4 (acc.length * 6) (.int .i64 d.kind) (.int .i64 d.num) (.string ⟨d.name.toArray⟩) (.int .i64 d.stamp) (.int .i64 d.lib) kv) (w.heap.size + 2) s k2 n' r' := by
  have hx : xs.length = acc.length * 6 := hK.2.2.1.1
  have hm : w.heap.size + 3 ≤ m4 := (own_blk hown).1
  have hb := hK.1.grown hgr (mine_ne hK)
  have hne : w.heap.size ≠ m4 := by omega
  have hX : W4.grownBy (W4.setCell ⟨w.heap.size, 0, none⟩ (.slice (some ⟨m4, 0, none⟩) (acc.length + 1) cap)) (some w.heap.size) := grown_setCell (grown_refl W4 _) 0 none _
  have ho2 := hown.kept hX (.inr (by simp [Value.ownBlock]; omega))
  have hb7 := hb.set 0 (.slice (some ⟨m4, 0, none⟩) (acc.length + 1) cap)
  have hS2 : (W4.setCell ⟨w.heap.size, 0, none⟩ (.slice (some ⟨m4, 0, none⟩) (acc.length + 1) cap)).heap.size = W4.heap.size := by simp [World.setCell]
  generalize W4.setCell ⟨w.heap.size, 0, none⟩ (.slice (some ⟨m4, 0, none⟩) (acc.length + 1) cap) = X at *
  have ho := set6n_own ho2 hx hz (.int .i64 d.kind) (.int .i64 d.num) (.string ⟨d.name.toArray⟩) (.int .i64 d.stamp) (.int .i64 d.lib) kv
  have hG := set6n_grown X m4 (acc.length * 6) (.int .i64 d.kind) (.int .i64 d.num) (.string ⟨d.name.toArray⟩) (.int .i64 d.stamp) (.int .i64 d.lib) kv
  have hS := set6n_size X m4 (acc.length * 6) (.int .i64 d.kind) (.int .i64 d.num) (.string ⟨d.name.toArray⟩) (.int .i64 d.stamp) (.int .i64 d.lib) kv
  generalize set6n X m4 (acc.length * 6) (.int .i64 d.kind) (.int .i64 d.num) (.string ⟨d.name.toArray⟩) (.int .i64 d.stamp) (.int .i64 d.lib) kv = Y at *
  have hb8 : Blk Y w.heap.size #[.slice (some ⟨m4, 0, none⟩) (acc.length + 1) cap] 22 := Blk.grown hb7 hG (by simpa using hne)
  refine read_round hK hrd hd hgr hat ho hb8 (fun b h1 h2 => ?_) (hS.trans hS2) (hG.os.trans hX.os) (hG.tape.trans hX.tape) (hG.output.trans hX.output)
  rcases Nat.lt_or_ge b W4.heap.size with hl | hl
  · exact (hG.block b (by omega) (by simpa using h1)).trans (hX.block b hl (by simpa using h2))
  · rw [Array.getElem?_eq_none (by omega), Array.getElem?_eq_none hl]
theorem reads_end {S q n : Nat} (hq : 0 < q) : Tx.reads S q [] n = .ok [] := by
  obtain ⟨q, rfl⟩ : ∃ q', q = q' + 1 := ⟨q - 1, by omega⟩
  rfl
theorem reads_more {S q n : Nat} {c : UInt8} {l : List UInt8} : Tx.reads S (q + 1) (c :: l) n = match Tx.datum S 40 (c :: l) n with
    | .error e => .error e
    | .ok (d, r', n') => match Tx.reads S q (Tx.skip false r') n' with
      | .error e => .error e
      | .ok ds => .ok (d :: ds) := by
  conv => lhs; unfold Tx.reads
  cases Tx.datum S 40 (c :: l) n with
  | error e => rfl
  | ok x => obtain ⟨d, r', n'⟩ := x; rfl
theorem aheads_cons {acc : List Datum} {d : Datum} {x : Tx.Res (List Datum)} : aheads acc (match x with
    | .error e => .error e
    | .ok ds => .ok (d :: ds)) = aheads (acc ++ [d]) x := by
  cases x with
  | error e => rfl
  | ok y => simp [aheads]

theorem read_end {w wr : World} {acc : List Datum} {xs : List Value} {v : Value} (h : KeepsR w wr acc xs v) :
    ReadPost w (.ok acc) (.returned (.tuple #[v, .agg #[.int .i64 0, .int .i64 0]])) (((wr.setCell ⟨w.heap.size, 0, none⟩ v).setCell ⟨w.heap.size + 1, 0, none⟩ (.int .i64 0)).setCell ⟨w.heap.size + 1, 1, none⟩ (.int .i64 0)).drew := by
  obtain ⟨hR, hD, hown, hrow, hw, hB⟩ := h
  have h1 : Sl wr (fun b => b < w.heap.size + 3) v acc := Sl.of_own hown (hrow.mono (M' := fun b => b < w.heap.size + 3) (fun b hb => .inl hb)) (fun b hb => by omega)
  refine ⟨v, rfl, (h1.keep (fun b hb hm => ?_)).mono (fun b hb => by omega), grown_drew (grown_setCell_new (grown_setCell_new (grown_setCell_new hw (Nat.le_refl _) _) (by simp) _) (by simp) _)⟩
  exact (Below.heap_setCell _ _ _ _ (by simp; omega)).trans ((Below.heap_setCell _ _ _ _ (by simp; omega)).trans (Below.heap_setCell _ _ _ _ (by simp; omega)))

set_option maxRecDepth 100000 in
set_option maxHeartbeats 3200000 in
theorem read_short (s : ByteArray) (w : World) (hs : s.size ≤ 6000) :
    Calls Tryd.prog 8 #[.string s] w (ReadPost w (Tx.read s.data.toList)) := by
  have hs' : (s.size : Int) ≤ 6000 := by omega
  have hms : s.size ≤ maxLen := by unfold maxLen; omega
  obtain ⟨i0, hi0, hz0, hz1, hz2⟩ := info_parts Tryd.info42
  have HP := Lib.hid (said_datum 40 (by omega))
  have hmf : ∀ (fn : Fn) (first cap : Array Value) (w : World), (Instr.makeFunc fn first cap).run Tryd.prog w = .ok (.func fn first cap) w := fun _ _ _ _ => rfl
  generalize hT : Tx.read s.data.toList = T
  have hT2 : Tx.reads s.size (s.size + 1) (Tx.skip false s.data.toList) 0 = T := by
    rw [← hT]; unfold Tx.read; rw [if_neg (by simp; omega)]; simp
  have HT := Lib.hid hT2
  clear hT hT2
  go_enter_defers Tryd.func8, Tryd.ntmps8
  go_wp2_with fail
  have hb2 := Blk.new w #[.slice none 0 0] 22
  have hb3 := Blk.new (w.alloc (.cells #[.slice none 0 0] 22)) #[.int .i64 0, .int .i64 0] 26
  have hb4 := Blk.new ((w.alloc (.cells #[.slice none 0 0] 22)).alloc (.cells #[.int .i64 0, .int .i64 0] 26)) #[.string s, .int .i64 0, .int .i64 0] 52
  simp only [World.size_alloc] at hb2 hb3 hb4
  refine (blank_any s (w.heap.size + 2) 0 0 s.data.toList _ hms ⟨by exact hb4, by omega, by simp⟩).mono ?_
  rintro e w1 ⟨rfl, hgr1, k1, hRd⟩
  have hk0 : KeepsR w (((w.alloc (.cells #[.slice none 0 0] 22)).alloc (.cells #[.int .i64 0, .int .i64 0] 26)).alloc (.cells #[.string s, .int .i64 0, .int .i64 0] 52)) [] [] (.slice none 0 0) :=
    ⟨(hb2.alloc _).alloc _, hb3.alloc _, World.ownsRow_nil _ _ _ _, RowCells.nil, grown_alloc (grown_alloc (grown_alloc (grown_refl _ _) _) _) _, by simp⟩
  have HK1 := Lib.hid (hk0.over hgr1)
  have HRD := Lib.hid hRd
  have hskl := Lib.hid (Tx.skip_le false s.data.toList)
  clear hb2 hb3 hb4 hgr1 hRd hk0
  go_wp2_with fail
  go_loopg [15] (s.size + 1) (fun q _ wr => ∃ k n r acc xs v, RRel s w T q wr k n r acc xs v)
  case atStart =>
    refine ⟨k1, 0, _, [], [], _, HRD.out, by omega, ?_, by simpa using hs, HK1.out, ?_⟩
    · have := hskl.out
      simp at this
      omega
    · rw [HT.out]; cases T <;> rfl
  case round =>
    obtain ⟨k, n, r, acc, xs, v, hrel⟩ := hrel
    obtain ⟨vA, vc, rfl⟩ := slice_own hrel.keeps.2.2.1
    have HL := Lib.hid hrel
    have c0 : wr.cell? ⟨w.heap.size + 2, 0, none⟩ = some (.string s) := hrel.rd.1.cell 0
    have c1 : wr.cell? ⟨w.heap.size + 2, 1, none⟩ = some (.int .i64 k) := hrel.rd.1.cell 1
    have o0 : wr.cell? ⟨w.heap.size, 0, none⟩ = some (.slice vA acc.length vc) := hrel.keeps.1.cell 0
    have fo0 : wr.frozen? ⟨w.heap.size, 0, none⟩ = false := hrel.keeps.1.frozen 0
    have q0 : wr.cell? ⟨w.heap.size + 1, 0, none⟩ = some (.int .i64 0) := hrel.keeps.2.1.cell 0
    have q1 : wr.cell? ⟨w.heap.size + 1, 1, none⟩ = some (.int .i64 0) := hrel.keeps.2.1.cell 1
    have fq0 : wr.frozen? ⟨w.heap.size + 1, 0, none⟩ = false := hrel.keeps.2.1.frozen 0
    have fq1 : wr.frozen? ⟨w.heap.size + 1, 1, none⟩ = false := hrel.keeps.2.1.frozen 1
    have hk := hrel.rd.2.1
    clear hrel HK1 HRD
    by_cases hend : k < s.size
    · have hend' : (k : Int) < (s.size : Int) := by omega
      obtain ⟨q, hq⟩ : ∃ q, gk = q + 1 := ⟨gk - 1, by have := HL.out.left; omega⟩
      obtain ⟨c, l, hr⟩ : ∃ c l, r = c :: l := ⟨_, _, by rw [← HL.out.rd.2.2]; exact drop_at s k hend⟩
      have hgoal := HL.out.goal
      rw [hq, hr, reads_more, ← hr] at hgoal
      cases hD : Tx.datum s.size 40 r n with
      | error er =>
        rw [hD] at hgoal
        have HGO := Lib.hid hgoal
        have HDA := Lib.hid hD
        clear hgoal hD hr hq
        go_wp2_with fail
        refine wp_region_plan (fun w' => w'.cell? ⟨w.heap.size, 0, none⟩ = some (.slice vA acc.length vc)) 5 9 4 (by kernel_rfl) rfl (by (repeat (first | with_reducible refine PanicFree.inBlock ?_ | with_reducible refine PanicFree.then ?_)); exact panicFree_cells (L := 4) (t := 2) (u := 3) (by rfl) (by omega) (by omega)) (by exact o0) (fun HQ HS => ?_)
        have hSx : ∀ x : HeldW (fun w' : World => w'.cell? ⟨w.heap.size, 0, none⟩ = some (.slice vA acc.length vc)), x.w.cell? ⟨w.heap.size, 0, none⟩ = some (.slice vA acc.length vc) := fun x => x.h
        (refine till_now 1 rfl (by kernel_rfl) rfl HQ (fun _ => HS) ?_; intro K hK; go_big_quiet_op; go_big_quiet_on)
        (refine till_take 0 [5] rfl (by kernel_rfl) rfl HQ HS ?_; intro K hK; go_big_quiet_op; refine ⟨_, fun _ => rfl, ?_⟩; go_big_quiet_on)
        (refine till_now 3 rfl (by kernel_rfl) rfl HQ (fun _ => HS) ?_; intro K hK; go_big_quiet_op; go_big_quiet_on)
        clear hSx
        refine till_two 2 4 (by kernel_rfl) rfl rfl rfl rfl (fun K hK => ?_) (fun K hK => ?_)
        · go_wp2_with (go_at_call 17; refine (HP.out s (w.heap.size + 2) k n r _ hs (by exact HL.out.rd) HL.out.nodes 1 (by omega)).mono ?_; rw [HDA.out]; rintro e w2 ⟨rfl, hgr2⟩)
          refine leaves_cons (f := 15) (args := #[.pointer (some ⟨w.heap.size, 0, none⟩), .pointer (some ⟨w.heap.size + 1, 0, none⟩)]) (by simp) (by simp [go_sem]) ?_
          have hk2 := HL.out.keeps.drew.over hgr2
          refine (catch_oops _ _ _ _ _ _ _ _ hk2.1 hk2.2.1 (by omega)).mono ?_
          rintro e u' w'' ⟨rfl, rfl, hc⟩
          have d0 := hc.1.cell 0
          have d1 := hc.2.1.cell 0
          have d2 := hc.2.1.cell 1
          refine ⟨.tuple #[.slice none 0 0, .agg #[.int .i64 er.1, .int .i64 er.2]], by simp [results, Tryd.results8, go_sem, d0, d1, d2], ?_⟩
          rw [← HGO.out]
          exact ⟨rfl, caught_grown hk2.2.2.2.2.1 hc⟩
        · go_wp2_with fail
          refine ⟨fun _ => (HL.out.keeps.alloc _).1.cell 0, ?_⟩
          (refine till_loud 2 (by kernel_rfl) rfl rfl ?_; intro K hK)
          go_wp2_with (go_at_call 17; refine (HP.out s (w.heap.size + 2) k n r _ hs (by exact (⟨HL.out.rd.1.alloc _, HL.out.rd.2⟩ : Rd _ _ _ _ _ _)) HL.out.nodes 1 (by omega)).mono ?_; rw [HDA.out]; rintro e w2 ⟨rfl, hgr2⟩)
          refine leaves_cons (f := 15) (args := #[.pointer (some ⟨w.heap.size, 0, none⟩), .pointer (some ⟨w.heap.size + 1, 0, none⟩)]) (by simp) (by simp [go_sem]) ?_
          have hk2 := (HL.out.keeps.alloc _).drew.over hgr2
          refine (catch_oops _ _ _ _ _ _ _ _ hk2.1 hk2.2.1 (by omega)).mono ?_
          rintro e u' w'' ⟨rfl, rfl, hc⟩
          have d0 := hc.1.cell 0
          have d1 := hc.2.1.cell 0
          have d2 := hc.2.1.cell 1
          refine ⟨.tuple #[.slice none 0 0, .agg #[.int .i64 er.1, .int .i64 er.2]], by simp [results, Tryd.results8, go_sem, d0, d1, d2], ?_⟩
          rw [← HGO.out]
          exact ⟨rfl, caught_grown hk2.2.2.2.2.1 hc⟩
      | ok x =>
        obtain ⟨d, r', n'⟩ := x
        rw [hD] at hgoal
        have hgoal2 : aheads (acc ++ [d]) (Tx.reads s.size q (Tx.skip false r') n') = T := by rw [← aheads_cons]; exact hgoal
        have HGO := Lib.hid hgoal2
        have HDA := Lib.hid hD
        have HGQ := Lib.hid hq
        clear hgoal hgoal2 hD hr hq
        go_wp2_with fail
        refine wp_region_plan (fun w' => w'.cell? ⟨w.heap.size, 0, none⟩ = some (.slice vA acc.length vc)) 5 9 4 (by kernel_rfl) rfl (by (repeat (first | with_reducible refine PanicFree.inBlock ?_ | with_reducible refine PanicFree.then ?_)); exact panicFree_cells (L := 4) (t := 2) (u := 3) (by rfl) (by omega) (by omega)) (by exact o0) (fun HQ HS => ?_)
        have hSx : ∀ x : HeldW (fun w' : World => w'.cell? ⟨w.heap.size, 0, none⟩ = some (.slice vA acc.length vc)), x.w.cell? ⟨w.heap.size, 0, none⟩ = some (.slice vA acc.length vc) := fun x => x.h
        (refine till_now 1 rfl (by kernel_rfl) rfl HQ (fun _ => HS) ?_; intro K hK; go_big_quiet_op; go_big_quiet_on)
        (refine till_take 0 [5] rfl (by kernel_rfl) rfl HQ HS ?_; intro K hK; go_big_quiet_op; refine ⟨_, fun _ => rfl, ?_⟩; go_big_quiet_on)
        (refine till_now 3 rfl (by kernel_rfl) rfl HQ (fun _ => HS) ?_; intro K hK; go_big_quiet_op; go_big_quiet_on)
        clear hSx
        refine till_two 2 4 (by kernel_rfl) rfl rfl rfl rfl (fun K hK => ?_) (fun K hK => ?_)
        · go_wp2_with (go_at_call 17; refine (HP.out s (w.heap.size + 2) k n r _ hs (by exact HL.out.rd) HL.out.nodes 1 (by omega)).mono ?_; rw [HDA.out]; rintro e w2 ⟨x, k2, rfl, hdv, hrd2, hn2, hgr2⟩)
          obtain ⟨kv, rfl, hsl⟩ := hdv
          obtain ⟨kA, kc, rfl⟩ := hsl.form
          have HK2 := Lib.hid ((HL.out.keeps.drew.over hgr2).alloc (.cells zero6 42))
          have HR2 := Lib.hid (⟨hrd2.1.alloc (.cells zero6 42), hrd2.2⟩ : Rd (w2.alloc (.cells zero6 42)) (w.heap.size + 2) s k2 n' r')
          have HSL := Lib.hid ((hsl.mono (M' := Mine (w.heap.size + 3) (.slice vA acc.length vc)) (fun b hb => mine_lt HL.out.keeps hb)).keep (Same.of_grown (World.grownBy_alloc w2 (.cells zero6 42) none) (by simp)))
          have HZ := Lib.hid (heap_alloc_new w2 (.cells zero6 42))
          have hd0 := (HL.out.keeps.drew.over hgr2).1.cell 0
          clear hsl hrd2 hgr2
          refine ⟨fun _ => hd0, ?_⟩
          (refine till_loud 4 (by kernel_rfl) rfl rfl ?_; intro K hK)
          go_wp2_with fail
          refine ⟨HK2.out.1.cell 0, ?_⟩
          (refine till_last 5 (by kernel_rfl) rfl rfl (by kernel_rfl) ?_; intro K hK)
          refine wp_append_lies _ (.tmp 24) (.tmp 28) 22 (by rfl) (w.heap.size + 3) 42 i0 _ 6 72 Tryd.underlying22 hi0 hz0 hz1 hz2 rfl (by omega) (.slice vA acc.length vc) acc.length xs (by rfl) HK2.out.2.2.1
            ⟨w2.heap.size, 0, none⟩ 1 1 (six 0 0 [] 0 0 (.slice none 0 0)) (by rfl) (by rfl) (World.news_of_block HZ.out) (by simp [six, Value.oneCell']) (by omega) (by have := HL.out.few; unfold maxLen; omega) (by have := HL.out.few; omega) (by exact HK2.out.2.2.2.2.2) (w2.heap.size + 1) (by simp) ?_
          intro m4 cap w4 hown4 hgr4 hat4 hlt4
          refine hK _ _ ?_
          clear hK
          have ob := own_blk hown4
          have hlen : (acc.length : Int) < ((acc.length + 1 : Nat) : Int) := by omega
          simp only [Act.put, List.setIfInBounds_toArray, List.set_cons_succ, List.set_cons_zero]
          (refine till_now 6 rfl (by kernel_rfl) rfl HQ (fun h => by cases h) ?_; intro K hK; go_big_quiet_op; go_big_quiet_on)
          have hx6 : xs.length = acc.length * 6 := HK2.out.2.2.1.1
          have hne1 : ¬ m4 = w.heap.size := by have := ob.1; omega
          have hne2 : ¬ w.heap.size = m4 := by have := ob.1; omega
          have OB := Lib.hid ob
          have g0 : w4.frozen? ⟨m4, acc.length * 6, none⟩ = false := (ob.2.2 (acc.length * 6) (by omega)).1
          have g1 : w4.frozen? ⟨m4, acc.length * 6 + 1, none⟩ = false := (ob.2.2 (acc.length * 6 + 1) (by omega)).1
          have g2 : w4.frozen? ⟨m4, acc.length * 6 + 2, none⟩ = false := (ob.2.2 (acc.length * 6 + 2) (by omega)).1
          have g3 : w4.frozen? ⟨m4, acc.length * 6 + 3, none⟩ = false := (ob.2.2 (acc.length * 6 + 3) (by omega)).1
          have g4 : w4.frozen? ⟨m4, acc.length * 6 + 4, none⟩ = false := (ob.2.2 (acc.length * 6 + 4) (by omega)).1
          have g5 : w4.frozen? ⟨m4, acc.length * 6 + 5, none⟩ = false := (ob.2.2 (acc.length * 6 + 5) (by omega)).1
          obtain ⟨x0, e0⟩ := (ob.2.2 (acc.length * 6) (by omega)).2
          obtain ⟨x1, e1⟩ := (ob.2.2 (acc.length * 6 + 1) (by omega)).2
          obtain ⟨x2, e2⟩ := (ob.2.2 (acc.length * 6 + 2) (by omega)).2
          obtain ⟨x3, e3⟩ := (ob.2.2 (acc.length * 6 + 3) (by omega)).2
          obtain ⟨x4, e4⟩ := (ob.2.2 (acc.length * 6 + 4) (by omega)).2
          obtain ⟨x5, e5⟩ := (ob.2.2 (acc.length * 6 + 5) (by omega)).2
          have hout4 := HK2.out.1.grown hgr4 (mine_ne HK2.out)
          have HO4 := Lib.hid hout4
          have o4 : w4.cell? ⟨w.heap.size, 0, none⟩ = some (.slice vA acc.length vc) := hout4.cell 0
          have fo4 := hout4.frozen 0
          have HW4 := Lib.hid hown4
          have HG4 := Lib.hid hgr4
          have HA4 := Lib.hid (show (Value.slice vA acc.length vc).ownBlock = some m4 ∨ m4 = (w2.alloc (.cells zero6 42)).heap.size by simpa using hat4)
          clear ob hout4 hown4 hgr4 hat4
          refine till_two 7 8 (by kernel_rfl) rfl rfl rfl rfl (fun K hK => ?_) (fun K hK => ?_)
          · go_wp2_with fail
            refine ⟨fun h => (by cases h), ?_⟩
            (refine till_last 8 (by kernel_rfl) rfl rfl (by kernel_rfl) ?_; intro K hK)
            go_wp2_with fail
            refine till_done (by kernel_rfl) ?_
            have hn6 := round_a HK2.out HR2.out HSL.out HG4.out HA4.out (by rfl) HW4.out
            unfold set6n at hn6
            have HN := Lib.hid hn6
            clear hn6
            go_wp2_with (go_at_call 16; refine (blank_any s (w.heap.size + 2) k2 n' r' _ hms (by exact HN.out.2)).mono ?_; rintro e w5 ⟨rfl, hgr5, k5, hRd5⟩)
            have HF := Lib.hid (⟨hRd5, hn2, by
              have h1 := Tx.datum_lt _ _ _ _ _ _ HDA.out
              have h2 := Tx.skip_le false r'
              have := HL.out.left
              have := HGQ.out
              omega, by have := HL.out.few; have := HGQ.out; simp; omega, HN.out.1.over hgr5, HGO.out⟩ : RRel s w T q w5 k5 n' (Tx.skip false r') (acc ++ [d]) _ _)
            clear hgr5 hRd5
            go_roundg q
            case measure => have := HGQ.out; omega
            case rel => exact ⟨_, _, _, _, _, _, HF.out⟩
          · go_wp2_with fail
            refine ⟨fun h => (by cases h), ?_⟩
            (refine till_last 7 (by kernel_rfl) rfl rfl (by kernel_rfl) ?_; intro K hK)
            go_wp2_with fail
            refine till_done (by kernel_rfl) ?_
            have hn6 := round_b HK2.out HR2.out HSL.out HG4.out HA4.out (by rfl) HW4.out
            unfold set6n at hn6
            have HN := Lib.hid hn6
            clear hn6
            go_wp2_with (go_at_call 16; refine (blank_any s (w.heap.size + 2) k2 n' r' _ hms (by exact HN.out.2)).mono ?_; rintro e w5 ⟨rfl, hgr5, k5, hRd5⟩)
            have HF := Lib.hid (⟨hRd5, hn2, by
              have h1 := Tx.datum_lt _ _ _ _ _ _ HDA.out
              have h2 := Tx.skip_le false r'
              have := HL.out.left
              have := HGQ.out
              omega, by have := HL.out.few; have := HGQ.out; simp; omega, HN.out.1.over hgr5, HGO.out⟩ : RRel s w T q w5 k5 n' (Tx.skip false r') (acc ++ [d]) _ _)
            clear hgr5 hRd5
            go_roundg q
            case measure => have := HGQ.out; omega
            case rel => exact ⟨_, _, _, _, _, _, HF.out⟩
        · go_wp2_with fail
          refine ⟨fun _ => (HL.out.keeps.alloc _).1.cell 0, ?_⟩
          (refine till_loud 2 (by kernel_rfl) rfl rfl ?_; intro K hK)
          go_wp2_with (go_at_call 17; refine (HP.out s (w.heap.size + 2) k n r _ hs (by exact (⟨HL.out.rd.1.alloc _, HL.out.rd.2⟩ : Rd _ _ _ _ _ _)) HL.out.nodes 1 (by omega)).mono ?_; rw [HDA.out]; rintro e w2 ⟨x, k2, rfl, hdv, hrd2, hn2, hgr2⟩)
          obtain ⟨kv, rfl, hsl⟩ := hdv
          obtain ⟨kA, kc, rfl⟩ := hsl.form
          have HK2 := Lib.hid ((HL.out.keeps.alloc _).drew.over hgr2)
          have HR2 := Lib.hid hrd2
          have HSL := Lib.hid (hsl.mono (M' := Mine (w.heap.size + 3) (.slice vA acc.length vc)) (fun b hb => by have := mine_lt HL.out.keeps hb; simp; omega))
          have hz := (Blk.new wr zero6 42).grown (grown_undrew (n := 1) hgr2) (by have := HL.out.keeps.2.2.2.2.2; simp; omega)
          have HZ := Lib.hid hz
          clear hsl hrd2 hgr2 hz
          refine ⟨HK2.out.1.cell 0, ?_⟩
          (refine till_last 5 (by kernel_rfl) rfl rfl (by kernel_rfl) ?_; intro K hK)
          refine wp_append_lies _ (.tmp 24) (.tmp 28) 22 (by rfl) (w.heap.size + 3) 42 i0 _ 6 72 Tryd.underlying22 hi0 hz0 hz1 hz2 rfl (by omega) (.slice vA acc.length vc) acc.length xs (by rfl) HK2.out.2.2.1
            ⟨wr.heap.size, 0, none⟩ 1 1 (six 0 0 [] 0 0 (.slice none 0 0)) (by rfl) (by rfl) (World.news_of_block HZ.out) (by simp [six, Value.oneCell']) (by omega) (by have := HL.out.few; unfold maxLen; omega) (by have := HL.out.few; omega) (by exact HK2.out.2.2.2.2.2) w2.heap.size (by simp) ?_
          intro m4 cap w4 hown4 hgr4 hat4 hlt4
          refine hK _ _ ?_
          clear hK
          have ob := own_blk hown4
          have hlen : (acc.length : Int) < ((acc.length + 1 : Nat) : Int) := by omega
          simp only [Act.put, List.setIfInBounds_toArray, List.set_cons_succ, List.set_cons_zero]
          (refine till_now 6 rfl (by kernel_rfl) rfl HQ (fun h => by cases h) ?_; intro K hK; go_big_quiet_op; go_big_quiet_on)
          have hx6 : xs.length = acc.length * 6 := HK2.out.2.2.1.1
          have hne1 : ¬ m4 = w.heap.size := by have := ob.1; omega
          have hne2 : ¬ w.heap.size = m4 := by have := ob.1; omega
          have OB := Lib.hid ob
          have g0 : w4.frozen? ⟨m4, acc.length * 6, none⟩ = false := (ob.2.2 (acc.length * 6) (by omega)).1
          have g1 : w4.frozen? ⟨m4, acc.length * 6 + 1, none⟩ = false := (ob.2.2 (acc.length * 6 + 1) (by omega)).1
          have g2 : w4.frozen? ⟨m4, acc.length * 6 + 2, none⟩ = false := (ob.2.2 (acc.length * 6 + 2) (by omega)).1
          have g3 : w4.frozen? ⟨m4, acc.length * 6 + 3, none⟩ = false := (ob.2.2 (acc.length * 6 + 3) (by omega)).1
          have g4 : w4.frozen? ⟨m4, acc.length * 6 + 4, none⟩ = false := (ob.2.2 (acc.length * 6 + 4) (by omega)).1
          have g5 : w4.frozen? ⟨m4, acc.length * 6 + 5, none⟩ = false := (ob.2.2 (acc.length * 6 + 5) (by omega)).1
          obtain ⟨x0, e0⟩ := (ob.2.2 (acc.length * 6) (by omega)).2
          obtain ⟨x1, e1⟩ := (ob.2.2 (acc.length * 6 + 1) (by omega)).2
          obtain ⟨x2, e2⟩ := (ob.2.2 (acc.length * 6 + 2) (by omega)).2
          obtain ⟨x3, e3⟩ := (ob.2.2 (acc.length * 6 + 3) (by omega)).2
          obtain ⟨x4, e4⟩ := (ob.2.2 (acc.length * 6 + 4) (by omega)).2
          obtain ⟨x5, e5⟩ := (ob.2.2 (acc.length * 6 + 5) (by omega)).2
          have hout4 := HK2.out.1.grown hgr4 (mine_ne HK2.out)
          have HO4 := Lib.hid hout4
          have o4 : w4.cell? ⟨w.heap.size, 0, none⟩ = some (.slice vA acc.length vc) := hout4.cell 0
          have fo4 := hout4.frozen 0
          have HW4 := Lib.hid hown4
          have HG4 := Lib.hid hgr4
          have HA4 := Lib.hid hat4
          clear ob hout4 hown4 hgr4 hat4
          refine till_two 7 8 (by kernel_rfl) rfl rfl rfl rfl (fun K hK => ?_) (fun K hK => ?_)
          · go_wp2_with fail
            refine ⟨fun h => (by cases h), ?_⟩
            (refine till_last 8 (by kernel_rfl) rfl rfl (by kernel_rfl) ?_; intro K hK)
            go_wp2_with fail
            refine till_done (by kernel_rfl) ?_
            have hn6 := round_a HK2.out HR2.out HSL.out HG4.out HA4.out (by rfl) HW4.out
            unfold set6n at hn6
            have HN := Lib.hid hn6
            clear hn6
            go_wp2_with (go_at_call 16; refine (blank_any s (w.heap.size + 2) k2 n' r' _ hms (by exact HN.out.2)).mono ?_; rintro e w5 ⟨rfl, hgr5, k5, hRd5⟩)
            have HF := Lib.hid (⟨hRd5, hn2, by
              have h1 := Tx.datum_lt _ _ _ _ _ _ HDA.out
              have h2 := Tx.skip_le false r'
              have := HL.out.left
              have := HGQ.out
              omega, by have := HL.out.few; have := HGQ.out; simp; omega, HN.out.1.over hgr5, HGO.out⟩ : RRel s w T q w5 k5 n' (Tx.skip false r') (acc ++ [d]) _ _)
            clear hgr5 hRd5
            go_roundg q
            case measure => have := HGQ.out; omega
            case rel => exact ⟨_, _, _, _, _, _, HF.out⟩
          · go_wp2_with fail
            refine ⟨fun h => (by cases h), ?_⟩
            (refine till_last 7 (by kernel_rfl) rfl rfl (by kernel_rfl) ?_; intro K hK)
            go_wp2_with fail
            refine till_done (by kernel_rfl) ?_
            have hn6 := round_b HK2.out HR2.out HSL.out HG4.out HA4.out (by rfl) HW4.out
            unfold set6n at hn6
            have HN := Lib.hid hn6
            clear hn6
            go_wp2_with (go_at_call 16; refine (blank_any s (w.heap.size + 2) k2 n' r' _ hms (by exact HN.out.2)).mono ?_; rintro e w5 ⟨rfl, hgr5, k5, hRd5⟩)
            have HF := Lib.hid (⟨hRd5, hn2, by
              have h1 := Tx.datum_lt _ _ _ _ _ _ HDA.out
              have h2 := Tx.skip_le false r'
              have := HL.out.left
              have := HGQ.out
              omega, by have := HL.out.few; have := HGQ.out; simp; omega, HN.out.1.over hgr5, HGO.out⟩ : RRel s w T q w5 k5 n' (Tx.skip false r') (acc ++ [d]) _ _)
            clear hgr5 hRd5
            go_roundg q
            case measure => have := HGQ.out; omega
            case rel => exact ⟨_, _, _, _, _, _, HF.out⟩
    · have hend' : ¬ (k : Int) < (s.size : Int) := by omega
      have hgoal := HL.out.goal
      rw [show r = [] from by rw [← HL.out.rd.2.2]; exact List.drop_eq_nil_of_le (by simpa using hend), reads_end (by have := HL.out.left; omega)] at hgoal
      have HG := Lib.hid hgoal
      clear hgoal
      go_wp2_with fail
      go_region
      go_wp2_with fail
      refine leaves_cons (f := 15) (args := #[.pointer (some ⟨w.heap.size, 0, none⟩), .pointer (some ⟨w.heap.size + 1, 0, none⟩)]) (by simp) (by simp [go_sem]) ?_
      refine (catch_idle _ _ _).mono ?_
      rintro e u' w'' ⟨rfl, rfl, rfl⟩
      refine ⟨.tuple #[.slice vA acc.length vc, .agg #[.int .i64 0, .int .i64 0]], by simp [results, Tryd.results8, go_sem, *], ?_⟩
      rw [← HG.out]
      simp only [aheads, List.append_nil]
      exact read_end HL.out.keeps
end Go.Proofs.YtchjbkokjilobaaDoor
