/- The walk of (*reader).list, over what (*reader).datum does. -/
import Derived.Test.YtchjbkokjilobaaDoorTextS
import Derived.Test.YtchjbkokjilobaaDoorPlan
import Derived.Deep.AppendLies
namespace Go.Proofs.YtchjbkokjilobaaDoor
open Go.RowKit

/-- what (*reader).datum and (*reader).list come to -/
def OutPost (w : World) (g : Nat) (s : ByteArray) : Tx.Res (Datum × List UInt8 × Nat) → Ending → World → Prop
  | .error e, en, w' => en = oops e.1 e.2 ∧ w.grownBy w' (some g)
  | .ok (d, r, n), en, w' => ∃ x k, en = .returned x ∧ Dv w' (fun b => b < w.heap.size) x d ∧ Rd w' g s k n r ∧ n ≤ 2000 ∧ w.grownBy w' (some g)

def SaidDatum (f : Nat) : Prop := ∀ (s : ByteArray) (g k n : Nat) (r : List UInt8) (w : World), s.size ≤ 6000 → Rd w g s k n r → n ≤ 2000 → ∀ deep : Int, deep = 41 - (f : Int) →
  Calls Tryd.prog 17 #[.pointer (some ⟨g, 0, none⟩), .int .i64 deep] w (OutPost w g s (Tx.datum s.size f r n))

/-- data behind data -/
def ahead (acc : List Datum) : Tx.Res (List Datum × List UInt8 × Nat) → Tx.Res (Datum × List UInt8 × Nat)
  | .error e => .error e
  | .ok (ds, r, n) => .ok (Tx.list (acc ++ ds), r, n)

theorem Tryd.info42 : (Tryd.prog.info? 42).map (fun i => (i.zero, i.size, i.bytes)) = some (some (.agg #[.int .i64 0, .int .i64 0, .string ⟨#[]⟩, .int .i64 0, .int .i64 0, .slice none 0 0]), 6, 72) := by kernel_rfl

abbrev zero6 : Array Value := #[.int .i64 0, .int .i64 0, .string ⟨#[]⟩, .int .i64 0, .int .i64 0, .slice none 0 0]
abbrev list6 (v : Value) : Array Value := #[.int .i64 4, .int .i64 0, .string ⟨#[]⟩, .int .i64 0, .int .i64 0, v]
/-- what holds at the head of each round of list -/
structure LRel (f : Nat) (s : ByteArray) (g : Nat) (w : World) (T : Tx.Res (List Datum × List UInt8 × Nat)) (q : Nat) (wr : World) (k n : Nat) (r : List UInt8) (acc : List Datum) (xs : List Value) (v : Value) : Prop where
  rd : Rd wr g s k n r
  nodes : n ≤ 2000
  left : r.length < q
  few : acc.length + q ≤ 6001
  res : Blk wr w.heap.size zero6 42
  var : Blk wr (w.heap.size + 1) (list6 v) 42
  own : wr.ownsRow (w.heap.size + 2) 42 6 v acc.length xs
  row : RowCells wr (Mine (w.heap.size + 2) v) acc xs
  grown : w.grownBy wr (some g)
  goal : ahead acc (Tx.items s.size (Tx.datum s.size f) q r n) = ahead [] T

theorem size_pos {w wr : World} {f g q k n : Nat} {s : ByteArray} {T : Tx.Res (List Datum × List UInt8 × Nat)} {r : List UInt8} {acc : List Datum} {xs : List Value} {v : Value} (h : LRel f s g w T q wr k n r acc xs v) : w.heap.size + 2 ≤ wr.heap.size := by
  have := h.var.lt
  omega
/-- what list keeps beside the reader -/
def Keeps (g : Nat) (w : World) (wr : World) (acc : List Datum) (xs : List Value) (v : Value) : Prop :=
  Blk wr w.heap.size zero6 42 ∧ Blk wr (w.heap.size + 1) (list6 v) 42 ∧ wr.ownsRow (w.heap.size + 2) 42 6 v acc.length xs ∧ RowCells wr (Mine (w.heap.size + 2) v) acc xs ∧ w.grownBy wr (some g)
/-- a call that turned the reader alone -/
theorem Keeps.over {w wr w1 : World} {g : Nat} {acc : List Datum} {xs : List Value} {v : Value} (h : Keeps g w wr acc xs v) (hg : g < w.heap.size) (hgr : wr.grownBy w1 (some g)) : Keeps g w w1 acc xs v := by
  obtain ⟨hR, hD, hown, hrow, hw⟩ := h
  refine ⟨hR.grown hgr (by simp; omega), hD.grown hgr (by simp; omega), ?_, ?_, grown_trans hw hgr⟩
  · refine hown.kept hgr ?_
    rcases hv : v.ownBlock with _ | b
    · exact .inl rfl
    · right
      have := hown.lt b hv
      simp; omega
  · exact hrow.keep (Same.of_grown hgr (fun b hb => by simp at hb; subst hb; exact .inl (by omega)))
theorem LRel.keeps {w wr : World} {f g q k n : Nat} {s : ByteArray} {T : Tx.Res (List Datum × List UInt8 × Nat)} {r : List UInt8} {acc : List Datum} {xs : List Value} {v : Value} (h : LRel f s g w T q wr k n r acc xs v) : Keeps g w wr acc xs v :=
  ⟨h.res, h.var, h.own, h.row, h.grown⟩
/-- a round: a datum was read and appended -/
theorem list_round {w w2 w4 : World} {f g q n' k2 m4 cap : Nat} {s : ByteArray} {T : Tx.Res (List Datum × List UInt8 × Nat)} {r' : List UInt8} {acc : List Datum} {xs : List Value} {v kv : Value} {d : Datum} {o : Obj}
    (hg : g < w.heap.size) (hK : Keeps g w w2 acc xs v) (hrd : Rd w2 g s k2 n' r') (hn : n' ≤ 2000) (hd : Sl w2 (Mine (w.heap.size + 2) v) kv d.kids) (hleft : r'.length < q) (hfew : acc.length + (q + 1) ≤ 6001)
    (hgoal : ahead (acc ++ [d]) (Tx.items s.size (Tx.datum s.size f) q r' n') = ahead [] T)
    (hown : w4.ownsRow (w.heap.size + 2) 42 6 (.slice (some ⟨m4, 0, none⟩) (acc.length + 1) cap) (acc.length + 1) (xs ++ six d.kind d.num d.name d.stamp d.lib kv)) (hgr : (w2.alloc o).grownBy w4 v.ownBlock)
    (hat : v.ownBlock = some m4 ∨ m4 = w2.heap.size + 1) :
    LRel f s g w T q (w4.setCell ⟨w.heap.size + 1, 5, none⟩ (.slice (some ⟨m4, 0, none⟩) (acc.length + 1) cap)) k2 n' r' (acc ++ [d]) (xs ++ six d.kind d.num d.name d.stamp d.lib kv) (.slice (some ⟨m4, 0, none⟩) (acc.length + 1) cap) := by
  obtain ⟨hR, hD, hown2, hrow, hw⟩ := hK
  have hv : ∀ b, v.ownBlock = some b → w.heap.size + 2 ≤ b ∧ b < w2.heap.size := fun b hb => hown2.lt b hb
  have hlt := hD.lt
  have ne : ∀ b, b < w.heap.size + 2 → some b ≠ v.ownBlock := fun b hb e => by have := (hv b e.symm).1; omega
  have hm4 : w.heap.size + 2 ≤ m4 := by
    rcases hat with h | h
    · exact (hv m4 h).1
    · omega
  have hD4 := (hD.alloc o).grown hgr (ne _ (by omega))
  have hset : w4.grownBy (w4.setCell ⟨w.heap.size + 1, 5, none⟩ (.slice (some ⟨m4, 0, none⟩) (acc.length + 1) cap)) (some (w.heap.size + 1)) := grown_setCell (grown_refl _ _) 5 none _
  have hrow4 : RowCells w4 (Mine (w.heap.size + 2) (.slice (some ⟨m4, 0, none⟩) (acc.length + 1) cap)) (acc ++ [d]) (xs ++ six d.kind d.num d.name d.stamp d.lib kv) := by
    refine row_push (w := w2.alloc o) (hown2.alloc o) (by simp; omega) (hrow.keep (Same.of_grown (World.grownBy_alloc w2 o none) (by simp))) ?_ hgr (by simpa using hat)
    rw [datCells_iff]
    exact ⟨kv, rfl, hd.keep (Same.of_grown (World.grownBy_alloc w2 o none) (by simp))⟩
  refine ⟨⟨?_, hrd.2.1, hrd.2.2⟩, hn, hleft, by simp; omega, ?_, ?_, ?_, ?_, ?_, hgoal⟩
  · exact ((hrd.1.alloc o).grown hgr (ne _ (by omega))).grown hset (by simp; omega)
  · exact ((hR.alloc o).grown hgr (ne _ (by omega))).grown hset (by simp)
  · have := hD4.set 5 (.slice (some ⟨m4, 0, none⟩) (acc.length + 1) cap)
    exact this
  · have := hown.kept hset (.inr (by simp [Value.ownBlock]; omega))
    simpa using this
  · exact hrow4.keep (Same.of_grown hset (fun b hb => by simp at hb; subst hb; exact .inl (by omega)))
  · refine grown_setCell_new ?_ (by simp) _
    refine grown_later (grown_alloc hw o) hgr (.inr fun i hi => by have := (hv i hi).1; omega)

theorem slice_own {w : World} {base : Nat} {e : TypeId} {size : Nat} {v : Value} {n : Nat} {xs : List Value} (h : w.ownsRow base e size v n xs) : ∃ A cap, v = .slice A n cap := by
  rcases h.2 with ⟨rfl, rfl⟩ | ⟨g, cap, cur, rfl, _⟩
  · exact ⟨none, 0, rfl⟩
  · exact ⟨_, _, rfl⟩
theorem ahead_cons {acc : List Datum} {d : Datum} {x : Tx.Res (List Datum × List UInt8 × Nat)} : ahead acc (match x with
    | .error e => .error e
    | .ok (ds, r'', n'') => .ok (d :: ds, r'', n'')) = ahead (acc ++ [d]) x := by
  cases x with
  | error e => rfl
  | ok y => obtain ⟨ds, r, n⟩ := y; simp [ahead]
theorem items_end {S : Nat} {rd : List UInt8 → Nat → Tx.Res (Datum × List UInt8 × Nat)} {q n : Nat} {r : List UInt8} (hq : r.length < q) (h : Tx.skip false r = []) : Tx.items S rd q r n = .error (2, (S : Int)) := by
  obtain ⟨q, rfl⟩ : ∃ q', q = q' + 1 := ⟨q - 1, by omega⟩
  simp [Tx.items, h]
theorem items_close {S : Nat} {rd : List UInt8 → Nat → Tx.Res (Datum × List UInt8 × Nat)} {q n : Nat} {r l : List UInt8} (hq : r.length < q) (h : Tx.skip false r = 41 :: l) : Tx.items S rd q r n = .ok ([], l, n) := by
  obtain ⟨q, rfl⟩ : ∃ q', q = q' + 1 := ⟨q - 1, by omega⟩
  simp [Tx.items, h]
theorem items_more {S : Nat} {rd : List UInt8 → Nat → Tx.Res (Datum × List UInt8 × Nat)} {q n : Nat} {r l : List UInt8} {c : UInt8} (h : Tx.skip false r = c :: l) (hc : ¬ c = 41) : Tx.items S rd (q + 1) r n =
    match rd (c :: l) n with
      | .error e => .error e
      | .ok (d, r', n') => match Tx.items S rd q r' n' with
        | .error e => .error e
        | .ok (ds, r'', n'') => .ok (d :: ds, r'', n'') := by
  simp only [Tx.items, h, hc, if_false]
  cases rd (c :: l) n with
  | error e => rfl
  | ok x => obtain ⟨d, r', n'⟩ := x; rfl

/-- the end of a list -/
theorem list_end {w w1 : World} {g k1 n : Nat} {s : ByteArray} {T : Tx.Res (List Datum × List UInt8 × Nat)} {acc : List Datum} {xs : List Value} {v : Value} {N : Nat} (hg : g < w.heap.size)
    (hb : Blk w1 g #[.string s, .int .i64 k1, .int .i64 n] 52) (hk : k1 < s.size) (hn : n ≤ 2000)
    (h : Blk w1 w.heap.size zero6 42 ∧ Blk w1 (w.heap.size + 1) (list6 v) 42 ∧ w1.ownsRow (w.heap.size + 2) 42 6 v acc.length xs ∧ RowCells w1 (Mine (w.heap.size + 2) v) acc xs ∧ w.grownBy w1 (some g))
    (hgoal : ahead acc (.ok ([], s.data.toList.drop (k1 + 1), n)) = ahead [] T) :
    OutPost w g s (ahead [] T) (.returned (.agg (list6 v))) (set6 ((w1.drewN N).setCell ⟨g, 1, none⟩ (.int .i64 ((k1 : Int) + 1))) w.heap.size (.int .i64 4) (.int .i64 0) (.string ⟨#[]⟩) (.int .i64 0) (.int .i64 0) v) := by
  obtain ⟨hR, hD, hown, hrow, hgr⟩ := h
  rw [← hgoal]
  simp only [ahead, List.append_nil]
  have g1 : w1.grownBy ((w1.drewN N).setCell ⟨g, 1, none⟩ (.int .i64 ((k1 : Int) + 1))) (some g) := grown_setCell (grown_drewN (grown_refl _ _) _) 1 none _
  have g2 := grown_set6 (grown_refl ((w1.drewN N).setCell ⟨g, 1, none⟩ (.int .i64 ((k1 : Int) + 1))) (some w.heap.size)) (.int .i64 4) (.int .i64 0) (.string ⟨#[]⟩) (.int .i64 0) (.int .i64 0) v
  have hv : ∀ b, v.ownBlock = some b → w.heap.size + 2 ≤ b := fun b hb => (hown.lt b hb).1
  have own2 := (hown.kept g1 (by
    rcases hx : v.ownBlock with _ | b
    · exact .inl rfl
    · right; have := hv b hx; simp; omega)).kept g2 (by
    rcases hx : v.ownBlock with _ | b
    · exact .inl rfl
    · right; have := hv b hx; simp; omega)
  have row2 := (hrow.keep (Same.of_grown g1 (fun b hb => by simp at hb; subst hb; exact .inl (by omega)))).keep (Same.of_grown g2 (fun b hb => by simp at hb; subst hb; exact .inl (by omega)))
  refine ⟨_, k1 + 1, rfl, ⟨v, rfl, ?_⟩, ⟨?_, hk, rfl⟩, hn, grown_six (grown_setCell (grown_drewN hgr _) 1 none _) (Nat.le_refl _)⟩
  · exact (Sl.of_own own2 (row2.mono (M' := fun b => b < w.heap.size + 2) (fun b hb => .inl hb)) (fun b hb => by omega)).mono (fun b hb => by omega)
  · have := (hb.drewN N).set 1 (.int .i64 ((k1 : Int) + 1))
    exact this.grown g2 (by simp; omega)

set_option maxRecDepth 100000 in
set_option maxHeartbeats 1600000 in
theorem list_any (f : Nat) (hf : f ≤ 41) (HP : Hid (SaidDatum f)) (s : ByteArray) (g k n : Nat) (r : List UInt8) (w : World) (hs : s.size ≤ 6000) (h : Rd w g s k n r) (hn : n ≤ 2000) (m : Nat) (hm : r.length < m) (hm2 : m ≤ 6001) (deep : Int) (hdeep : deep = 40 - (f : Int)) :
    Calls Tryd.prog 25 #[.pointer (some ⟨g, 0, none⟩), .int .i64 deep] w (OutPost w g s (ahead [] (Tx.items s.size (Tx.datum s.size f) m r n))) := by
  have hms : s.size ≤ maxLen := by unfold maxLen; omega
  obtain ⟨i0, hi0, hz0, hz1, hz2⟩ := info_parts Tryd.info42
  have hg := h.1.lt
  have HR := Lib.hid h
  generalize hT : Tx.items s.size (Tx.datum s.size f) m r n = T
  have HT := Lib.hid hT
  have hd1 : -1 ≤ deep := by omega
  have hd2 : deep ≤ 40 := by omega
  have HD := Lib.hid hdeep
  clear h hT hdeep
  go_enter Tryd.func25, Tryd.ntmps25
  go_wp2_with fail
  go_loopg [43] m (fun q _ wr => ∃ k n r acc xs v, LRel f s g w T q wr k n r acc xs v)
  case atStart =>
    refine ⟨k, n, r, [], [], .slice none 0 0, ?_⟩
    have hb0 : Blk (w.alloc (.cells zero6 42)) w.heap.size zero6 42 := Blk.new _ _ _
    have hb1 := Blk.new (w.alloc (.cells zero6 42)) (list6 (.slice none 0 0)) 42
    simp only [World.size_alloc] at hb1
    exact ⟨⟨(HR.out.1.alloc _).alloc _, HR.out.2.1, HR.out.2.2⟩, hn, hm, by simpa using hm2, hb0.alloc _, hb1, World.ownsRow_nil _ _ _ _, RowCells.nil, grown_alloc (grown_alloc (grown_refl _ _) _) _, by rw [HT.out]⟩
  case round =>
    obtain ⟨k, n, r, acc, xs, v, hrel⟩ := hrel
    obtain ⟨vA, vc, rfl⟩ := slice_own hrel.own
    have HL := Lib.hid hrel
    clear hrel
    go_wp2_with fail
    refine (blank_any s g k n r _ hms HL.out.rd).mono ?_
    rintro e w1 ⟨rfl, hgr1, k1, hRd⟩
    have HO := Lib.hid (HL.out.keeps.over hg hgr1)
    have HR1 := Lib.hid hRd
    have hk1 := hRd.2.1
    have c0 : w1.cell? ⟨g, 0, none⟩ = some (.string s) := hRd.1.cell 0
    have c1 : w1.cell? ⟨g, 1, none⟩ = some (.int .i64 k1) := hRd.1.cell 1
    have f1 := hRd.1.frozen 1
    have HG1 := Lib.hid hgr1
    have hdr := hRd.2.2
    clear hRd hgr1
    by_cases hend : k1 < s.size
    · have e1 : ((k1 : Int) == (s.size : Int)) = false := by rw [beq_eq_false_iff_ne]; omega
      have hend' : (k1 : Int) < (s.size : Int) := by omega
      have hd := drop_at s k1 hend
      rw [hdr] at hd
      cases e41 : ((s[k1].toNat : Int) == 41) with
      | true =>
        have e : s[k1] = 41 := UInt8.toNat_inj.1 (by simp at e41 ⊢; omega)
        have hgoal := HL.out.goal
        have hlen := HL.out.left
        rw [items_close (l := s.data.toList.drop (k1 + 1)) hlen (by rw [hd, e])] at hgoal
        have HGO := Lib.hid hgoal
        obtain ⟨⟨d0, d1, d2, d3, d4, d5⟩, g0, g1, g2, g3, g4, g5⟩ := HO.out.2.1.six
        obtain ⟨⟨r0, r1, r2, r3, r4, r5⟩, h0, h1, h2, h3, h4, h5⟩ := HO.out.1.six
        clear hgoal hlen hdr hd e
        go_wp2_with fail
        go_quiet (fail)
        go_wp2_with fail
        go_quiet (fail)
        go_wp2_with fail
        refine bodyPost_ret (v := .agg (list6 (.slice vA acc.length vc))) (by simp [results, Tryd.results25, go_sem, *]) rfl ?_
        exact list_end hg HR1.out.1 hend HL.out.nodes HO.out HGO.out
      | false => 
        have hne : ¬ s[k1] = 41 := by rw [← UInt8.toNat_inj]; simp at e41 ⊢; omega
        obtain ⟨q, hq⟩ : ∃ q, gk = q + 1 := ⟨gk - 1, by have := HL.out.left; omega⟩
        have hgoal := HL.out.goal
        rw [hq, items_more hd hne, ← hd] at hgoal
        have d5 : w1.cell? ⟨w.heap.size + 1, 5, none⟩ = some (.slice vA acc.length vc) := HO.out.2.1.cell 5
        have g5 : w1.frozen? ⟨w.heap.size + 1, 5, none⟩ = false := HO.out.2.1.frozen 5
        cases hD : Tx.datum s.size f (Tx.skip false r) n with
        | error er =>
          rw [hD] at hgoal
          have HGO := Lib.hid hgoal
          have HDA := Lib.hid hD
          have HQ := Lib.hid hq
          clear hgoal hdr hd hne hD hq
          go_wp2_with fail
          go_quiet (fail)
          go_wp2_with fail
          go_quiet (fail)
          go_wp2_with fail
          refine wp_region_plan (fun w' => w'.cell? ⟨w.heap.size + 1, 5, none⟩ = some (.slice vA acc.length vc)) 7 10 0 (by kernel_rfl) rfl (by repeat (first | with_reducible exact panicFree_body | with_reducible refine PanicFree.inBlock ?_ | with_reducible refine PanicFree.then ?_)) (by exact d5) (fun HQ HS => ?_)
          have hSx : ∀ x : HeldW (fun w' : World => w'.cell? ⟨w.heap.size + 1, 5, none⟩ = some (.slice vA acc.length vc)), x.w.cell? ⟨w.heap.size + 1, 5, none⟩ = some (.slice vA acc.length vc) := fun x => x.h
          (refine till_now 0 rfl (by kernel_rfl) rfl HQ (fun _ => HS) ?_; intro K hK; go_big_quiet_op; go_big_quiet_on)
          (refine till_take 1 [7] rfl (by kernel_rfl) rfl HQ HS ?_; intro K hK; go_big_quiet_op; refine ⟨_, fun _ => rfl, ?_⟩; go_big_quiet_on)
          (refine till_now 2 rfl (by kernel_rfl) rfl HQ (fun _ => HS) ?_; intro K hK; go_big_quiet_op; go_big_quiet_on; refine till_now 3 rfl (by kernel_rfl) rfl HQ (fun _ => HS) ?_; intro K hK; go_big_quiet_op; go_big_quiet_on; refine till_now 4 rfl (by kernel_rfl) rfl HQ (fun _ => HS) ?_; intro K hK; go_big_quiet_op; go_big_quiet_on)
          (refine till_loud 5 (by kernel_rfl) rfl rfl ?_; intro K hK)
          go_wp2_with (go_at_call 17; refine (HP.out s g k1 n (Tx.skip false r) _ hs (by exact HR1.out) HL.out.nodes (deep + 1) (by have := HD.out; omega)).mono ?_; rw [HDA.out]; rintro e w2 ⟨rfl, hgr2⟩)
          rw [← HGO.out]
          exact ⟨rfl, rfl, grown_trans (grown_drewN HO.out.2.2.2.2 _) hgr2⟩
        | ok x =>
          obtain ⟨d, r', n'⟩ := x
          rw [hD] at hgoal
          have HGO := Lib.hid hgoal
          have HDA := Lib.hid hD
          have HGQ := Lib.hid hq
          clear hgoal hdr hd hne hD hq
          go_wp2_with fail
          go_quiet (fail)
          go_wp2_with fail
          go_quiet (fail)
          go_wp2_with fail
          refine wp_region_plan (fun w' => w'.cell? ⟨w.heap.size + 1, 5, none⟩ = some (.slice vA acc.length vc)) 7 10 0 (by kernel_rfl) rfl (by repeat (first | with_reducible exact panicFree_body | with_reducible refine PanicFree.inBlock ?_ | with_reducible refine PanicFree.then ?_)) (by exact d5) (fun HQ HS => ?_)
          have hSx : ∀ x : HeldW (fun w' : World => w'.cell? ⟨w.heap.size + 1, 5, none⟩ = some (.slice vA acc.length vc)), x.w.cell? ⟨w.heap.size + 1, 5, none⟩ = some (.slice vA acc.length vc) := fun x => x.h
          (refine till_now 0 rfl (by kernel_rfl) rfl HQ (fun _ => HS) ?_; intro K hK; go_big_quiet_op; go_big_quiet_on)
          (refine till_take 1 [7] rfl (by kernel_rfl) rfl HQ HS ?_; intro K hK; go_big_quiet_op; refine ⟨_, fun _ => rfl, ?_⟩; go_big_quiet_on)
          (refine till_now 2 rfl (by kernel_rfl) rfl HQ (fun _ => HS) ?_; intro K hK; go_big_quiet_op; go_big_quiet_on; refine till_now 3 rfl (by kernel_rfl) rfl HQ (fun _ => HS) ?_; intro K hK; go_big_quiet_op; go_big_quiet_on; refine till_now 4 rfl (by kernel_rfl) rfl HQ (fun _ => HS) ?_; intro K hK; go_big_quiet_op; go_big_quiet_on)
          (refine till_loud 5 (by kernel_rfl) rfl rfl ?_; intro K hK)
          clear hSx
          go_wp2_with (go_at_call 17; refine (HP.out s g k1 n (Tx.skip false r) _ hs (by exact HR1.out) HL.out.nodes (deep + 1) (by have := HD.out; omega)).mono ?_; rw [HDA.out]; rintro e w2 ⟨x, k2, rfl, hdv, hrd2, hn2, hgr2⟩)
          obtain ⟨kv, rfl, hsl⟩ := hdv
          obtain ⟨kA, kc, rfl⟩ := hsl.form
          have HO2 := Lib.hid (HO.out.over hg (grown_undrew hgr2))
          have HRD2 := Lib.hid hrd2
          have HSL := Lib.hid hsl
          have D5 : w2.cell? ⟨w.heap.size + 1, 5, none⟩ = some (.slice vA acc.length vc) := HO2.out.2.1.cell 5
          clear hsl hrd2 hgr2 HS
          refine ⟨D5, ?_⟩
          (refine till_loud 6 (by kernel_rfl) rfl rfl ?_; intro K hK)
          go_wp2_with fail
          refine ⟨(HO2.out.2.1.alloc _).cell 5, ?_⟩
          (refine till_last 7 (by kernel_rfl) rfl rfl (by kernel_rfl) ?_; intro K hK)
          refine wp_append_lies _ (.tmp 43) (.tmp 48) 22 (by rfl) (w.heap.size + 2) 42 i0 _ 6 72 Tryd.underlying22 hi0 hz0 hz1 hz2 rfl (by omega) (.slice vA acc.length vc) acc.length xs (by rfl) (HO2.out.2.2.1.alloc _)
            ⟨w2.heap.size, 0, none⟩ 1 1 (six d.kind d.num d.name d.stamp d.lib (.slice kA d.kids.length kc)) (by rfl) (by rfl) (World.news_of_block (heap_alloc_new w2 _)) (by simp [six, Value.oneCell']) (by omega) (by have := HL.out.few; unfold maxLen; omega) (by have := HL.out.few; omega) (by have := HO2.out.2.1.lt; simp; omega) (w2.heap.size + 1) (by simp) ?_
          intro m4 cap w4 hown4 hgr4 hat4 hlt4
          refine hK _ _ ?_
          clear hK
          have hlt5 := HO2.out.2.1.lt
          have D5' := (HO2.out.2.1.alloc (.cells #[.int .i64 d.kind, .int .i64 d.num, .string ⟨d.name.toArray⟩, .int .i64 d.stamp, .int .i64 d.lib, .slice kA d.kids.length kc] 42)).grown hgr4 (by
            rcases hv : (Value.slice vA acc.length vc).ownBlock with _ | b
            · simp
            · have := HO2.out.2.2.1.lt b hv; simp; omega)
          have D5w : w4.cell? ⟨w.heap.size + 1, 5, none⟩ = some (.slice vA acc.length vc) := D5'.cell 5
          have F5w := D5'.frozen 5
          have HR4 := Lib.hid (list_round hg HO2.out HRD2.out hn2 ((HSL.out).mono (M' := Mine (w.heap.size + 2) (.slice vA acc.length vc)) (fun b hb => by
            have := HO.out.2.1.lt
            rcases hb with hb | hb
            · show b < w1.heap.size; omega
            · exact (HO.out.2.2.1.lt b hb.symm).2)) (by
              have h1 := Tx.datum_lt _ _ _ _ _ _ HDA.out
              have h2 := Tx.skip_le false r
              have := HL.out.left
              have := HGQ.out
              omega) (by have := HL.out.few; have := HGQ.out; omega) (ahead_cons.symm.trans HGO.out) hown4 hgr4 hat4)
          clear hown4 hgr4 D5'
          (refine till_last 8 (by kernel_rfl) rfl rfl (by kernel_rfl) ?_; intro K hK)
          go_wp2_with fail
          (refine till_last 9 (by kernel_rfl) rfl rfl (by kernel_rfl) ?_; intro K hK)
          go_wp2_with fail
          refine till_done (by kernel_rfl) ?_
          go_wp2_with fail
          go_roundg q
          case measure => have := HGQ.out; omega
          case rel => exact ⟨_, _, _, _, _, _, HR4.out⟩
    · have e1 : ((k1 : Int) == (s.size : Int)) = true := by rw [beq_iff_eq]; omega
      have hgoal := HL.out.goal
      have hlen := HL.out.left
      rw [items_end hlen (by rw [← hdr, List.drop_eq_nil_of_le (by simpa using hend)])] at hgoal
      have hT2 : ahead [] T = .error (2, (k1 : Int)) := by
        rw [← hgoal, show (k1 : Int) = (s.size : Int) by omega]; rfl
      have HT2 := Lib.hid hT2
      clear hgoal hlen hT2 hdr
      go_wp2_with fail
      go_quiet (fail)
      go_wp2_with (go_at_call 24; refine (fail_any _ _ _).mono ?_; rintro e w' ⟨rfl, rfl⟩)
      rw [HT2.out]
      exact ⟨rfl, rfl, grown_drewN HO.out.2.2.2.2 _⟩
end Go.Proofs.YtchjbkokjilobaaDoor
