/- Data that are the same: the plain function, and the walks of the reference's Equal and Same. -/
import Derived.Test.YtchjbkokjilobaaDoorTextX
import Derived.Test.YtchjbkokjilobaaDoorPlan
import Derived.BigQuiet
import Derived.Deep.QuietTactic
namespace Go.Proofs.YtchjbkokjilobaaDoor
open Go.RowKit
set_option linter.unusedVariables false

namespace Tx
mutual
def same : Datum → Datum → Bool
  | .mk k n s st lb ks, .mk k' n' s' st' lb' ks' => if k ≠ k' then false else if k = 1 ∨ k = 2 then decide (n = n') else if k = 3 then decide (s = s' ∧ st = st' ∧ lb = lb') else if k = 4 then sames ks ks' else true
def sames : List Datum → List Datum → Bool
  | [], [] => true
  | d :: ds, e :: es => same d e && sames ds es
  | [], _ :: _ => false
  | _ :: _, [] => false
end
mutual
def high : Datum → Nat
  | .mk _ _ _ _ _ ks => highs ks + 1
def highs : List Datum → Nat
  | [] => 0
  | d :: ds => max (high d) (highs ds)
end
theorem high_kids (d : Datum) : highs d.kids + 1 = high d := by cases d; unfold high; rfl
theorem high_get : ∀ {ds : List Datum} {i : Nat} {d : Datum}, ds[i]? = some d → high d ≤ highs ds
  | [], i, d, h => by simp at h
  | e :: ds, 0, d, h => by simp at h; subst h; unfold highs; omega
  | e :: ds, i + 1, d, h => by
    have := high_get (ds := ds) (i := i) (d := d) (by simpa using h)
    unfold highs; omega
theorem same_eq (d e : Datum) : same d e = if d.kind ≠ e.kind then false else if d.kind = 1 ∨ d.kind = 2 then decide (d.num = e.num) else if d.kind = 3 then decide (d.name = e.name ∧ d.stamp = e.stamp ∧ d.lib = e.lib) else if d.kind = 4 then sames d.kids e.kids else true := by
  cases d; cases e; unfold same; rfl
theorem sames_len : ∀ (ds es : List Datum), ds.length ≠ es.length → sames ds es = false
  | [], [], h => absurd rfl h
  | d :: ds, e :: es, h => by
    unfold sames
    rw [sames_len ds es (by simpa using h)]
    simp
  | [], _ :: _, _ => by unfold sames; rfl
  | _ :: _, [], _ => by unfold sames; rfl
end Tx

def SaidEqual (h : Nat) : Prop := ∀ (d e : Datum) (x y : Value) (w : World), Tx.high d ≤ h → Tx.SmallD 140737488351232 d → Tx.SmallD 140737488351232 e → Dv w (fun _ => False) x d → Dv w (fun _ => False) y e →
  Calls Tryd.prog 18 #[x, y] w fun en w' => en = .returned (.bool (Tx.same d e)) ∧ w.grownBy w' none
def SaidSame (h : Nat) : Prop := ∀ (ds es : List Datum) (u v : Value) (w : World), Tx.highs ds ≤ h → Tx.SmallL 140737488351232 ds → Tx.SmallL 140737488351232 es → ds.length ≤ 140737488351232 → es.length ≤ 140737488351232 → Sl w (fun _ => False) u ds → Sl w (fun _ => False) v es →
  Calls Tryd.prog 9 #[u, v] w fun en w' => en = .returned (.bool (Tx.sames ds es)) ∧ w.grownBy w' none

theorem Sl.grown {w w' : World} {v : Value} {ds : List Datum} (h : Sl w (fun _ => False) v ds) (hg : w.grownBy w' none) : Sl w' (fun _ => False) v ds := h.keep (Same.of_grown hg (by simp))
theorem name_eq (s t : List UInt8) : ((⟨s.toArray⟩ : ByteArray) = ⟨t.toArray⟩) ↔ s = t := by
  constructor
  · intro h; injection h with h; injection h
  · intro h; rw [h]

set_option maxRecDepth 100000 in
set_option maxHeartbeats 1600000 in
theorem said_equal (h : Nat) (HP : Hid (SaidSame h)) : SaidEqual (h + 1) := by
  intro d e x y w hh hd he hx hy
  obtain ⟨xv, rfl, hxs⟩ := hx
  obtain ⟨yv, rfl, hys⟩ := hy
  obtain ⟨xA, xc, rfl⟩ := hxs.form
  obtain ⟨yA, yc, rfl⟩ := hys.form
  have hhk := Tx.high_kids d
  have HX := Lib.hid hxs
  have HY := Lib.hid hys
  have HD := Lib.hid hd
  have HE := Lib.hid he
  have hdl := hd.len
  have hel := he.len
  clear hxs hys hd he
  have hS := Tx.same_eq d e
  generalize Tx.same d e = R at *
  cases k0 : (d.kind != e.kind) with
  | true =>
    obtain rfl : R = false := by rw [hS]; exact if_pos (by simpa using k0)
    clear hS
    go_enter Tryd.func18, Tryd.ntmps18
    go_wp2_with fail
    all_goals go_ret
    exact ⟨rfl, grown_alloc (grown_alloc (grown_refl _ _) _) _⟩
  | false =>
    rw [if_neg (by simpa using k0)] at hS
    cases k1 : (d.kind == 1) with
    | true =>
      rw [if_pos (.inl (by simpa using k1))] at hS
      have HS := Lib.hid hS
      clear hS
      go_enter Tryd.func18, Tryd.ntmps18
      go_wp2_with (fail)
      all_goals go_ret
      exact ⟨ret_bool (by rw [HS.out]; rw [Bool.eq_iff_iff]; simp), grown_alloc (grown_alloc (grown_refl _ _) _) _⟩
    | false =>
      cases k2 : (d.kind == 2) with
      | true =>
        rw [if_pos (.inr (by simpa using k2))] at hS
        have HS := Lib.hid hS
        clear hS
        go_enter Tryd.func18, Tryd.ntmps18
        go_wp2_with (fail)
        all_goals go_ret
        exact ⟨ret_bool (by rw [HS.out]; rw [Bool.eq_iff_iff]; simp), grown_alloc (grown_alloc (grown_refl _ _) _) _⟩
      | false =>
        rw [if_neg (by simp at k1 k2; simp [k1, k2])] at hS
        cases k3 : (d.kind == 3) with
        | true =>
          rw [if_pos (by simpa using k3)] at hS
          cases s1 : (d.name == e.name) with
          | false =>
            have n1 : ¬ d.name = e.name := by simpa using s1
            obtain rfl : R = false := by rw [hS]; simp [n1]
            clear hS n1
            go_enter Tryd.func18, Tryd.ntmps18
            go_wp2_with (fail)
            all_goals go_ret
            exact ⟨rfl, grown_alloc (grown_alloc (grown_refl _ _) _) _⟩
          | true =>
            have n1 : d.name = e.name := by simpa using s1
            cases s2 : (d.stamp == e.stamp) with
            | false =>
              obtain rfl : R = false := by rw [hS]; simp at s2; simp [s2]
              clear hS n1
              go_enter Tryd.func18, Tryd.ntmps18
              go_wp2_with (fail)
              all_goals go_ret
              exact ⟨rfl, grown_alloc (grown_alloc (grown_refl _ _) _) _⟩
            | true =>
              have hR : R = (d.lib == e.lib) := by rw [hS, Bool.eq_iff_iff]; simp at s2; simp [n1, s2]
              have HR := Lib.hid hR
              clear hS n1 hR
              go_enter Tryd.func18, Tryd.ntmps18
              go_wp2_with (fail)
              all_goals go_ret
              exact ⟨ret_bool HR.out.symm, grown_alloc (grown_alloc (grown_refl _ _) _) _⟩
        | false =>
          rw [if_neg (by simpa using k3)] at hS
          cases k4 : (d.kind == 4) with
          | true =>
            rw [if_pos (by simpa using k4)] at hS
            have HS := Lib.hid hS
            clear hS
            go_enter Tryd.func18, Tryd.ntmps18
            go_wp2_with (go_at_call 9; refine (HP.out d.kids e.kids _ _ _ (by omega) HD.out.kids HE.out.kids hdl hel (HX.out.grown (grown_alloc (grown_alloc (grown_refl _ _) _) _)) (HY.out.grown (grown_alloc (grown_alloc (grown_refl _ _) _) _))).mono ?_; rw [← HS.out]; rintro en w2 ⟨rfl, hgr2⟩; have HG := Lib.hid hgr2; clear hgr2)
            all_goals go_ret
            exact ⟨rfl, grown_trans (grown_alloc (grown_alloc (grown_refl _ _) _) _) HG.out⟩
          | false =>
            rw [if_neg (by simpa using k4)] at hS
            subst hS
            go_enter Tryd.func18, Tryd.ntmps18
            go_wp2_with (fail)
            all_goals go_ret
            exact ⟨rfl, grown_alloc (grown_alloc (grown_refl _ _) _) _⟩

def SameRel (w : World) (ds es : List Datum) (R : Bool) (q : Nat) (p : Value) (wr : World) : Prop :=
  ∃ i : Nat, q = ds.length - i ∧ p = .int .i64 i ∧ i ≤ ds.length ∧ Tx.sames (ds.drop i) (es.drop i) = R ∧ w.grownBy wr none
/-- the two elements that are compared lie there -/
def Two (b off b' off' : Nat) (d e : Datum) (u v : Value) (w : World) : Prop := At6 w b off d u ∧ At6 w b' off' e v

set_option maxRecDepth 100000 in
set_option maxHeartbeats 1600000 in
theorem said_same (h : Nat) (HP : Hid (SaidEqual h)) : SaidSame h := by
  intro ds es u v w hh hd he hdl hel hu hv
  obtain ⟨uA, uc, rfl⟩ := hu.form
  obtain ⟨vA, vc, rfl⟩ := hv.form
  have HU := Lib.hid hu
  have HV := Lib.hid hv
  have HD := Lib.hid hd
  have HE := Lib.hid he
  clear hu hv hd he
  cases k0 : ((ds.length : Int) != (es.length : Int)) with
  | true =>
    have hR : Tx.sames ds es = false := Tx.sames_len ds es (by simp at k0; omega)
    generalize Tx.sames ds es = R at *
    subst hR
    go_enter Tryd.func9, Tryd.ntmps9
    go_wp2_with fail
    all_goals go_ret
    exact ⟨rfl, grown_refl _ _⟩
  | false =>
    have hlen : ds.length = es.length := by simp at k0; omega
    generalize hR : Tx.sames ds es = R at *
    have HR := Lib.hid hR
    have HL := Lib.hid hlen
    have hl2 : ds.length ≤ maxLen := by unfold maxLen; omega
    clear hR hlen
    go_enter Tryd.func9, Tryd.ntmps9
    go_wp2_with fail
    go_loopg [13] ds.length (fun q p wr => SameRel w ds es R q p wr)
    case atStart => exact ⟨0, by simp, rfl, by omega, by simpa using HR.out, grown_refl _ _⟩
    case round =>
      obtain ⟨i, rfl, rfl, hi, hT, hgr⟩ := hrel
      have HT := Lib.hid hT
      have HG := Lib.hid hgr
      clear hT hgr HR
      by_cases hlt : i < ds.length
      · have hlt' : (i : Int) < (ds.length : Int) := by omega
        have hlt2 : (i : Int) < (es.length : Int) := by have := HL.out; omega
        obtain ⟨ub, uo, uc2, hue, _, hub, hua⟩ := At6.of (HU.out.grown HG.out) (by intro e; rw [e] at hlt; simp at hlt)
        obtain ⟨vb, vo, vc2, hve, _, hvb, hva⟩ := At6.of (HV.out.grown HG.out) (by intro e; rw [e] at hlt2; simp at hlt2; omega)
        injection hue with hue1 _ hue2
        injection hve with hve1 _ hve2
        subst hue1 hue2 hve1 hve2
        have hil : i < es.length := by omega
        obtain ⟨xv, hxa, hxs⟩ := hua i ds[i] (by simp [hlt])
        obtain ⟨yv, hya, hys⟩ := hva i es[i] (by simp [hil])
        have hstep := HT.out
        rw [List.drop_eq_getElem_cons hlt, List.drop_eq_getElem_cons hil, Tx.sames] at hstep
        have HX := Lib.hid hxs
        have HY := Lib.hid hys
        have HDX := Lib.hid (HD.out.get (i := i) (d := ds[i]) (by simp [hlt]))
        have HEX := Lib.hid (HE.out.get (i := i) (d := es[i]) (by simp [hil]))
        have hhx := Tx.high_get (ds := ds) (i := i) (d := ds[i]) (by simp [hlt])
        have HHX := Lib.hid (Nat.le_trans hhx hh)
        generalize ds[i] = x at *
        generalize es[i] = y at *
        obtain ⟨xA, xc, rfl⟩ := hxs.form
        obtain ⟨yA, yc, rfl⟩ := hys.form
        have hTwo : Two ub (uo + i * 6) vb (vo + i * 6) x y _ _ wr := ⟨hxa, hya⟩
        clear hua hva hxs hys hxa hya hhx
        cases hsd : Tx.same x y with
        | true =>
          rw [hsd, Bool.true_and] at hstep
          have HST := Lib.hid hstep
          have HSD := Lib.hid hsd
          clear hstep hsd
          go_wp2_with fail
          refine wp_region_plan (Two ub (uo + i * 6) vb (vo + i * 6) x y (.slice xA x.kids.length xc) (.slice yA y.kids.length yc)) 8 10 0 (by kernel_rfl) rfl (by repeat (first | with_reducible exact panicFree_body | with_reducible refine PanicFree.inBlock ?_ | with_reducible refine PanicFree.then ?_)) (by exact hTwo) (fun HQ HS => ?_)
          have x0 : ∀ X : HeldW (Two ub (uo + i * 6) vb (vo + i * 6) x y (.slice xA x.kids.length xc) (.slice yA y.kids.length yc)), X.w.cell? ⟨ub, uo + i * 6, none⟩ = some (.int .i64 x.kind) := fun X => X.h.1.1
          have x1 : ∀ X : HeldW (Two ub (uo + i * 6) vb (vo + i * 6) x y (.slice xA x.kids.length xc) (.slice yA y.kids.length yc)), X.w.cell? ⟨ub, uo + i * 6 + 1, none⟩ = some (.int .i64 x.num) := fun X => X.h.1.2.1
          have x2 : ∀ X : HeldW (Two ub (uo + i * 6) vb (vo + i * 6) x y (.slice xA x.kids.length xc) (.slice yA y.kids.length yc)), X.w.cell? ⟨ub, uo + i * 6 + 2, none⟩ = some (.string ⟨x.name.toArray⟩) := fun X => X.h.1.2.2.1
          have x3 : ∀ X : HeldW (Two ub (uo + i * 6) vb (vo + i * 6) x y (.slice xA x.kids.length xc) (.slice yA y.kids.length yc)), X.w.cell? ⟨ub, uo + i * 6 + 3, none⟩ = some (.int .i64 x.stamp) := fun X => X.h.1.2.2.2.1
          have x4 : ∀ X : HeldW (Two ub (uo + i * 6) vb (vo + i * 6) x y (.slice xA x.kids.length xc) (.slice yA y.kids.length yc)), X.w.cell? ⟨ub, uo + i * 6 + 4, none⟩ = some (.int .i64 x.lib) := fun X => X.h.1.2.2.2.2.1
          have x5 : ∀ X : HeldW (Two ub (uo + i * 6) vb (vo + i * 6) x y (.slice xA x.kids.length xc) (.slice yA y.kids.length yc)), X.w.cell? ⟨ub, uo + i * 6 + 5, none⟩ = some (.slice xA x.kids.length xc) := fun X => X.h.1.2.2.2.2.2
          have y0 : ∀ X : HeldW (Two ub (uo + i * 6) vb (vo + i * 6) x y (.slice xA x.kids.length xc) (.slice yA y.kids.length yc)), X.w.cell? ⟨vb, vo + i * 6, none⟩ = some (.int .i64 y.kind) := fun X => X.h.2.1
          have y1 : ∀ X : HeldW (Two ub (uo + i * 6) vb (vo + i * 6) x y (.slice xA x.kids.length xc) (.slice yA y.kids.length yc)), X.w.cell? ⟨vb, vo + i * 6 + 1, none⟩ = some (.int .i64 y.num) := fun X => X.h.2.2.1
          have y2 : ∀ X : HeldW (Two ub (uo + i * 6) vb (vo + i * 6) x y (.slice xA x.kids.length xc) (.slice yA y.kids.length yc)), X.w.cell? ⟨vb, vo + i * 6 + 2, none⟩ = some (.string ⟨y.name.toArray⟩) := fun X => X.h.2.2.2.1
          have y3 : ∀ X : HeldW (Two ub (uo + i * 6) vb (vo + i * 6) x y (.slice xA x.kids.length xc) (.slice yA y.kids.length yc)), X.w.cell? ⟨vb, vo + i * 6 + 3, none⟩ = some (.int .i64 y.stamp) := fun X => X.h.2.2.2.2.1
          have y4 : ∀ X : HeldW (Two ub (uo + i * 6) vb (vo + i * 6) x y (.slice xA x.kids.length xc) (.slice yA y.kids.length yc)), X.w.cell? ⟨vb, vo + i * 6 + 4, none⟩ = some (.int .i64 y.lib) := fun X => X.h.2.2.2.2.2.1
          have y5 : ∀ X : HeldW (Two ub (uo + i * 6) vb (vo + i * 6) x y (.slice xA x.kids.length xc) (.slice yA y.kids.length yc)), X.w.cell? ⟨vb, vo + i * 6 + 5, none⟩ = some (.slice yA y.kids.length yc) := fun X => X.h.2.2.2.2.2.2
          (refine till_now 0 rfl (by kernel_rfl) rfl HQ (fun _ => HS) ?_; intro K hK; go_big_quiet_op; go_big_quiet_on; refine till_now 1 rfl (by kernel_rfl) rfl HQ (fun _ => HS) ?_; intro K hK; go_big_quiet_op; go_big_quiet_on; refine till_now 2 rfl (by kernel_rfl) rfl HQ (fun _ => HS) ?_; intro K hK; go_big_quiet_op; go_big_quiet_on)
          (refine till_take 3 [8] rfl (by kernel_rfl) rfl HQ HS ?_; intro K hK; go_big_quiet_op; refine ⟨_, fun _ => rfl, ?_⟩; go_big_quiet_on)
          (refine till_now 4 rfl (by kernel_rfl) rfl HQ (fun _ => HS) ?_; intro K hK; go_big_quiet_op; go_big_quiet_on; refine till_now 5 rfl (by kernel_rfl) rfl HQ (fun _ => HS) ?_; intro K hK; go_big_quiet_op; go_big_quiet_on; refine till_now 6 rfl (by kernel_rfl) rfl HQ (fun _ => HS) ?_; intro K hK; go_big_quiet_op; go_big_quiet_on)
          (refine till_take 7 [8] rfl (by kernel_rfl) rfl HQ HS ?_; intro K hK; go_big_quiet_op; refine ⟨_, fun _ => rfl, ?_⟩; go_big_quiet_on)
          (refine till_last 8 (by kernel_rfl) rfl rfl (by kernel_rfl) ?_; intro K hK)
          go_wp2_with (go_at_call 18; refine (HP.out x y _ _ _ HHX.out HDX.out HEX.out ⟨_, rfl, (by exact HX.out.grown ⟨rfl, rfl, rfl, Nat.le_refl _, fun _ _ _ => rfl⟩)⟩ ⟨_, rfl, (by exact HY.out.grown ⟨rfl, rfl, rfl, Nat.le_refl _, fun _ _ _ => rfl⟩)⟩).mono ?_; rw [HSD.out]; rintro en w2 ⟨rfl, hgr2⟩; have HG2 := Lib.hid hgr2; clear hgr2)
          (refine till_last 9 (by kernel_rfl) rfl rfl (by kernel_rfl) ?_; intro K hK)
          go_wp2_with fail
          refine till_done (by kernel_rfl) ?_
          go_wp2_with fail
          go_roundg (ds.length - (i + 1))
          case measure => omega
          case rel => exact ⟨i + 1, rfl, rfl, by omega, HST.out, grown_trans HG.out (grown_undrew HG2.out)⟩
        | false =>
          rw [hsd, Bool.false_and] at hstep
          subst hstep
          have HSD := Lib.hid hsd
          clear hsd
          go_wp2_with fail
          refine wp_region_plan (Two ub (uo + i * 6) vb (vo + i * 6) x y (.slice xA x.kids.length xc) (.slice yA y.kids.length yc)) 8 10 0 (by kernel_rfl) rfl (by repeat (first | with_reducible exact panicFree_body | with_reducible refine PanicFree.inBlock ?_ | with_reducible refine PanicFree.then ?_)) (by exact hTwo) (fun HQ HS => ?_)
          have x0 : ∀ X : HeldW (Two ub (uo + i * 6) vb (vo + i * 6) x y (.slice xA x.kids.length xc) (.slice yA y.kids.length yc)), X.w.cell? ⟨ub, uo + i * 6, none⟩ = some (.int .i64 x.kind) := fun X => X.h.1.1
          have x1 : ∀ X : HeldW (Two ub (uo + i * 6) vb (vo + i * 6) x y (.slice xA x.kids.length xc) (.slice yA y.kids.length yc)), X.w.cell? ⟨ub, uo + i * 6 + 1, none⟩ = some (.int .i64 x.num) := fun X => X.h.1.2.1
          have x2 : ∀ X : HeldW (Two ub (uo + i * 6) vb (vo + i * 6) x y (.slice xA x.kids.length xc) (.slice yA y.kids.length yc)), X.w.cell? ⟨ub, uo + i * 6 + 2, none⟩ = some (.string ⟨x.name.toArray⟩) := fun X => X.h.1.2.2.1
          have x3 : ∀ X : HeldW (Two ub (uo + i * 6) vb (vo + i * 6) x y (.slice xA x.kids.length xc) (.slice yA y.kids.length yc)), X.w.cell? ⟨ub, uo + i * 6 + 3, none⟩ = some (.int .i64 x.stamp) := fun X => X.h.1.2.2.2.1
          have x4 : ∀ X : HeldW (Two ub (uo + i * 6) vb (vo + i * 6) x y (.slice xA x.kids.length xc) (.slice yA y.kids.length yc)), X.w.cell? ⟨ub, uo + i * 6 + 4, none⟩ = some (.int .i64 x.lib) := fun X => X.h.1.2.2.2.2.1
          have x5 : ∀ X : HeldW (Two ub (uo + i * 6) vb (vo + i * 6) x y (.slice xA x.kids.length xc) (.slice yA y.kids.length yc)), X.w.cell? ⟨ub, uo + i * 6 + 5, none⟩ = some (.slice xA x.kids.length xc) := fun X => X.h.1.2.2.2.2.2
          have y0 : ∀ X : HeldW (Two ub (uo + i * 6) vb (vo + i * 6) x y (.slice xA x.kids.length xc) (.slice yA y.kids.length yc)), X.w.cell? ⟨vb, vo + i * 6, none⟩ = some (.int .i64 y.kind) := fun X => X.h.2.1
          have y1 : ∀ X : HeldW (Two ub (uo + i * 6) vb (vo + i * 6) x y (.slice xA x.kids.length xc) (.slice yA y.kids.length yc)), X.w.cell? ⟨vb, vo + i * 6 + 1, none⟩ = some (.int .i64 y.num) := fun X => X.h.2.2.1
          have y2 : ∀ X : HeldW (Two ub (uo + i * 6) vb (vo + i * 6) x y (.slice xA x.kids.length xc) (.slice yA y.kids.length yc)), X.w.cell? ⟨vb, vo + i * 6 + 2, none⟩ = some (.string ⟨y.name.toArray⟩) := fun X => X.h.2.2.2.1
          have y3 : ∀ X : HeldW (Two ub (uo + i * 6) vb (vo + i * 6) x y (.slice xA x.kids.length xc) (.slice yA y.kids.length yc)), X.w.cell? ⟨vb, vo + i * 6 + 3, none⟩ = some (.int .i64 y.stamp) := fun X => X.h.2.2.2.2.1
          have y4 : ∀ X : HeldW (Two ub (uo + i * 6) vb (vo + i * 6) x y (.slice xA x.kids.length xc) (.slice yA y.kids.length yc)), X.w.cell? ⟨vb, vo + i * 6 + 4, none⟩ = some (.int .i64 y.lib) := fun X => X.h.2.2.2.2.2.1
          have y5 : ∀ X : HeldW (Two ub (uo + i * 6) vb (vo + i * 6) x y (.slice xA x.kids.length xc) (.slice yA y.kids.length yc)), X.w.cell? ⟨vb, vo + i * 6 + 5, none⟩ = some (.slice yA y.kids.length yc) := fun X => X.h.2.2.2.2.2.2
          (refine till_now 0 rfl (by kernel_rfl) rfl HQ (fun _ => HS) ?_; intro K hK; go_big_quiet_op; go_big_quiet_on; refine till_now 1 rfl (by kernel_rfl) rfl HQ (fun _ => HS) ?_; intro K hK; go_big_quiet_op; go_big_quiet_on; refine till_now 2 rfl (by kernel_rfl) rfl HQ (fun _ => HS) ?_; intro K hK; go_big_quiet_op; go_big_quiet_on)
          (refine till_take 3 [8] rfl (by kernel_rfl) rfl HQ HS ?_; intro K hK; go_big_quiet_op; refine ⟨_, fun _ => rfl, ?_⟩; go_big_quiet_on)
          (refine till_now 4 rfl (by kernel_rfl) rfl HQ (fun _ => HS) ?_; intro K hK; go_big_quiet_op; go_big_quiet_on; refine till_now 5 rfl (by kernel_rfl) rfl HQ (fun _ => HS) ?_; intro K hK; go_big_quiet_op; go_big_quiet_on; refine till_now 6 rfl (by kernel_rfl) rfl HQ (fun _ => HS) ?_; intro K hK; go_big_quiet_op; go_big_quiet_on)
          (refine till_take 7 [8] rfl (by kernel_rfl) rfl HQ HS ?_; intro K hK; go_big_quiet_op; refine ⟨_, fun _ => rfl, ?_⟩; go_big_quiet_on)
          (refine till_last 8 (by kernel_rfl) rfl rfl (by kernel_rfl) ?_; intro K hK)
          go_wp2_with (go_at_call 18; refine (HP.out x y _ _ _ HHX.out HDX.out HEX.out ⟨_, rfl, (by exact HX.out.grown ⟨rfl, rfl, rfl, Nat.le_refl _, fun _ _ _ => rfl⟩)⟩ ⟨_, rfl, (by exact HY.out.grown ⟨rfl, rfl, rfl, Nat.le_refl _, fun _ _ _ => rfl⟩)⟩).mono ?_; rw [HSD.out]; rintro en w2 ⟨rfl, hgr2⟩; have HG2 := Lib.hid hgr2; clear hgr2)
          (refine till_last 9 (by kernel_rfl) rfl rfl (by kernel_rfl) ?_; intro K hK)
          go_wp2_with fail
          refine till_done (by kernel_rfl) ?_
          go_wp2_with fail
          all_goals go_ret
          exact ⟨rfl, grown_trans HG.out (grown_undrew HG2.out)⟩
      · have hlt' : ¬ (i : Int) < (ds.length : Int) := by omega
        have hT0 := HT.out
        rw [List.drop_eq_nil_of_le (by omega), List.drop_eq_nil_of_le (by have := HL.out; omega), Tx.sames] at hT0
        subst hT0
        go_wp2_with fail
        all_goals go_ret
        exact ⟨rfl, HG.out⟩

theorem said_sames : ∀ h, SaidSame h
  | 0 => said_same 0 (Lib.hid (fun d e x y w hh => by have := Tx.high_kids d; omega))
  | h + 1 => said_same (h + 1) (Lib.hid (said_equal h (Lib.hid (said_sames h))))
theorem Same_any (ds es : List Datum) (u v : Value) (w : World) (hd : Tx.SmallL 140737488351232 ds) (he : Tx.SmallL 140737488351232 es) (hdl : ds.length ≤ 140737488351232) (hel : es.length ≤ 140737488351232) (hu : Sl w (fun _ => False) u ds) (hv : Sl w (fun _ => False) v es) :
    Calls Tryd.prog 9 #[u, v] w fun en w' => en = .returned (.bool (Tx.sames ds es)) ∧ w.grownBy w' none :=
  said_sames (Tx.highs ds) ds es u v w (Nat.le_refl _) hd he hdl hel hu hv
end Go.Proofs.YtchjbkokjilobaaDoor
