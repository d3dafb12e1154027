/- Regions that draw their order, by a plan: what only reads is taken first (it reads the same till its readers have come: S holds till operation d is done), the rest comes up in one order. Of no program. -/
import Derived.Test.YtchjbkokjilobaaDoorMem
import Derived.OrdersHeld
import Derived.BigQuiet
import Derived.Deep.Quiet
import Derived.Defers
namespace Go.Proofs.YtchjbkokjilobaaDoor
open Go Go.RowKit

section
variable {P : Program} {ops : Array Oper} {Q : Exit → Act → World → Prop} {S : World → Prop} {d : Nat}

/-- A world that meets S. (A structure, so that simp lets it stand.) -/
structure HeldW (S : World → Prop) where
  w : World
  h : S w
/-- the class of worlds that meet S -/
def InS (S : World → Prop) (w : World) : Prop := ∃ x : HeldW S, w = x.w
theorem inS {w : World} (h : S w) : InS S w := ⟨⟨w, h⟩, rfl⟩

/-- Whatever order is picked from here on; S holds behind every operation till d is done. -/
def wpTill (P : Program) (ops : Array Oper) (Q : Exit → Act → World → Prop) (S : World → Prop) (d : Nat) : Nat → Array Bool → Act → World → Prop
  | 0, listed, a, w => Region.ready .any ops listed = [] ∧ Q .normal a w
  | fuel + 1, listed, a, w =>
    (Region.ready .any ops listed = [] → Q .normal a w) ∧
    ∀ i ∈ Region.ready .any ops listed, wpOp P ops Q i (fun a' w' => ((listed.setIfInBounds i true).getD d true = false → S w') ∧ wpTill P ops Q S d fuel (listed.setIfInBounds i true) a' w') a w

theorem wpAny_of_till : ∀ (fuel : Nat) (listed : Array Bool) (a : Act) (w : World), wpTill P ops Q S d fuel listed a w → wpAny P .any ops Q fuel listed a w
  | 0, _, _, _, h => h
  | fuel + 1, _, _, _, h => ⟨h.1, fun i hi => wpOp_mono (fun a' w' h' => wpAny_of_till fuel _ a' w' h'.2) (h.2 i hi)⟩

/-- THE BEGINNING. -/
theorem wp_region_till {id : Nat} {l : List Oper} {a : Act} {w : World} (S : World → Prop) (d : Nat) (hm : P.follows .mixedOrders = true)
    (h : wpTill P l.toArray Q S d l.length (Array.replicate l.length false) a w.drew) : (Code.region id l.toArray true).wp P Q a w :=
  wp_region_any hm (wpAny_of_till _ _ _ _ (by simpa using h))

/-- the operations Bl all wait for i, one way or other, and none is done -/
def blocked (ops : Array Oper) (Bl : List Nat) (i : Nat) (listed : Array Bool) : Bool :=
  !listed.getD i true && Bl.all fun b => !listed.getD b true && match ops[b]? with
    | some o => o.after.any fun e => Region.binds .any e && (e.on == i || Bl.contains e.on)
    | none => false
theorem getD_of {listed : Array Bool} {i : Nat} (h : listed.getD i true = false) : listed.getD i false = false := by
  rcases Nat.lt_or_ge i listed.size with h' | h'
  · simp [h'] at h ⊢; exact h
  · simp [Array.getElem?_eq_none h'] at h
theorem blocked_ready {Bl : List Nat} {i : Nat} {listed : Array Bool} (h : blocked ops Bl i listed = true) {j : Nat} (hj : j ∈ Region.ready .any ops listed) : j ∉ Bl := by
  intro hb
  unfold blocked at h
  simp only [Bool.and_eq_true, Bool.not_eq_true', List.all_eq_true] at h
  obtain ⟨hi, hall⟩ := h
  obtain ⟨_, o, ho, hdone⟩ := mem_ready.1 hj
  have h1 := (hall j hb).2
  rw [ho] at h1
  obtain ⟨e, he, hbe⟩ := Array.any_eq_true'.1 h1
  simp only [Bool.and_eq_true, Bool.or_eq_true, beq_iff_eq] at hbe
  have hd := hdone e he hbe.1
  rcases hbe.2 with hx | hx
  · rw [hx, getD_of hi] at hd; cases hd
  · have := (hall e.on (by simpa using hx)).1
    rw [getD_of this] at hd; cases hd
theorem blocked_set {Bl : List Nat} {i j : Nat} {listed : Array Bool} (h : blocked ops Bl i listed = true) (hj : j ∉ Bl) (hi : j ≠ i) : blocked ops Bl i (listed.setIfInBounds j true) = true := by
  unfold blocked at *
  simp only [Bool.and_eq_true, Bool.not_eq_true', List.all_eq_true] at *
  refine ⟨by rw [getD_set_ne true hi]; exact h.1, fun b hb => ⟨?_, (h.2 b hb).2⟩⟩
  rw [getD_set_ne true (fun e => hj (by rw [e]; exact hb))]
  exact (h.2 b hb).1

/-- **An operation that may come up now may be taken first**, if it yields its value in every world that meets S, and d waits for it. -/
theorem till_first {i : Nat} {oi : Oper} {v : Value} {Bl : List Nat} (hi : ops[i]? = some oi) (hsel : ∀ (j : Nat) (o : Oper) cs b, ops[j]? = some o → o.op ≠ .select cs b)
    (hQ : ∀ c a w, Q (.panic c) (a.put oi.dst v) w → Q (.panic c) a w) (hd : d ∈ Bl) :
    ∀ (fuel : Nat) (listed : Array Bool) (a : Act) (w : World),
      (∀ j oj, ops[j]? = some oj → j ≠ i → listed.getD j true = false → (∀ e ∈ oj.after, Region.binds .any e = true → e.on ≠ i) → oi.apart ops oj = true) →
      blocked ops Bl i listed = true → i ∈ Region.ready .any ops listed → YieldsIf P ops S oi v a → S w →
      wpTill P ops Q S d fuel (listed.setIfInBounds i true) (a.put oi.dst v) w → wpTill P ops Q S d (fuel + 1) listed a w := by
  intro fuel
  induction fuel with
  | zero =>
    intro listed a w _ _ hr hy hS H
    refine ⟨fun h => (by rw [h] at hr; cases hr), fun j hj => ?_⟩
    by_cases hji : j = i
    · subst hji; exact hy.wpOp hi hS ⟨fun _ => hS, H⟩
    · have := ready_mono hj hji
      rw [H.1] at this
      cases this
  | succ fuel ih =>
    intro listed a w hfree hbl hr hy hS H
    refine ⟨fun h => (by rw [h] at hr; cases hr), fun j hj => ?_⟩
    by_cases hji : j = i
    · subst hji; exact hy.wpOp hi hS ⟨fun _ => hS, H⟩
    · have h1 := H.2 j (ready_mono hj hji)
      have hjB := blocked_ready hbl hj
      obtain ⟨hjun, oj, hoj, hall⟩ := mem_ready.1 hj
      have hiB := blocked_ready hbl hr
      have hdu : listed.getD d true = false := by
        unfold blocked at hbl
        simp only [Bool.and_eq_true, Bool.not_eq_true', List.all_eq_true] at hbl
        exact (hbl.2 d hd).1
      have hdi : i ≠ d := fun e => hiB (e ▸ hd)
      have hdj : j ≠ d := fun e => hjB (e ▸ hd)
      have hnot : ∀ e ∈ oj.after, Region.binds .any e = true → e.on ≠ i := fun e he hb heq => by
        have h1 := hall e he hb
        have h0 := (mem_ready.1 hr).1
        rw [heq, getD_of h0] at h1
        cases h1
      have h2 := wpOp_putIf hoj (hfree j oj hoj hji hjun hnot) (fun cs b => hsel i oi cs b hi) (fun cs b => hsel j oj cs b hoj) hQ hy h1
      have hfree' : ∀ k ok, ops[k]? = some ok → k ≠ i → (listed.setIfInBounds j true).getD k true = false →
          (∀ e ∈ ok.after, Region.binds .any e = true → e.on ≠ i) → oi.apart ops ok = true := fun k ok hk hki hun hno => by
        refine hfree k ok hk hki ?_ hno
        by_cases hjk : j = k
        · subst hjk; exact hjun
        · rw [getD_set_ne true hjk] at hun; exact hun
      refine wpOp_mono (fun a' w' h3 => ?_) h2
      have hS' : S w' := h3.2.1 (by rw [getD_set_ne true hdj, getD_set_ne true hdi]; exact hdu)
      refine ⟨fun _ => hS', ih (listed.setIfInBounds j true) a' w' hfree' (blocked_set hbl hjB hji) (ready_mono hr (Ne.symm hji)) h3.1 hS' ?_⟩
      rw [Array.setIfInBounds_comm _ _ hji]
      exact h3.2.2

/-- **An operation that yields its value in whatever world** may be taken first at any time; it is not d. -/
theorem till_pure {i : Nat} {oi : Oper} {v : Value} (hi : ops[i]? = some oi) (hsel : ∀ (j : Nat) (o : Oper) cs b, ops[j]? = some o → o.op ≠ .select cs b)
    (hQ : ∀ c a w, Q (.panic c) (a.put oi.dst v) w → Q (.panic c) a w) (hd : i ≠ d) :
    ∀ (fuel : Nat) (listed : Array Bool) (a : Act) (w : World),
      (∀ j oj, ops[j]? = some oj → j ≠ i → listed.getD j true = false → (∀ e ∈ oj.after, Region.binds .any e = true → e.on ≠ i) → oi.apart ops oj = true) →
      i ∈ Region.ready .any ops listed → Yields P ops oi v a → (listed.getD d true = false → S w) →
      wpTill P ops Q S d fuel (listed.setIfInBounds i true) (a.put oi.dst v) w → wpTill P ops Q S d (fuel + 1) listed a w := by
  intro fuel
  induction fuel with
  | zero =>
    intro listed a w _ hr hy hS H
    refine ⟨fun h => (by rw [h] at hr; cases hr), fun j hj => ?_⟩
    by_cases hji : j = i
    · subst hji; exact hy.wpOp hi ⟨fun h => hS (by rw [getD_set_ne true hd] at h; exact h), H⟩
    · have := ready_mono hj hji
      rw [H.1] at this
      cases this
  | succ fuel ih =>
    intro listed a w hfree hr hy hS H
    refine ⟨fun h => (by rw [h] at hr; cases hr), fun j hj => ?_⟩
    by_cases hji : j = i
    · subst hji; exact hy.wpOp hi ⟨fun h => hS (by rw [getD_set_ne true hd] at h; exact h), H⟩
    · have h1 := H.2 j (ready_mono hj hji)
      obtain ⟨hjun, oj, hoj, hall⟩ := mem_ready.1 hj
      have hnot : ∀ e ∈ oj.after, Region.binds .any e = true → e.on ≠ i := fun e he hb heq => by
        have h1 := hall e he hb
        have h0 := (mem_ready.1 hr).1
        rw [heq, getD_of h0] at h1
        cases h1
      have h2 := wpOp_put hoj (hfree j oj hoj hji hjun hnot) (fun cs b => hsel i oi cs b hi) (fun cs b => hsel j oj cs b hoj) hQ hy h1
      have hfree' : ∀ k ok, ops[k]? = some ok → k ≠ i → (listed.setIfInBounds j true).getD k true = false →
          (∀ e ∈ ok.after, Region.binds .any e = true → e.on ≠ i) → oi.apart ops ok = true := fun k ok hk hki hun hno => by
        refine hfree k ok hk hki ?_ hno
        by_cases hjk : j = k
        · subst hjk; exact hjun
        · rw [getD_set_ne true hjk] at hun; exact hun
      refine wpOp_mono (fun a' w' h3 => ?_) h2
      have hS' : (listed.setIfInBounds j true).getD d true = false → S w' := fun h => h3.2.1 (by
        rw [Array.setIfInBounds_comm _ _ (Ne.symm hji), getD_set_ne true hd]; exact h)
      refine ⟨hS', ih (listed.setIfInBounds j true) a' w' hfree' (ready_mono hr (Ne.symm hji)) h3.1 hS' ?_⟩
      rw [Array.setIfInBounds_comm _ _ hji]
      exact h3.2.2

/-! ### The moves -/
/-- operations that hand back a value, or die -/
def valued (o : Oper) : Bool := match o.op with
  | .move _ | .assign _ | .pick .. | .load .. | .nilCheck _ | .binOp .. | .unOp .. | .convert .. | .makeInterface .. | .slice .. | .fieldAddr .. | .field .. | .indexAddr .. | .index .. | .lookup .. | .typeAssert .. | .extract .. | .build .. => true
  | .call { callee := .builtin .len, .. } => true
  | _ => false

def isValue {α : Type} (p : α → Prop) : Result α → Prop
  | .ok x _ => p x
  | .halt .. => True
theorem isValue_v {w : World} (s : Sem Value) : isValue (fun n => ∃ v, n = Next.value v) ((do pure (Next.value (← s)) : Sem Next).run P w) := by
  simp only [Sem.run_bind, Sem.run_pure]
  cases s.run P w with
  | ok v w' => exact ⟨v, rfl⟩
  | halt h w' => trivial
theorem isValue_bind {α : Type} {w : World} {p : Next → Prop} (s : Sem α) (k : α → Sem Next) (h : ∀ x w', isValue p ((k x).run P w')) : isValue p ((s >>= k).run P w) := by
  rw [Sem.run_bind]
  cases s.run P w with
  | ok v w' => exact h v w'
  | halt h w' => trivial
theorem valued_run {o : Oper} (h : valued o = true) (ρ : Operand → Value) (w : World) : isValue (fun n => ∃ v, n = Next.value v) ((execOp ρ o).run P w) := by
  obtain ⟨dst, op, type, pos, after, guard⟩ := o
  cases op <;> simp only [valued, Bool.false_eq_true] at h
  case move x => exact ⟨_, rfl⟩
  case assign x => exact ⟨_, rfl⟩
  case pick c x y => exact isValue_bind _ _ (fun b w' => ⟨_, rfl⟩)
  case nilCheck x =>
    simp only [execOp]
    have hp : ∀ w, isValue (fun n => ∃ v, n = Next.value v) ((runtimePanic .nilDeref : Sem Next).run P w) := fun w => by
      simp only [runtimePanic]
      exact isValue_bind _ _ (fun x w' => trivial)
    split
    · exact hp w
    · exact hp w
    · exact hp w
    · split
      · exact hp w
      · exact isValue_bind _ _ (fun x w' => isValue_bind _ _ (fun y w' => by
          split
          · exact isValue_bind _ _ (fun x w' => ⟨_, rfl⟩)
          · exact ⟨_, rfl⟩))
      · exact ⟨_, rfl⟩
    · exact ⟨_, rfl⟩
  case call c =>
    obtain ⟨callee, args, argTypes⟩ := c
    cases callee with
    | value f => simp at h
    | invoke r m => simp at h
    | builtin b =>
      cases b <;> simp at h
      simp only [execOp, resolve]
      exact isValue_v _
  all_goals
    simp only [execOp]
    exact isValue_v _

theorem yields_of {o : Oper} {a : Act} {v : Value} {C : World → Prop} {w : World} (hv : valued o = true) (h : o.quietAt P a C w v) : (execOp a.eval o).run P w = .ok (.value v) w := by
  have h1 := valued_run (P := P) hv a.eval w
  unfold Oper.quietAt at h
  generalize (execOp a.eval o).run P w = r at *
  cases r with
  | halt x w' => exact h.elim
  | ok n w' =>
    obtain ⟨u, rfl⟩ := h1
    obtain ⟨e1, e2⟩ := h
    rw [e1, e2]

/-- writes no slot below L -/
def above (L : Nat) (o : Oper) : Bool := match o.dst with | some d => decide (L ≤ d) | none => true
/-- may i be taken first, S being held till d? -/
def takeOk (L : Nat) (ops : Array Oper) (Bl : List Nat) (d i : Nat) (listed : Array Bool) : Bool :=
  Region.noSelect ops && Region.free .any ops listed i && (Region.ready .any ops listed).contains i && blocked ops Bl i listed && Bl.contains d &&
    match ops[i]? with | some o => valued o && above L o | none => false
/-- may i, that looks at no world, be taken first? -/
def pureOk (L : Nat) (ops : Array Oper) (d i : Nat) (listed : Array Bool) : Bool :=
  Region.noSelect ops && Region.free .any ops listed i && (Region.ready .any ops listed).contains i && i != d &&
    match ops[i]? with | some o => valued o && above L o | none => false
/-- what a panic comes to hangs on what is deferred, on the world, and on the slots below L, alone -/
def PanicFree (L : Nat) (Q : Exit → Act → World → Prop) : Prop := ∀ c (a a' : Act) w, a.defers = a'.defers → (∀ t, t < L → a'.tmps.getD t undef = a.tmps.getD t undef) → Q (.panic c) a w → Q (.panic c) a' w
theorem put_defers (a : Act) (dst : Option Tmp) (v : Value) : (a.put dst v).defers = a.defers := by cases dst <;> rfl
theorem put_below {L : Nat} {o : Oper} (h : above L o = true) (a : Act) (v : Value) : ∀ t, t < L → a.tmps.getD t undef = (a.put o.dst v).tmps.getD t undef := by
  intro t ht
  unfold above at h
  cases hd : o.dst with
  | none => rfl
  | some d =>
    rw [hd] at h
    have hL : L ≤ d := by simpa using h
    simp only [Act.put]
    rw [Array.getD_eq_getD_getElem?, Array.getD_eq_getD_getElem?, Array.getElem?_setIfInBounds]
    rw [if_neg (by omega)]
theorem PanicFree.unput {L : Nat} (hQ : PanicFree L Q) {o : Oper} (h : above L o = true) (v : Value) : ∀ c a w, Q (.panic c) (a.put o.dst v) w → Q (.panic c) a w :=
  fun c a w hq => hQ c _ a w (put_defers a _ _) (put_below h a v) hq

theorem till_take {L : Nat} (i : Nat) (Bl : List Nat) {l : List Oper} {oi : Oper} {fuel : Nat} {listed : Array Bool} {a : Act} {w : World} (hi : l[i]? = some oi) (hc : takeOk L l.toArray Bl d i listed = true)
    (hg : Region.wanted oi (yielded l.toArray a.tmps) = true) (hQ : PanicFree L Q) (hS : S w)
    (h : ∀ K : Act → Prop, (∀ a', wpTill P l.toArray Q S d fuel (listed.setIfInBounds i true) a' w → K a') → oi.quiet P a (fun w' => ∃ x : HeldW S, w' = x.w) K) : wpTill P l.toArray Q S d (fuel + 1) listed a w := by
  have hi : l.toArray[i]? = some oi := by simpa using hi
  simp only [takeOk, Bool.and_eq_true, hi] at hc
  obtain ⟨⟨⟨⟨⟨h1, h2⟩, h3⟩, h4⟩, h5⟩, h6, h7⟩ := hc
  obtain ⟨v, hv, hn⟩ := h _ (fun _ h => h)
  exact till_first hi (Region.noSelect_spec h1) (hQ.unput h7 _) (by simpa using h5) fuel listed a w (Region.free_spec hi h2) h4 (by simpa using h3)
    (.inl ⟨hg, fun w' hw' => yields_of h6 (hv w' (inS hw'))⟩) hS hn

/-- the same where the guard says no -/
theorem till_skip {L : Nat} (i : Nat) {l : List Oper} {oi : Oper} {fuel : Nat} {listed : Array Bool} {a : Act} {w : World} (hi : l[i]? = some oi) (hc : pureOk L l.toArray d i listed = true)
    (hg : Region.wanted oi (yielded l.toArray a.tmps) = false) (hQ : PanicFree L Q) (hS : listed.getD d true = false → S w)
    (h : wpTill P l.toArray Q S d fuel (listed.setIfInBounds i true) (a.put oi.dst undef) w) : wpTill P l.toArray Q S d (fuel + 1) listed a w := by
  have hi : l.toArray[i]? = some oi := by simpa using hi
  simp only [pureOk, Bool.and_eq_true, hi] at hc
  obtain ⟨⟨⟨⟨h1, h2⟩, h3⟩, h5⟩, h6, h7⟩ := hc
  exact till_pure hi (Region.noSelect_spec h1) (hQ.unput h7 _) (by simpa using h5) fuel listed a w (Region.free_spec hi h2) (by simpa using h3)
    (.inr ⟨hg, rfl⟩) hS h

theorem till_now {L : Nat} (i : Nat) {l : List Oper} {oi : Oper} {fuel : Nat} {listed : Array Bool} {a : Act} {w : World} (hi : l[i]? = some oi) (hc : pureOk L l.toArray d i listed = true)
    (hg : Region.wanted oi (yielded l.toArray a.tmps) = true) (hQ : PanicFree L Q) (hS : listed.getD d true = false → S w)
    (h : ∀ K : Act → Prop, (∀ a', wpTill P l.toArray Q S d fuel (listed.setIfInBounds i true) a' w → K a') → oi.quiet P a (fun _ => True) K) : wpTill P l.toArray Q S d (fuel + 1) listed a w := by
  have hi : l.toArray[i]? = some oi := by simpa using hi
  simp only [pureOk, Bool.and_eq_true, hi] at hc
  obtain ⟨⟨⟨⟨h1, h2⟩, h3⟩, h5⟩, h6, h7⟩ := hc
  obtain ⟨v, hv, hn⟩ := h _ (fun _ h => h)
  exact till_pure hi (Region.noSelect_spec h1) (hQ.unput h7 _) (by simpa using h5) fuel listed a w (Region.free_spec hi h2) (by simpa using h3)
    (.inl ⟨hg, fun w' => yields_of h6 (C := fun _ => True) (hv w' trivial)⟩) hS hn

theorem wp_region_plan {id : Nat} {l : List Oper} {a : Act} {w : World} (S : World → Prop) (d n L : Nat) (hm : P.follows .mixedOrders = true) (hn : l.length = n) (hQ : PanicFree L Q) (hS : S w.drew)
    (h : PanicFree L Q → S w.drew → wpTill P l.toArray Q S d n (Array.replicate n false) a w.drew) : (Code.region id l.toArray true).wp P Q a w := by
  subst hn
  exact wp_region_till S d hm (h hQ hS)
theorem panicFree_body {fn : Func} {R : Ending → World → Prop} : PanicFree 0 (bodyPost P fn R) := fun _ _ _ _ hd _ h => ⟨hd ▸ h.1, h.2⟩
theorem PanicFree.then {K : Act → World → Prop} {L : Nat} (h : PanicFree L Q) : PanicFree L (Exit.then K Q) := fun c a a' w hd ht hq => h c a a' w hd ht hq
theorem PanicFree.inBlock {id : Nat} {L : Nat} (h : PanicFree L Q) : PanicFree L (Exit.inBlock id Q) := fun c a a' w hd ht hq => h c a a' w hd ht hq
theorem leaves_same {fn : Func} {R : Ending → World → Prop} {x y : Array Value} (he : results fn x = results fn y) : ∀ (ds : List Deferred) (u : FrameMode) (w : World), Leaves P fn x R ds u w → Leaves P fn y R ds u w
  | [], .returning, w, h => by
    obtain ⟨v, hv, hR⟩ := h
    exact ⟨v, by rw [← he]; exact hv, hR⟩
  | [], .panicking chain, w, h => h
  | [], .run, w, h => h
  | d :: ds, u, w, h => by
    obtain ⟨hu, fv, cap, f, args, ht, hi, hc⟩ := h
    refine ⟨hu, fv, cap, f, args, ht, hi, hc.mono ?_⟩
    intro e u' w' h
    cases e with
    | returned v => exact leaves_same he ds _ _ h
    | panicked c => exact leaves_same he ds _ _ h
    | outgrown => exact h
theorem panicFree_cells {fn : Func} {R : Ending → World → Prop} {L t u : Nat} {T U : TypeId} (hr : fn.results = #[.cell t T, .cell u U]) (ht : t < L) (hu : u < L) : PanicFree L (bodyPostD P fn R) := by
  intro c a a' w hd hs h
  have he : results fn a.tmps = results fn a'.tmps := by
    unfold results
    rw [hr]
    have h1 := hs t ht
    have h2 := hs u hu
    simp only [Array.getD_eq_getD_getElem?] at h1 h2
    simp [h1, h2]
  show Leaves P fn a'.tmps R a'.defers (.panicking c) w
  rw [← hd]
  exact leaves_same he _ _ _ h

/-- number i alone may come up, ahead of d: S is to be shown anew -/
theorem till_loud (i : Nat) {l : List Oper} {oi : Oper} {fuel : Nat} {listed : Array Bool} {a : Act} {w : World} (hr : Region.ready .any l.toArray listed = [i]) (hi : l[i]? = some oi) (hg : oi.guard = none)
    (h : ∀ K : Act → World → Prop, (∀ a' w', S w' ∧ wpTill P l.toArray Q S d fuel (listed.setIfInBounds i true) a' w' → K a' w') → oi.wp P a w K Q) : wpTill P l.toArray Q S d (fuel + 1) listed a w := by
  have hi : l.toArray[i]? = some oi := by simpa using hi
  refine ⟨fun h0 => (by rw [hr] at h0; cases h0), fun j hj => ?_⟩
  rw [hr] at hj
  obtain rfl : j = i := by simpa using hj
  unfold wpOp
  simp only [hi]
  rw [if_pos (by simp [Region.wanted, hg])]
  exact .inl (h _ (fun a' w' h => ⟨fun _ => h.1, h.2⟩))
/-- number i alone may come up; behind it d is done -/
theorem till_last (i : Nat) {l : List Oper} {oi : Oper} {fuel : Nat} {listed : Array Bool} {a : Act} {w : World} (hr : Region.ready .any l.toArray listed = [i]) (hi : l[i]? = some oi) (hg : oi.guard = none)
    (hd : (listed.setIfInBounds i true).getD d true = true)
    (h : ∀ K : Act → World → Prop, (∀ a' w', wpTill P l.toArray Q S d fuel (listed.setIfInBounds i true) a' w' → K a' w') → oi.wp P a w K Q) : wpTill P l.toArray Q S d (fuel + 1) listed a w := by
  have hi : l.toArray[i]? = some oi := by simpa using hi
  refine ⟨fun h0 => (by rw [hr] at h0; cases h0), fun j hj => ?_⟩
  rw [hr] at hj
  obtain rfl : j = i := by simpa using hj
  unfold wpOp
  simp only [hi]
  rw [if_pos (by simp [Region.wanted, hg])]
  exact .inl (h _ (fun a' w' h => ⟨fun h0 => (by rw [hd] at h0; cases h0), h⟩))
theorem till_done {l : List Oper} {fuel : Nat} {listed : Array Bool} {a : Act} {w : World} (hr : Region.ready .any l.toArray listed = []) (h : Q .normal a w) : wpTill P l.toArray Q S d fuel listed a w := by
  cases fuel with
  | zero => exact ⟨hr, h⟩
  | succ f => exact ⟨fun _ => h, by rw [hr]; simp⟩
end
end Go.Proofs.YtchjbkokjilobaaDoor
