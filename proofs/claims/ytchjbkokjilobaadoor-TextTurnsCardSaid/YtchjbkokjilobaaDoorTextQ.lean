/- Plain functions: what text's reader computes, on the bytes that are left. -/
import Derived.Test.YtchjbkokjilobaaDoorDat
import Derived.Test.YtchjbkokjilobaaDoorTextP
namespace Go.Proofs.YtchjbkokjilobaaDoor
namespace Tx
/-- what is left behind blanks and notes; note: we stand in one -/
def skip : Bool → List UInt8 → List UInt8
  | _, [] => []
  | false, c :: l => if c = 32 ∨ c = 9 ∨ c = 10 then skip false l else if c = 59 then skip true l else c :: l
  | true, c :: l => if c = 10 then skip false l else skip true l
/-- a fault, or a value -/
abbrev Res (α : Type) := Except (Int × Int) α
def num (n : Int) : Datum := .mk 1 n [] 0 0 []
def truth (n : Int) : Datum := .mk 2 n [] 0 0 []
def sym (s : List UInt8) : Datum := .mk 3 0 s 0 0 []
def list (l : List Datum) : Datum := .mk 4 0 [] 0 0 l
def quoteName : List UInt8 := [113, 117, 111, 116, 101]
def natOf (l : List UInt8) : Nat := l.foldl (fun n c => n * 10 + (c.toNat - 48)) 0
def intOf (s : List UInt8) : Int := if s.head? = some 45 then -(natOf (bare s) : Int) else natOf (bare s)
def atom (s : List UInt8) (at_ : Int) : Res Datum :=
  if number s then
    if s.length > 17 then .error (3, at_) else if intOf s > 1000000000000000 ∨ intOf s < -1000000000000000 then .error (3, at_) else .ok (num (intOf s))
  else if s.length > 20 then .error (7, at_) else .ok (sym s)
/-- data up to the list's end; S: the text's length; rd reads one -/
def items (S : Nat) (rd : List UInt8 → Nat → Res (Datum × List UInt8 × Nat)) : Nat → List UInt8 → Nat → Res (List Datum × List UInt8 × Nat)
  | 0, _, _ => .error (0, 0)
  | m + 1, r, n => match skip false r with
    | [] => .error (2, (S : Int))
    | c :: l => if c = 41 then .ok ([], l, n) else match rd (c :: l) n with
      | .error e => .error e
      | .ok (d, r', n') => match items S rd m r' n' with
        | .error e => .error e
        | .ok (ds, r'', n'') => .ok (d :: ds, r'', n'')
/-- one datum; f: how much deeper it may be (41 - deep) -/
def datum (S : Nat) : Nat → List UInt8 → Nat → Res (Datum × List UInt8 × Nat)
  | 0, r, _ => .error (4, (S : Int) - r.length)
  | f + 1, r, n =>
    if n + 1 > 2000 then .error (4, (S : Int) - r.length) else
    match r with
    | [] => .error (2, (S : Int))
    | c :: l =>
      if c = 40 then match items S (datum S f) (l.length + 1) l (n + 1) with
        | .error e => .error e
        | .ok (ds, r', n') => .ok (list ds, r', n')
      else if c = 39 then
        if n + 2 > 2000 ∨ f = 0 then .error (4, (S : Int) - r.length) else match datum S f (skip false l) (n + 2) with
        | .error e => .error e
        | .ok (d, r', n') => .ok (list [sym quoteName, d], r', n')
      else if c = 35 then match l with
        | t :: l' => if (t = 116 ∨ t = 102) ∧ (∀ x, l'.head? = some x → letter x = false) then .ok (truth (if t = 116 then 1 else 0), l', n + 1) else .error (2, (S : Int) - r.length)
        | [] => .error (2, (S : Int) - r.length)
      else if letter c then match atom (r.takeWhile letter) ((S : Int) - r.length) with
        | .error e => .error e
        | .ok d => .ok (d, r.dropWhile letter, n + 1)
      else .error (2, (S : Int) - r.length)
/-- all data -/
def reads (S : Nat) : Nat → List UInt8 → Nat → Res (List Datum)
  | 0, _, _ => .error (0, 0)
  | m + 1, r, n => match r with
    | [] => .ok []
    | _ :: _ => match datum S 40 r n with
      | .error e => .error e
      | .ok (d, r', n') => match reads S m (skip false r') n' with
        | .error e => .error e
        | .ok ds => .ok (d :: ds)
def read (s : List UInt8) : Res (List Datum) := if s.length > 6000 then .error (4, 0) else reads s.length (s.length + 1) (skip false s) 0

theorem skip_le : ∀ (b : Bool) (r : List UInt8), (skip b r).length ≤ r.length
  | b, [] => by cases b <;> simp [skip]
  | false, c :: l => by
    unfold skip
    have h1 := skip_le false l
    have h2 := skip_le true l
    split
    · simp only [List.length_cons]; omega
    · split
      · simp only [List.length_cons]; omega
      · exact Nat.le_refl _
  | true, c :: l => by
    unfold skip
    have h1 := skip_le false l
    have h2 := skip_le true l
    split <;> (simp only [List.length_cons]; omega)
theorem items_le {S : Nat} {rd : List UInt8 → Nat → Res (Datum × List UInt8 × Nat)} (hrd : ∀ r n d r' n', rd r n = .ok (d, r', n') → r'.length < r.length) :
    ∀ (m : Nat) (r : List UInt8) (n : Nat) (ds : List Datum) (r' : List UInt8) (n' : Nat), items S rd m r n = .ok (ds, r', n') → r'.length < r.length
  | 0, r, n, ds, r', n', h => by simp [items] at h
  | m + 1, r, n, ds, r', n', h => by
    have hs := skip_le false r
    unfold items at h
    split at h
    · cases h
    · rename_i c l hsk
      rw [hsk] at hs
      simp only [List.length_cons] at hs
      split at h
      · injection h with h; injection h with _ h; injection h with h _; subst h; omega
      · split at h
        · cases h
        · rename_i d r1 n1 hd
          have h1 := hrd _ _ _ _ _ hd
          simp only [List.length_cons] at h1
          split at h
          · cases h
          · rename_i ds1 r2 n2 hi
            have h2 := items_le hrd m r1 n1 ds1 r2 n2 hi
            injection h with h; injection h with _ h; injection h with h _; subst h; omega
theorem dropWhile_le {p : UInt8 → Bool} : ∀ (r : List UInt8), (r.dropWhile p).length ≤ r.length
  | [] => by simp
  | c :: l => by
    have := dropWhile_le (p := p) l
    rw [List.dropWhile_cons]
    split
    · simp only [List.length_cons]; omega
    · exact Nat.le_refl _
theorem datum_lt {S : Nat} : ∀ (f : Nat) (r : List UInt8) (n : Nat) (d : Datum) (r' : List UInt8) (n' : Nat), datum S f r n = .ok (d, r', n') → r'.length < r.length
  | 0, r, n, d, r', n', h => by simp [datum] at h
  | f + 1, r, n, d, r', n', h => by
    unfold datum at h
    split at h
    · cases h
    · split at h
      · cases h
      · rename_i c l
        simp only [List.length_cons]
        split at h
        · split at h
          · cases h
          · rename_i ds r1 n1 hi
            have := items_le (datum_lt f) _ _ _ _ _ _ hi
            injection h with h; injection h with _ h; injection h with h _; subst h; omega
        · split at h
          · split at h
            · cases h
            · split at h
              · cases h
              · rename_i d1 r1 n1 hi
                have h1 := datum_lt f _ _ _ _ _ hi
                have h2 := skip_le false l
                injection h with h; injection h with _ h; injection h with h _; subst h; omega
          · split at h
            · split at h
              · split at h
                · injection h with h; injection h with _ h; injection h with h _; subst h; simp only [List.length_cons]; omega
                · cases h
              · cases h
            · split at h
              · rename_i hl
                split at h
                · cases h
                · injection h with h; injection h with _ h; injection h with h _
                  subst h
                  rw [List.dropWhile_cons, if_pos hl]
                  have := dropWhile_le (p := letter) l
                  omega
              · cases h
end Tx
end Go.Proofs.YtchjbkokjilobaaDoor
