/-
  WHAT IT HOLDS: plain functions on lists that say what the small functions of layers 1, 2 and 5 compute. No program in sight. No condition.
-/

namespace Go.Proofs.Ytiacbdipagbblaa

abbrev Sg := List (ByteArray × Int)

/-- a number lies in lo .. hi. -/
def inB (n lo hi : Int) : Bool := decide (lo ≤ n) && decide (n ≤ hi)
theorem inB_true {n lo hi : Int} : inB n lo hi = true ↔ lo ≤ n ∧ n ≤ hi := by simp [inB]
theorem inB_false {n lo hi : Int} : inB n lo hi = false ↔ n < lo ∨ hi < n := by
  unfold inB; simp [Bool.and_eq_false_iff]; constructor <;> omega

/-- a letter's byte. -/
def letB (c : UInt8) : Bool := inB c.toNat 97 122 || inB c.toNat 65 90
def nameB (s : ByteArray) : Bool := s.data.toList.all letB && inB s.size 1 8

/-- what the sign's check asks of the symbol i: its name, its arity, that no earlier one has its name. -/
def symB (s : Sg) (i : Nat) : Bool :=
  match s[i]? with
  | some x => nameB x.1 && inB x.2 0 3 && (s.take i).all (fun y => decide (y.1 ≠ x.1))
  | none => true
def signB (s : Sg) : Bool := inB s.length 1 12 && (match s[0]? with | some x => x.2 == 2 | none => false) && (List.range s.length).all (symB s)

/-- arity of a number: a variable's is 0. -/
def arOf (s : Sg) (n : Int) : Int := if n < 0 then 0 else match s[n.toNat]? with | some x => x.2 | none => 0

/-- from how many terms are wanted: the list is just these. -/
def needB (s : Sg) : List Int → Int → Bool
  | [], k => k == 0
  | x :: r, k => !(k == 0) && inB x (-12) (s.length - 1) && needB s r (k - 1 + arOf s x)
/-- a valid term. -/
def termB (s : Sg) (t : List Int) : Bool := signB s && inB t.length 1 60 && needB s t 1
def allB (s : Sg) (l : List (List Int)) : Bool := l.all (termB s)

/-- find's check of a shelf. -/
def shelfB (s : Sg) (l : List (List Int)) : Bool := signB s && inB l.length 1 60 && allB s l
/-- the places at which something is true. -/
def chosenL : Nat → List Bool → List Int
  | _, [] => []
  | i, b :: r => if b then (i : Int) :: chosenL (i + 1) r else chosenL (i + 1) r
/-- each of the symbols comes in the term. -/
def hasAllB (symbols : List Int) (t : List Int) : Bool := symbols.all fun n => decide (n ∈ t)
def withB (s : Sg) (l : List (List Int)) (symbols : List Int) : List Int × Int :=
  if shelfB s l then (if symbols.all (fun n => inB n 0 (s.length - 1)) then (chosenL 0 (l.map (hasAllB symbols)), 0) else ([], 5)) else ([], 1)
def smallB (s : Sg) (l : List (List Int)) : Bool := l.all (fun t => decide (t.length ≤ 200)) && decide (s.length ≤ 40)

/-- arity as package term has it: -1 for a number that is none. -/
def arP (s : Sg) (n : Int) : Int := if inB n (-12) (-1) then 0 else if inB n 0 (s.length - 1) then arOf s n else -1
def endIter (f : Int → Int × Int) : Nat → Int × Int → Int × Int
  | 0, p => p
  | k + 1, p => ((f (endIter f k p).1).1, max (endIter f k p).2 (f (endIter f k p).1).2)
/-- where the term that begins at an index ends, and its depth. -/
def endR (s : Sg) (t : List Int) : Nat → Int → Int × Int
  | 0, _ => (-1, 0)
  | f + 1, i => if i < 0 ∨ (t.length : Int) ≤ i then (-1, 0) else
      match t[i.toNat]? with
      | none => (-1, 0)
      | some x => if arP s x < 0 then (-1, 0) else ((endIter (endR s t f) (arP s x).toNat (i + 1, 0)).1, (endIter (endR s t f) (arP s x).toNat (i + 1, 0)).2 + 1)

theorem endR_out {s : Sg} {t : List Int} {f : Nat} {i : Int} (h : i < 0 ∨ (t.length : Int) ≤ i) : endR s t f i = (-1, 0) := by
  cases f with
  | zero => rfl
  | succ f => unfold endR; rw [if_pos h]
def EndOK (s : Sg) (t : List Int) (f : Nat) : Prop := ∀ i : Int, ((endR s t f i).1 = -1 ∨ (i < (endR s t f i).1 ∧ (endR s t f i).1 ≤ t.length)) ∧ 0 ≤ (endR s t f i).2 ∧ (endR s t f i).2 ≤ f
theorem endIter_bounds {s : Sg} {t : List Int} {f : Nat} (ih : EndOK s t f) {i : Int} (h0 : 0 ≤ i) (h1 : i < t.length) (k : Nat) :
    ((endIter (endR s t f) k (i + 1, 0)).1 = -1 ∨ (i < (endIter (endR s t f) k (i + 1, 0)).1 ∧ (endIter (endR s t f) k (i + 1, 0)).1 ≤ t.length)) ∧ 0 ≤ (endIter (endR s t f) k (i + 1, 0)).2 ∧ (endIter (endR s t f) k (i + 1, 0)).2 ≤ f := by
  induction k with
  | zero => simp [endIter]; omega
  | succ k ihk =>
    obtain ⟨h3, h4, h5⟩ := ihk
    simp only [endIter]
    have h6 := ih (endIter (endR s t f) k (i + 1, 0)).1
    refine ⟨?_, by omega, by omega⟩
    rcases h3 with h3 | h3
    · left
      rw [h3, endR_out (Or.inl (by omega))]
    · rcases h6.1 with h7 | h7
      · left; exact h7
      · right; omega
theorem endR_bounds (s : Sg) (t : List Int) : ∀ (f : Nat), EndOK s t f := by
  intro f
  induction f with
  | zero => intro i; simp [endR]
  | succ f ih =>
    intro i
    unfold endR
    split
    · simp; omega
    · split
      · simp; omega
      · split
        · simp; omega
        · rename_i h1 _ x hx h2
          have := endIter_bounds ih (i := i) (by omega) (by omega) (arP s x).toNat
          simp only
          omega

end Go.Proofs.Ytiacbdipagbblaa
