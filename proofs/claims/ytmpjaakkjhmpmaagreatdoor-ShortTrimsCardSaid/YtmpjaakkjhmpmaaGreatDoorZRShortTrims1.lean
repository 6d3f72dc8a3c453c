/-
  WHAT IT HOLDS: plain functions on lists that say what the small functions of layers 1, 2 and 5 compute. No program in sight. No condition.
  WHAT IT HOLDS: the plain law that package term's way to find a term's end and the reference's count of terms that are wanted agree. No program in sight. Condition: a valid sign, a list of 1 to 60 numbers.
  WHAT IT HOLDS: plain facts on terms as lists: what a term is (IsT), where its parts end, that a valid list is a term, that lists of terms are cut in one way alone. No program in sight. Condition: a valid sign where it is said.
  WHAT IT HOLDS: plain facts on matching one term with another one: what the match computes, that it is sound and complete for 'an instance of'. No program in sight. Condition: the lists are terms.
  WHAT IT HOLDS: plain facts on canonical forms: how variables are renamed, and that two terms have one canonical form exactly if each is an instance of the other one. No program in sight. Condition: the lists are terms where it is said.
  WHAT IT HOLDS: plain facts on grouping a list by equal elements. No program in sight. No condition.
  WHAT IT HOLDS: terms in order: comparing by length and then by numbers is a strict order; a strictly ordered list is fixed by its members; putting in and taking doubles out. No program. No condition.
-/

namespace Go.Proofs.YtmpjaakkjhmpmaaGreatDoor

abbrev Sg := List (ByteArray × Int)

/-- a number lies in lo .. hi. -/
def inB (n lo hi : Int) : Bool := decide (lo ≤ n) && decide (n ≤ hi)
theorem inB_true {n lo hi : Int} : inB n lo hi = true ↔ lo ≤ n ∧ n ≤ hi := by simp [inB]
theorem inB_false {n lo hi : Int} : inB n lo hi = false ↔ n < lo ∨ hi < n := by
  unfold inB; simp [Bool.and_eq_false_iff]; constructor <;> omega

/-- a letter's byte. -/
def letB (c : UInt8) : Bool := inB c.toNat 97 122 || inB c.toNat 65 90
def nameB (s : ByteArray) : Bool := s.data.toList.all letB && inB s.size 1 8

/-- what the sign's check asks of the symbol i: its name, its arity, that no earlier one has its name. -/
def symB (s : Sg) (i : Nat) : Bool :=
  match s[i]? with
  | some x => nameB x.1 && inB x.2 0 3 && (s.take i).all (fun y => decide (y.1 ≠ x.1))
  | none => true
def signB (s : Sg) : Bool := inB s.length 1 12 && (match s[0]? with | some x => x.2 == 2 | none => false) && (List.range s.length).all (symB s)

/-- arity of a number: a variable's is 0. -/
def arOf (s : Sg) (n : Int) : Int := if n < 0 then 0 else match s[n.toNat]? with | some x => x.2 | none => 0

/-- from how many terms are wanted: the list is just these. -/
def needB (s : Sg) : List Int → Int → Bool
  | [], k => k == 0
  | x :: r, k => !(k == 0) && inB x (-12) (s.length - 1) && needB s r (k - 1 + arOf s x)
/-- a valid term. -/
def termB (s : Sg) (t : List Int) : Bool := signB s && inB t.length 1 60 && needB s t 1
def allB (s : Sg) (l : List (List Int)) : Bool := l.all (termB s)

/-- arity as package term has it: -1 for a number that is none. -/
def arP (s : Sg) (n : Int) : Int := if inB n (-12) (-1) then 0 else if inB n 0 (s.length - 1) then arOf s n else -1
def endIter (f : Int → Int × Int) : Nat → Int × Int → Int × Int
  | 0, p => p
  | k + 1, p => ((f (endIter f k p).1).1, max (endIter f k p).2 (f (endIter f k p).1).2)
/-- where the term that begins at an index ends, and its depth. -/
def endR (s : Sg) (t : List Int) : Nat → Int → Int × Int
  | 0, _ => (-1, 0)
  | f + 1, i => if i < 0 ∨ (t.length : Int) ≤ i then (-1, 0) else
      match t[i.toNat]? with
      | none => (-1, 0)
      | some x => if arP s x < 0 then (-1, 0) else ((endIter (endR s t f) (arP s x).toNat (i + 1, 0)).1, (endIter (endR s t f) (arP s x).toNat (i + 1, 0)).2 + 1)

theorem endR_out {s : Sg} {t : List Int} {f : Nat} {i : Int} (h : i < 0 ∨ (t.length : Int) ≤ i) : endR s t f i = (-1, 0) := by
  cases f with
  | zero => rfl
  | succ f => unfold endR; rw [if_pos h]
def EndOK (s : Sg) (t : List Int) (f : Nat) : Prop := ∀ i : Int, ((endR s t f i).1 = -1 ∨ (i < (endR s t f i).1 ∧ (endR s t f i).1 ≤ t.length)) ∧ 0 ≤ (endR s t f i).2 ∧ (endR s t f i).2 ≤ f
theorem endIter_bounds {s : Sg} {t : List Int} {f : Nat} (ih : EndOK s t f) {i : Int} (h0 : 0 ≤ i) (h1 : i < t.length) (k : Nat) :
    ((endIter (endR s t f) k (i + 1, 0)).1 = -1 ∨ (i < (endIter (endR s t f) k (i + 1, 0)).1 ∧ (endIter (endR s t f) k (i + 1, 0)).1 ≤ t.length)) ∧ 0 ≤ (endIter (endR s t f) k (i + 1, 0)).2 ∧ (endIter (endR s t f) k (i + 1, 0)).2 ≤ f := by
  induction k with
  | zero => simp [endIter]; omega
  | succ k ihk =>
    obtain ⟨h3, h4, h5⟩ := ihk
    simp only [endIter]
    have h6 := ih (endIter (endR s t f) k (i + 1, 0)).1
    refine ⟨?_, by omega, by omega⟩
    rcases h3 with h3 | h3
    · left
      rw [h3, endR_out (Or.inl (by omega))]
    · rcases h6.1 with h7 | h7
      · left; exact h7
      · right; omega
theorem endR_bounds (s : Sg) (t : List Int) : ∀ (f : Nat), EndOK s t f := by
  intro f
  induction f with
  | zero => intro i; simp [endR]
  | succ f ih =>
    intro i
    unfold endR
    split
    · simp; omega
    · split
      · simp; omega
      · split
        · simp; omega
        · rename_i h1 _ x hx h2
          have := endIter_bounds ih (i := i) (by omega) (by omega) (arP s x).toNat
          simp only
          omega

end Go.Proofs.YtmpjaakkjhmpmaaGreatDoor
namespace Go.Proofs.YtmpjaakkjhmpmaaGreatDoor

theorem signB_ar' {s : Sg} (h : signB s = true) (n : Int) : 0 ≤ arOf s n ∧ arOf s n ≤ 3 := by
  unfold signB at h
  simp only [Bool.and_eq_true] at h
  have h3 := h.2
  rw [List.all_eq_true] at h3
  unfold arOf
  split
  · omega
  · split
    · rename_i x hx
      have hlt : n.toNat < s.length := (List.getElem?_eq_some_iff.1 hx).1
      have := h3 n.toNat (by simpa using hlt)
      unfold symB at this
      rw [hx] at this
      simp only [Bool.and_eq_true] at this
      exact inB_true.1 this.1.2
    · omega

def itI (g : Int → Int) : Nat → Int → Int
  | 0, i => i
  | k + 1, i => g (itI g k i)
theorem itI_front (g : Int → Int) (k : Nat) : ∀ i, itI g (k + 1) i = itI g k (g i) := by
  induction k with
  | zero => intro i; rfl
  | succ k ih => intro i; rw [itI, ih]; rfl
theorem itI_add (g : Int → Int) (a b : Nat) : ∀ i, itI g (a + b) i = itI g b (itI g a i) := by
  intro i
  induction b with
  | zero => rfl
  | succ b ih => rw [← Nat.add_assoc]; simp only [itI]; rw [ih]
theorem endIter_fst (F : Int → Int × Int) (k : Nat) (p : Int × Int) : (endIter F k p).1 = itI (fun i => (F i).1) k p.1 := by
  induction k with
  | zero => rfl
  | succ k ih => simp only [endIter, itI, ih]

def nx (s : Sg) (t : List Int) (f : Nat) (i : Int) : Int := (endR s t f i).1
theorem nx_out {s : Sg} {t : List Int} {f : Nat} {i : Int} (h : i < 0 ∨ (t.length : Int) ≤ i) : nx s t f i = -1 := by unfold nx; rw [endR_out h]
theorem nx_in {s : Sg} {t : List Int} {f k : Nat} (h : k < t.length) : nx s t (f + 1) k = if arP s t[k] < 0 then -1 else itI (nx s t f) (arP s t[k]).toNat (k + 1) := by
  unfold nx
  conv => lhs; unfold endR
  rw [if_neg (by omega)]
  simp only [Int.toNat_natCast, List.getElem?_eq_getElem h]
  split
  · rfl
  · rw [endIter_fst]
theorem itI_path {s : Sg} {t : List Int} {f : Nat} {i : Int} (h0 : 0 ≤ i) (h1 : i < t.length) (k : Nat) : itI (nx s t f) k (i + 1) = -1 ∨ (i < itI (nx s t f) k (i + 1) ∧ itI (nx s t f) k (i + 1) ≤ t.length) := by
  have := (endIter_bounds (endR_bounds s t f) h0 h1 k).1
  rw [endIter_fst] at this
  exact this

theorem nx_fuel (s : Sg) (t : List Int) : ∀ (f f' : Nat) (i : Int), 1 ≤ f → 1 ≤ f' → (i < 0 ∨ (t.length : Int) - i < f) → (i < 0 ∨ (t.length : Int) - i < f') → nx s t f i = nx s t f' i := by
  intro f
  induction f with
  | zero => intro f' i h; omega
  | succ f ih =>
    intro f' i _ h2 h3 h4
    by_cases hout : i < 0 ∨ (t.length : Int) ≤ i
    · rw [nx_out hout, nx_out hout]
    · obtain ⟨k, rfl⟩ := Int.eq_ofNat_of_zero_le (show 0 ≤ i by omega)
      have hk : k < t.length := by omega
      obtain ⟨f'', rfl⟩ : ∃ f'', f' = f'' + 1 := ⟨f' - 1, by omega⟩
      rw [nx_in hk, nx_in hk]
      split
      · rfl
      · have key : ∀ j, itI (nx s t f) j (k + 1) = itI (nx s t f'') j (k + 1) := by
          intro j
          induction j with
          | zero => rfl
          | succ j ihj =>
            simp only [itI]
            rw [← ihj]
            rcases itI_path (s := s) (t := t) (f := f) (i := k) (by omega) (by omega) j with h | h
            · rw [h, nx_out (Or.inl (by omega)), nx_out (Or.inl (by omega))]
            · exact ih f'' _ (by omega) (by omega) (by omega) (by omega)
        exact key _

theorem itI_m1 (s : Sg) (t : List Int) (f k : Nat) : itI (nx s t f) k (-1) = -1 := by
  induction k with
  | zero => rfl
  | succ k ih => simp only [itI, ih]; exact nx_out (Or.inl (by omega))

theorem nx_100 (s : Sg) (t : List Int) (i : Nat) (hlt : i < t.length) (hl : t.length ≤ 60) (j : Nat) : nx s t 100 (itI (nx s t 100) j (i + 1)) = nx s t 101 (itI (nx s t 100) j (i + 1)) := by
  rcases itI_path (s := s) (t := t) (f := 100) (i := i) (by omega) (by omega) j with h | h
  · rw [h, nx_out (Or.inl (by omega)), nx_out (Or.inl (by omega))]
  · generalize itI (nx s t 100) j (i + 1) = q at *
    refine nx_fuel s t 100 101 q (by omega) (by omega) (Or.inr ?_) (Or.inr ?_) <;> omega

theorem need_end {s : Sg} (hs : signB s = true) (t : List Int) (hl : t.length ≤ 60) : ∀ (m i k : Nat), i ≤ t.length → m = t.length - i → needB s (t.drop i) k = (itI (nx s t 101) k i == (t.length : Int)) := by
  intro m
  induction m with
  | zero =>
    intro i k hi hm
    rw [List.drop_of_length_le (by omega)]
    have : i = t.length := by omega
    subst this
    cases k with
    | zero => simp [needB, itI]
    | succ k =>
      rw [itI_front, nx_out (Or.inr (by omega)), itI_m1]
      simp [needB]
      rw [Bool.eq_iff_iff]; simp; omega
  | succ m ih =>
    intro i k hi hm
    have hlt : i < t.length := by omega
    rw [List.drop_eq_getElem_cons hlt]
    cases k with
    | zero =>
      simp only [needB, itI]
      rw [Bool.eq_iff_iff]; simp; omega
    | succ k =>
      have h0 : ((↑(k + 1) : Int) == 0) = false := by simp; omega
      simp only [needB, h0, Bool.not_false, Bool.true_and]
      rw [itI_front]
      have hnx := nx_in (s := s) (f := 100) hlt
      cases hx : inB t[i] (-12) (s.length - 1)
      · have har : arP s t[i] = -1 := by
          have := inB_false.1 hx
          unfold arP
          rw [inB_false.2 (by omega)]
          have h2 : inB t[i] 0 (s.length - 1) = false ∨ s.length = 0 := by
            by_cases hs0 : s.length = 0
            · right; exact hs0
            · left; exact inB_false.2 (by omega)
          rcases h2 with h2 | h2
          · rw [h2]; simp
          · rw [inB_false.2 (by omega)]; simp
        rw [hnx, har]
        simp only [show (-1 : Int) < 0 by omega, if_true]
        rw [itI_m1, Bool.false_and]
        symm; rw [beq_eq_false_iff_ne]; omega
      · have hb := inB_true.1 hx
        have har : arP s t[i] = arOf s t[i] := by
          unfold arP
          by_cases hneg : t[i] < 0
          · rw [inB_true.2 (by omega)]
            simp [arOf, hneg]
          · rw [inB_false.2 (by omega), inB_true.2 (by omega)]; simp
        have hb2 := signB_ar' hs t[i]
        rw [hnx, har, if_neg (by omega)]
        obtain ⟨n, hn⟩ := Int.eq_ofNat_of_zero_le hb2.1
        have hfu : ∀ j, itI (nx s t 100) j (i + 1) = itI (nx s t 101) j (i + 1) := by
          intro j
          induction j with
          | zero => simp only [itI]
          | succ j ihj =>
            simp only [itI]
            rw [← ihj]
            exact nx_100 s t i hlt (by omega) j
        rw [hn, Int.toNat_natCast, hfu, ← itI_add]
        rw [show ((↑(k + 1) : Int) - 1 + ↑n) = ((n + k : Nat) : Int) by omega]
        have := ih (i + 1) (n + k) (by omega) (by omega)
        rw [this]
        simp

theorem end_need (s : Sg) (t : List Int) (h1 : signB s = true) (h2 : inB t.length 1 60 = true) : ((endR s t 101 0).1 == (t.length : Int)) = needB s t 1 := by
  have hb := inB_true.1 h2
  have := need_end h1 t (by omega) t.length 0 1 (by omega) (by omega)
  rw [List.drop_zero] at this
  simp only [itI, nx] at this
  exact this.symm

end Go.Proofs.YtmpjaakkjhmpmaaGreatDoor
namespace Go.Proofs.YtmpjaakkjhmpmaaGreatDoor

/-- a term over a sign; its variables are the numbers below 0, down to -m. -/
inductive IsT (s : Sg) (m : Int) : List Int → Prop
  | var (n : Int) : -m ≤ n → n < 0 → IsT s m [n]
  | app (c : Nat) (ars : List (List Int)) : c < s.length → (ars.length : Int) = arOf s c → (∀ a ∈ ars, IsT s m a) → IsT s m ((c : Int) :: ars.flatten)

theorem IsT.ne {s : Sg} {m : Int} {t : List Int} (h : IsT s m t) : 0 < t.length := by cases h <;> simp
theorem IsT.nonempty {s : Sg} {m : Int} {t : List Int} (h : IsT s m t) : t ≠ [] := by cases h <;> simp
theorem IsT.mono {s : Sg} {m m' : Int} (hm : m ≤ m') {t : List Int} (h : IsT s m t) : IsT s m' t := by
  induction h with
  | var n h1 h2 => exact .var n (by omega) h2
  | app c ars h1 h2 _ ih => exact .app c ars h1 h2 ih
theorem IsT.range {s : Sg} {m : Int} {t : List Int} (h : IsT s m t) : ∀ x ∈ t, -m ≤ x ∧ x < s.length ∨ (0 ≤ x ∧ x < s.length) := by
  induction h with
  | var n h1 h2 => intro x hx; simp at hx; subst hx; left; omega
  | app c ars h1 h2 _ ih =>
    intro x hx
    rcases List.mem_cons.1 hx with rfl | hx
    · right; omega
    · obtain ⟨a, ha, hxa⟩ := List.mem_flatten.1 hx
      exact ih a ha x hxa

/-- of a list: how many numbers the first k terms of it have. -/
def pLen (s : Sg) : List Int → Nat → Nat
  | [], _ => 0
  | _ :: _, 0 => 0
  | x :: r, k + 1 => 1 + pLen s r (k + (arOf s x).toNat)
theorem pLen_zero (s : Sg) (l : List Int) : pLen s l 0 = 0 := by cases l <;> rfl
theorem pLen_T {s : Sg} {m : Int} {t : List Int} (h : IsT s m t) : ∀ (r : List Int) (k : Nat), pLen s (t ++ r) (k + 1) = t.length + pLen s r k := by
  induction h with
  | var n h1 h2 =>
    intro r k
    simp only [List.singleton_append, pLen]
    have : arOf s n = 0 := by simp [arOf, h2]
    rw [this]; rfl
  | app c ars h1 h2 h3 ih =>
    intro r k
    simp only [List.cons_append, pLen]
    have key : ∀ (bs : List (List Int)), (∀ a ∈ bs, a ∈ ars) → pLen s (bs.flatten ++ r) (k + bs.length) = bs.flatten.length + pLen s r k := by
      intro bs
      induction bs with
      | nil => intro _; simp
      | cons b bs ihb =>
        intro hb
        have e1 := ih b (hb b (by simp)) (bs.flatten ++ r) (k + bs.length)
        have e2 := ihb (fun a ha => hb a (by simp [ha]))
        rw [show k + (b :: bs).length = k + bs.length + 1 by simp; omega]
        simp only [List.flatten_cons, List.append_assoc, List.length_append]
        rw [e1, e2]; omega
    have e := key ars (fun a h => h)
    rw [← h2]
    simp only [Int.toNat_natCast, List.length_cons]
    rw [e]; omega
theorem pLen_T1 {s : Sg} {m : Int} {t : List Int} (h : IsT s m t) (r : List Int) : pLen s (t ++ r) 1 = t.length := by
  have := pLen_T h r 0
  rw [pLen_zero] at this
  simpa using this

/-- lists of terms are cut in one way alone. -/
theorem cut_unique {s : Sg} {m : Int} : ∀ (ars bs : List (List Int)) (r r' : List Int), (∀ a ∈ ars, IsT s m a) → (∀ b ∈ bs, IsT s m b) → ars.length = bs.length → ars.flatten ++ r = bs.flatten ++ r' → ars = bs ∧ r = r' := by
  intro ars
  induction ars with
  | nil => intro bs r r' _ _ hl he; cases bs with
    | nil => simpa using he
    | cons => simp at hl
  | cons a ars ih =>
    intro bs r r' ha hb hl he
    cases bs with
    | nil => simp at hl
    | cons b bs =>
      simp only [List.flatten_cons, List.append_assoc] at he
      have h1 := pLen_T1 (ha a (by simp)) (ars.flatten ++ r)
      have h2 := pLen_T1 (hb b (by simp)) (bs.flatten ++ r')
      rw [he, h2] at h1
      have hab : a = b := by
        have := congrArg (List.take a.length) he
        rw [List.take_left, ← h1, List.take_left] at this
        exact this
      subst hab
      have he' := List.append_cancel_left he
      obtain ⟨h3, h4⟩ := ih bs r r' (fun x hx => ha x (by simp [hx])) (fun x hx => hb x (by simp [hx])) (by simpa using hl) he'
      exact ⟨by rw [h3], h4⟩
theorem app_unique {s : Sg} {m : Int} {c : Nat} {ars bs : List (List Int)} (ha : ∀ a ∈ ars, IsT s m a) (hb : ∀ b ∈ bs, IsT s m b) (hl : ars.length = bs.length) (he : (c : Int) :: ars.flatten = (c : Int) :: bs.flatten) : ars = bs := by
  have := (List.cons.inj he).2
  exact (cut_unique ars bs [] [] ha hb hl (by simpa using this)).1

/-- a list of which k terms are wanted and that is just these, is k terms. -/
theorem need_terms {s : Sg} (hs : signB s = true) : ∀ (n : Nat) (t : List Int) (k : Nat), t.length = n → needB s t k = true → ∃ ars : List (List Int), ars.length = k ∧ t = ars.flatten ∧ ∀ a ∈ ars, IsT s 12 a := by
  intro n
  induction n using Nat.strongRecOn with
  | ind n ih =>
    intro t k hn h
    cases t with
    | nil =>
      simp [needB] at h
      have : k = 0 := by omega
      subst this
      exact ⟨[], rfl, rfl, by simp⟩
    | cons x r =>
      simp only [needB, Bool.and_eq_true, Bool.not_eq_true'] at h
      obtain ⟨⟨hk, hx⟩, hr⟩ := h
      have hk0 : k ≠ 0 := by intro e; subst e; simp at hk
      obtain ⟨k, rfl⟩ : ∃ q, k = q + 1 := ⟨k - 1, by omega⟩
      have hxb := inB_true.1 hx
      have har := signB_ar' hs x
      obtain ⟨q, hq⟩ := Int.eq_ofNat_of_zero_le har.1
      rw [hq, show ((↑(k + 1) : Int) - 1 + ↑q) = ((q + k : Nat) : Int) by omega] at hr
      obtain ⟨cs, hcl, hcf, hct⟩ := ih r.length (by simp at hn; omega) r (q + k) rfl hr
      by_cases hneg : x < 0
      · have hq0 : q = 0 := by have : arOf s x = 0 := by simp [arOf, hneg]
                               omega
        subst hq0
        refine ⟨[x] :: cs, by simp; omega, by simp [hcf], ?_⟩
        intro a ha
        rcases List.mem_cons.1 ha with rfl | ha
        · exact .var x (by omega) hneg
        · exact hct a ha
      · obtain ⟨c, rfl⟩ := Int.eq_ofNat_of_zero_le (show 0 ≤ x by omega)
        refine ⟨((c : Int) :: (cs.take q).flatten) :: cs.drop q, by simp; omega, ?_, ?_⟩
        · simp only [List.flatten_cons, List.cons_append]
          rw [← List.flatten_append, List.take_append_drop, hcf]
        · intro a ha
          rcases List.mem_cons.1 ha with rfl | ha
          · refine .app c _ (by omega) ?_ (fun b hb => hct b (List.mem_of_mem_take hb))
            rw [hq]; simp; omega
          · exact hct a (List.mem_of_mem_drop ha)
theorem termB_T {s : Sg} {t : List Int} (h : termB s t = true) : IsT s 12 t := by
  unfold termB at h
  simp only [Bool.and_eq_true] at h
  obtain ⟨ars, hl, he, ht⟩ := need_terms h.1.1 t.length t 1 rfl h.2
  match ars, hl with
  | [a], _ => simp at he; rw [he]; exact ht a (by simp)
/-- and back. -/
theorem T_need {s : Sg} {t : List Int} (h : IsT s 12 t) : ∀ (r : List Int) (k : Nat), needB s (t ++ r) ((k + 1 : Nat) : Int) = needB s r k := by
  induction h with
  | var n h1 h2 =>
    intro r k
    simp only [List.singleton_append, needB]
    have : arOf s n = 0 := by simp [arOf, h2]
    rw [this, inB_true.2 (by omega)]
    have h0 : ((↑(k + 1) : Int) == 0) = false := by simp; omega
    rw [h0]
    simp
  | app c ars h1 h2 h3 ih =>
    intro r k
    simp only [List.cons_append, needB]
    have h0 : ((↑(k + 1) : Int) == 0) = false := by simp; omega
    rw [h0, inB_true.2 (by omega), ← h2]
    have key : ∀ (bs : List (List Int)), (∀ a ∈ bs, a ∈ ars) → needB s (bs.flatten ++ r) ((bs.length + k : Nat) : Int) = needB s r k := by
      intro bs
      induction bs with
      | nil => intro _; simp
      | cons b bs ihb =>
        intro hb
        have e1 := ih b (hb b (by simp)) (bs.flatten ++ r) (bs.length + k)
        have e2 := ihb (fun a ha => hb a (by simp [ha]))
        rw [show (b :: bs).length + k = bs.length + k + 1 by simp; omega]
        simp only [List.flatten_cons, List.append_assoc]
        rw [e1, e2]
    have e := key ars (fun a h => h)
    rw [show ((↑(k + 1) : Int) - 1 + ↑ars.length) = ((ars.length + k : Nat) : Int) by omega, e]
    rfl
theorem T_termB {s : Sg} {t : List Int} (hs : signB s = true) (h : IsT s 12 t) (hl : t.length ≤ 60) : termB s t = true := by
  unfold termB
  have h1 := h.ne
  have := T_need h [] 0
  rw [List.append_nil] at this
  rw [hs, inB_true.2 (by omega)]
  simp only [Bool.true_and]
  exact this

end Go.Proofs.YtmpjaakkjhmpmaaGreatDoor
namespace Go.Proofs.YtmpjaakkjhmpmaaGreatDoor

/-- l is k terms, one behind the other. -/
def Fo (s : Sg) (q : Int) (k : Nat) (l : List Int) : Prop := ∃ ars : List (List Int), ars.length = k ∧ l = ars.flatten ∧ ∀ a ∈ ars, IsT s q a
theorem IsT.fo {s : Sg} {q : Int} {t : List Int} (h : IsT s q t) : Fo s q 1 t := ⟨[t], rfl, by simp, by simpa using h⟩
theorem Fo.one {s : Sg} {q : Int} {t : List Int} (h : Fo s q 1 t) : IsT s q t := by
  obtain ⟨ars, h1, h2, h3⟩ := h
  match ars, h1 with
  | [a], _ => simp at h2; rw [h2]; exact h3 a (by simp)
theorem Fo.zero {s : Sg} {q : Int} {t : List Int} (h : Fo s q 0 t) : t = [] := by
  obtain ⟨ars, h1, h2, h3⟩ := h
  match ars, h1 with
  | [], _ => simpa using h2
theorem Fo.nil (s : Sg) (q : Int) : Fo s q 0 [] := ⟨[], rfl, rfl, by simp⟩
theorem Fo.of_nil {s : Sg} {q : Int} {k : Nat} (h : Fo s q k []) : k = 0 := by
  obtain ⟨ars, h1, h2, h3⟩ := h
  cases ars with
  | nil => exact h1.symm
  | cons a ars =>
    have := (h3 a (by simp)).nonempty
    simp at h2
    exact absurd h2.1 this
theorem Fo.append {s : Sg} {q : Int} {j k : Nat} {l m : List Int} (h : Fo s q j l) (h' : Fo s q k m) : Fo s q (j + k) (l ++ m) := by
  obtain ⟨ars, h1, h2, h3⟩ := h
  obtain ⟨bs, g1, g2, g3⟩ := h'
  refine ⟨ars ++ bs, by simp [h1, g1], by simp [h2, g2], fun a ha => ?_⟩
  rcases List.mem_append.1 ha with ha | ha
  · exact h3 a ha
  · exact g3 a ha
theorem Fo.split {s : Sg} {q : Int} {k : Nat} {l : List Int} (h : Fo s q (k + 1) l) : ∃ p r, l = p ++ r ∧ IsT s q p ∧ Fo s q k r := by
  obtain ⟨ars, h1, h2, h3⟩ := h
  cases ars with
  | nil => simp at h1
  | cons a ars => exact ⟨a, ars.flatten, by simpa using h2, h3 a (by simp), ars, by simpa using h1, rfl, fun b hb => h3 b (by simp [hb])⟩
theorem Fo.splits {s : Sg} {q : Int} {j k : Nat} {l : List Int} (h : Fo s q (j + k) l) : ∃ p r, l = p ++ r ∧ Fo s q j p ∧ Fo s q k r := by
  obtain ⟨ars, h1, h2, h3⟩ := h
  refine ⟨(ars.take j).flatten, (ars.drop j).flatten, ?_, ⟨ars.take j, by simp; omega, rfl, fun a ha => h3 a (List.mem_of_mem_take ha)⟩, ⟨ars.drop j, by simp; omega, rfl, fun a ha => h3 a (List.mem_of_mem_drop ha)⟩⟩
  rw [← List.flatten_append, List.take_append_drop, h2]
theorem Fo.cons_inv {s : Sg} {q : Int} {k : Nat} {n : Int} {l : List Int} (h : Fo s q k (n :: l)) : ∃ k', k = k' + 1 ∧
    ((n < 0 ∧ -q ≤ n ∧ Fo s q k' l) ∨ (0 ≤ n ∧ n < s.length ∧ ∃ c : Nat, n = (c : Int) ∧ (∃ r : Nat, arOf s n = r ∧ Fo s q (r + k') l))) := by
  obtain ⟨k', rfl⟩ : ∃ k', k = k' + 1 := by
    cases k with
    | zero => exact absurd h.zero (by simp)
    | succ k => exact ⟨k, rfl⟩
  refine ⟨k', rfl, ?_⟩
  obtain ⟨p, r, h1, h2, h3⟩ := h.split
  cases h2 with
  | var m h4 h5 =>
    simp at h1
    obtain ⟨rfl, rfl⟩ := h1
    exact Or.inl ⟨h5, h4, h3⟩
  | app c ars h4 h5 h6 =>
    simp at h1
    obtain ⟨rfl, rfl⟩ := h1
    exact Or.inr ⟨by omega, by omega, c, rfl, ars.length, h5.symm, Fo.append ⟨ars, rfl, rfl, h6⟩ h3⟩
theorem Fo.cons_var {s : Sg} {q : Int} {k : Nat} {n : Int} {l : List Int} (h1 : n < 0) (h2 : -q ≤ n) (h : Fo s q k l) : Fo s q (k + 1) (n :: l) := by
  have := (IsT.var (s := s) (m := q) n h2 h1).fo.append h
  rw [Nat.add_comm] at this
  simpa using this
theorem Fo.cons_app {s : Sg} {q : Int} {k r c : Nat} {l : List Int} (h1 : c < s.length) (h2 : arOf s c = r) (h : Fo s q (r + k) l) : Fo s q (k + 1) ((c : Int) :: l) := by
  obtain ⟨p, u, rfl, ⟨ars, g1, g2, g3⟩, h4⟩ := h.splits
  have ht : IsT s q ((c : Int) :: p) := by rw [g2]; exact .app c ars h1 (by rw [h2, g1]) g3
  have := ht.fo.append h4
  rw [Nat.add_comm] at this
  simpa using this

/-- what variables became. -/
abbrev MM := Int → Option (List Int)
def updM (m : MM) (n : Int) (l : List Int) : MM := fun x => if x = n then some l else m x
def matL (s : Sg) : List Int → List Int → MM → Option MM
  | [], _, m => some m
  | _ :: _, [], _ => none
  | n :: a, c :: b, m =>
    if 0 ≤ n then (if c = n then matL s a b m else none)
    else match m n with
      | none => matL s a ((c :: b).drop (pLen s (c :: b) 1)) (updM m n ((c :: b).take (pLen s (c :: b) 1)))
      | some q => if q = (c :: b).take (pLen s (c :: b) 1) then matL s a ((c :: b).drop (pLen s (c :: b) 1)) m else none
theorem matL_nil (s : Sg) (b : List Int) (m : MM) : matL s [] b m = some m := by cases b <;> rfl
theorem matL_app {s : Sg} {n : Int} (hn : 0 ≤ n) (a : List Int) (c : Int) (b : List Int) (m : MM) : matL s (n :: a) (c :: b) m = if c = n then matL s a b m else none := by
  simp [matL, hn]
theorem matL_var {s : Sg} {q : Int} {n : Int} (hn : n < 0) (a : List Int) {p : List Int} (hp : IsT s q p) (r : List Int) (m : MM) :
    matL s (n :: a) (p ++ r) m = match m n with
      | none => matL s a r (updM m n p)
      | some l => if l = p then matL s a r m else none := by
  have h1 := pLen_T1 hp r
  have h2 := hp.nonempty
  cases p with
  | nil => exact absurd rfl h2
  | cons c p =>
    rw [List.cons_append] at h1 ⊢
    rw [matL, if_neg (by omega), h1]
    rw [show (c :: (p ++ r)) = (c :: p) ++ r by rfl, List.drop_left, List.take_left]
/-- a term with lists in place of its variables. -/
def subL (σ : Int → List Int) (a : List Int) : List Int := a.flatMap fun n => if n < 0 then σ n else [n]
theorem subL_cons_var (σ : Int → List Int) {n : Int} (h : n < 0) (a : List Int) : subL σ (n :: a) = σ n ++ subL σ a := by simp [subL, h]
theorem subL_cons_app (σ : Int → List Int) {n : Int} (h : 0 ≤ n) (a : List Int) : subL σ (n :: a) = n :: subL σ a := by
  have : ¬ n < 0 := by omega
  simp [subL, this]
theorem subL_append (σ : Int → List Int) (a b : List Int) : subL σ (a ++ b) = subL σ a ++ subL σ b := by simp [subL]
theorem subL_congr {σ τ : Int → List Int} {a : List Int} (h : ∀ n ∈ a, n < 0 → σ n = τ n) : subL σ a = subL τ a := by
  induction a with
  | nil => rfl
  | cons n a ih =>
    have ih' := ih fun x hx => h x (by simp [hx])
    by_cases hn : n < 0
    · rw [subL_cons_var _ hn, subL_cons_var _ hn, ih', h n (by simp) hn]
    · rw [subL_cons_app _ (by omega), subL_cons_app _ (by omega), ih']
theorem Fo.sub {s : Sg} {q q' : Int} {σ : Int → List Int} : ∀ (a : List Int) (k : Nat), Fo s q k a → (∀ n ∈ a, n < 0 → IsT s q' (σ n)) → Fo s q' k (subL σ a) := by
  intro a
  induction a with
  | nil => intro k h _; have := h.of_nil; subst this; exact Fo.nil _ _
  | cons n a ih =>
    intro k h hσ
    obtain ⟨k', rfl, ⟨h1, _, h3⟩ | ⟨h1, h2, c, rfl, r, hr, h4⟩⟩ := h.cons_inv
    · rw [subL_cons_var _ h1, Nat.add_comm]
      exact (hσ n (by simp) h1).fo.append (ih _ h3 fun x hx => hσ x (by simp [hx]))
    · rw [subL_cons_app _ h1]
      exact Fo.cons_app (by omega) hr (ih _ h4 fun x hx => hσ x (by simp [hx]))
theorem IsT.sub {s : Sg} {q q' : Int} {σ : Int → List Int} {a : List Int} (h : IsT s q a) (hσ : ∀ n ∈ a, n < 0 → IsT s q' (σ n)) : IsT s q' (subL σ a) := (Fo.sub a 1 h.fo hσ).one

theorem matL_sound {s : Sg} {q : Int} : ∀ (a : List Int) (k : Nat) (b : List Int) (m m' : MM), Fo s q k a → Fo s q k b → matL s a b m = some m' →
    (∀ n l, m n = some l → m' n = some l) ∧ (∀ n ∈ a, n < 0 → ∃ l, m' n = some l) ∧ subL (fun n => (m' n).getD []) a = b ∧
    (∀ n l, m' n = some l → m n = some l ∨ (n ∈ a ∧ n < 0 ∧ IsT s q l)) := by
  intro a
  induction a with
  | nil =>
    intro k b m m' ha hb h
    have hk := ha.of_nil
    subst hk
    have hb0 := hb.zero
    subst hb0
    rw [matL_nil] at h
    cases h
    exact ⟨fun _ _ h => h, by simp, rfl, fun _ _ h => Or.inl h⟩
  | cons n a ih =>
    intro k b m m' ha hb h
    obtain ⟨k', rfl, ⟨h1, _, h3⟩ | ⟨h1, h2, c0, hc0, r, hr, h4⟩⟩ := ha.cons_inv
    · obtain ⟨p, u, rfl, hp, hu⟩ := hb.split
      rw [matL_var h1 _ hp] at h
      cases hm : m n with
      | none =>
        rw [hm] at h
        obtain ⟨e1, e2, e3, e4⟩ := ih k' u _ m' h3 hu h
        have hn : m' n = some p := e1 n p (by simp [updM])
        refine ⟨fun x l hx => e1 x l ?_, fun x hx hx0 => ?_, ?_, fun x l hx => ?_⟩
        · unfold updM
          split
          · rename_i e; subst e; rw [hm] at hx; cases hx
          · exact hx
        · rcases List.mem_cons.1 hx with rfl | hx
          · exact ⟨p, hn⟩
          · exact e2 x hx hx0
        · rw [subL_cons_var _ h1, e3, hn]; rfl
        · rcases e4 x l hx with h5 | ⟨h5, h6, h7⟩
          · unfold updM at h5
            split at h5
            · rename_i e; subst e; cases h5; exact Or.inr ⟨by simp, h1, hp⟩
            · exact Or.inl h5
          · exact Or.inr ⟨by simp [h5], h6, h7⟩
      | some l0 =>
        rw [hm] at h
        simp only at h
        split at h
        · rename_i e
          subst e
          obtain ⟨e1, e2, e3, e4⟩ := ih k' u _ m' h3 hu h
          have hn := e1 n l0 hm
          refine ⟨e1, fun x hx hx0 => ?_, ?_, fun x l hx => ?_⟩
          · rcases List.mem_cons.1 hx with rfl | hx
            · exact ⟨l0, hn⟩
            · exact e2 x hx hx0
          · rw [subL_cons_var _ h1, e3, hn]; rfl
          · rcases e4 x l hx with h5 | ⟨h5, h6, h7⟩
            · exact Or.inl h5
            · exact Or.inr ⟨by simp [h5], h6, h7⟩
        · cases h
    · cases b with
      | nil => have := hb.of_nil; omega
      | cons c b =>
        rw [matL_app h1] at h
        split at h
        · rename_i hcn
          subst hcn
          obtain ⟨k2, hk2, h5 | ⟨_, _, _, _, r2, hr2, h6⟩⟩ := hb.cons_inv
          · omega
          · have : r2 = r := by rw [hr2] at hr; omega
            subst this
            have : k2 = k' := by omega
            subst this
            obtain ⟨e1, e2, e3, e4⟩ := ih _ b m m' h4 h6 h
            refine ⟨e1, fun x hx hx0 => ?_, ?_, fun x l hx => ?_⟩
            · rcases List.mem_cons.1 hx with rfl | hx
              · omega
              · exact e2 x hx hx0
            · rw [subL_cons_app _ h1, e3]
            · rcases e4 x l hx with h5 | ⟨h5, h6, h7⟩
              · exact Or.inl h5
              · exact Or.inr ⟨by simp [h5], h6, h7⟩
        · cases h
theorem matL_complete {s : Sg} {q q' : Int} {σ : Int → List Int} : ∀ (a : List Int) (k : Nat) (m : MM), Fo s q k a → (∀ n ∈ a, n < 0 → IsT s q' (σ n)) → (∀ n l, m n = some l → l = σ n) →
    ∃ m', matL s a (subL σ a) m = some m' ∧ ∀ n l, m' n = some l → l = σ n := by
  intro a
  induction a with
  | nil => intro k m _ _ hm; exact ⟨m, matL_nil _ _ _, hm⟩
  | cons n a ih =>
    intro k m ha hσ hm
    obtain ⟨k', rfl, ⟨h1, _, h3⟩ | ⟨h1, h2, c0, hc0, r, hr, h4⟩⟩ := ha.cons_inv
    · rw [subL_cons_var _ h1, matL_var h1 _ (hσ n (by simp) h1)]
      cases hmn : m n with
      | none =>
        refine ih k' _ h3 (fun x hx => hσ x (by simp [hx])) fun x l hx => ?_
        unfold updM at hx
        split at hx
        · rename_i e; subst e; cases hx; rfl
        · exact hm x l hx
      | some l =>
        simp only
        rw [if_pos (hm n l hmn)]
        exact ih k' m h3 (fun x hx => hσ x (by simp [hx])) hm
    · rw [subL_cons_app _ h1, matL_app h1, if_pos rfl]
      exact ih _ m h4 (fun x hx => hσ x (by simp [hx])) hm

/-- b is an instance of a. -/
def Inst (s : Sg) (q : Int) (a b : List Int) : Prop := ∃ σ : Int → List Int, (∀ n ∈ a, n < 0 → IsT s q (σ n)) ∧ subL σ a = b
def noM : MM := fun _ => none
theorem inst_iff {s : Sg} {q : Int} {a b : List Int} (ha : IsT s q a) (hb : IsT s q b) : (matL s a b noM).isSome = true ↔ Inst s q a b := by
  constructor
  · intro h
    obtain ⟨m', hm⟩ := Option.isSome_iff_exists.1 h
    obtain ⟨_, h2, h3, h4⟩ := matL_sound a 1 b _ m' ha.fo hb.fo hm
    refine ⟨fun n => (m' n).getD [], fun n hn hn0 => ?_, h3⟩
    obtain ⟨l, hl⟩ := h2 n hn hn0
    rcases h4 n l hl with h5 | ⟨_, _, h6⟩
    · cases h5
    · simpa [hl] using h6
  · rintro ⟨σ, h1, rfl⟩
    obtain ⟨m', h2, _⟩ := matL_complete (q' := q) a 1 noM ha.fo h1 (fun n l h => by cases h)
    rw [h2]; rfl
theorem subL_id (a : List Int) : subL (fun n => [n]) a = a := by
  induction a with
  | nil => rfl
  | cons n a ih =>
    by_cases hn : n < 0
    · rw [subL_cons_var _ hn, ih]; rfl
    · rw [subL_cons_app _ (by omega), ih]
theorem Fo.vars {s : Sg} {q : Int} {k : Nat} {l : List Int} (h : Fo s q k l) : ∀ n ∈ l, n < 0 → -q ≤ n := by
  obtain ⟨ars, _, rfl, h3⟩ := h
  intro n hn hn0
  obtain ⟨a, ha, hna⟩ := List.mem_flatten.1 hn
  rcases (h3 a ha).range n hna with h4 | h4 <;> omega
theorem IsT.vars {s : Sg} {q : Int} {l : List Int} (h : IsT s q l) : ∀ n ∈ l, n < 0 → -q ≤ n := h.fo.vars
theorem Inst.refl {s : Sg} {q : Int} {a : List Int} (ha : IsT s q a) : Inst s q a a := ⟨fun n => [n], fun n hn hn0 => .var n (ha.vars n hn hn0) hn0, subL_id a⟩
theorem subL_comp (σ τ : Int → List Int) (a : List Int) : subL τ (subL σ a) = subL (fun n => subL τ (σ n)) a := by
  induction a with
  | nil => rfl
  | cons n a ih =>
    by_cases hn : n < 0
    · rw [subL_cons_var _ hn, subL_append, ih, subL_cons_var _ hn]
    · rw [subL_cons_app _ (by omega), subL_cons_app _ (by omega), ih, subL_cons_app _ (by omega)]
theorem mem_subL {σ : Int → List Int} {a : List Int} {x n : Int} (hn : n ∈ a) (hn0 : n < 0) (hx : x ∈ σ n) : x ∈ subL σ a := by
  unfold subL
  exact List.mem_flatMap.2 ⟨n, hn, by simpa [hn0] using hx⟩
theorem Inst.trans {s : Sg} {q : Int} {a b c : List Int} (h : Inst s q a b) (h' : Inst s q b c) : Inst s q a c := by
  obtain ⟨σ, h1, rfl⟩ := h
  obtain ⟨τ, h2, rfl⟩ := h'
  refine ⟨fun n => subL τ (σ n), fun n hn hn0 => (h1 n hn hn0).sub fun x hx hx0 => h2 x (mem_subL hn hn0 hx) hx0, (subL_comp σ τ a).symm⟩
end Go.Proofs.YtmpjaakkjhmpmaaGreatDoor
namespace Go.Proofs.YtmpjaakkjhmpmaaGreatDoor

/-- the variables that come, in the order in which they come, behind those met. -/
def varsF : List Int → List Int → List Int
  | vs, [] => vs
  | vs, n :: r => if n < 0 ∧ n ∉ vs then varsF (vs ++ [n]) r else varsF vs r
def numV (vs : List Int) (n : Int) : Int := if n < 0 then -(vs.idxOf n : Int) - 1 else n
def canonL (t : List Int) : List Int := t.map (numV (varsF [] t))
theorem varsF_append (vs a b : List Int) : varsF vs (a ++ b) = varsF (varsF vs a) b := by
  induction a generalizing vs with
  | nil => rfl
  | cons n a ih => simp only [List.cons_append, varsF]; split <;> exact ih _
theorem varsF_prefix : ∀ (a vs : List Int), ∃ r, varsF vs a = vs ++ r
  | [], vs => ⟨[], by simp [varsF]⟩
  | n :: a, vs => by
    unfold varsF
    split
    · obtain ⟨r, h⟩ := varsF_prefix a (vs ++ [n])
      exact ⟨n :: r, by rw [h]; simp⟩
    · exact varsF_prefix a vs
theorem varsF_mem : ∀ (a vs : List Int) (x : Int), x ∈ varsF vs a ↔ x ∈ vs ∨ (x ∈ a ∧ x < 0)
  | [], vs, x => by simp [varsF]
  | n :: a, vs, x => by
    unfold varsF
    split
    · rename_i h
      rw [varsF_mem a]
      simp only [List.mem_append, List.mem_cons, List.not_mem_nil, or_false]
      constructor
      · rintro ((h1 | rfl) | h1)
        · exact Or.inl h1
        · exact Or.inr ⟨Or.inl rfl, h.1⟩
        · exact Or.inr ⟨Or.inr h1.1, h1.2⟩
      · rintro (h1 | ⟨rfl | h1, h2⟩)
        · exact Or.inl (Or.inl h1)
        · exact Or.inl (Or.inr rfl)
        · exact Or.inr ⟨h1, h2⟩
    · rename_i h
      rw [varsF_mem a]
      simp only [List.mem_cons]
      constructor
      · rintro (h1 | h1)
        · exact Or.inl h1
        · exact Or.inr ⟨Or.inr h1.1, h1.2⟩
      · rintro (h1 | ⟨rfl | h1, h2⟩)
        · exact Or.inl h1
        · left
          by_cases hx : x ∈ vs
          · exact hx
          · exact absurd ⟨h2, hx⟩ h
        · exact Or.inr ⟨h1, h2⟩
theorem varsF_nodup : ∀ (a vs : List Int), vs.Nodup → (varsF vs a).Nodup
  | [], vs, h => h
  | n :: a, vs, h => by
    unfold varsF
    split
    · rename_i h1
      refine varsF_nodup a _ ?_
      rw [List.nodup_append]
      refine ⟨h, by simp, ?_⟩
      intro x hx y hy
      simp at hy
      subst hy
      intro e
      subst e
      exact h1.2 hx
    · exact varsF_nodup a vs h
theorem numV_stable {vs : List Int} {n : Int} (r : List Int) (h : n < 0 → n ∈ vs) : numV (vs ++ r) n = numV vs n := by
  unfold numV
  split
  · rename_i hn
    rw [List.idxOf_append, if_pos (h hn)]
  · rfl
/-- a number's name does not change while more comes. -/
theorem numV_stable' (vs a : List Int) {n : Int} (h : n < 0 → n ∈ vs) : numV (varsF vs a) n = numV vs n := by
  obtain ⟨r, hr⟩ := varsF_prefix a vs
  rw [hr, numV_stable r h]
theorem varsF_map {ρ : Int → Int} : ∀ (a vs : List Int), (∀ n ∈ a, n < 0 → ρ n < 0) → (∀ n ∈ a, 0 ≤ n → ρ n = n) → (∀ n ∈ vs ++ a, ∀ m ∈ vs ++ a, n < 0 → m < 0 → ρ n = ρ m → n = m) → (∀ n ∈ vs, n < 0) →
    varsF (vs.map ρ) (a.map ρ) = (varsF vs a).map ρ
  | [], vs, _, _, _, _ => rfl
  | n :: a, vs, h1, h2, h3, h4 => by
    simp only [List.map_cons, varsF]
    by_cases hn : n < 0
    · have hρ := h1 n (by simp) hn
      by_cases hv : n ∈ vs
      · have : ρ n ∈ vs.map ρ := List.mem_map.2 ⟨n, hv, rfl⟩
        rw [if_neg (by simp [this]), if_neg (by simp [hv])]
        exact varsF_map a vs (fun x hx => h1 x (by simp [hx])) (fun x hx => h2 x (by simp [hx])) (fun x hx y hy => h3 x (by simp at hx ⊢; rcases hx with h | h <;> simp [h]) y (by simp at hy ⊢; rcases hy with h | h <;> simp [h])) h4
      · have : ρ n ∉ vs.map ρ := by
          intro hm
          obtain ⟨m, hm1, hm2⟩ := List.mem_map.1 hm
          have := h3 m (by simp [hm1]) n (by simp) (h4 m hm1) hn hm2
          subst this
          exact hv hm1
        rw [if_pos ⟨hρ, this⟩, if_pos ⟨hn, hv⟩]
        have e : vs.map ρ ++ [ρ n] = (vs ++ [n]).map ρ := by simp
        rw [e]
        exact varsF_map a (vs ++ [n]) (fun x hx => h1 x (by simp [hx])) (fun x hx => h2 x (by simp [hx])) (fun x hx y hy => h3 x (by simpa using hx) y (by simpa using hy)) (fun x hx => by
          rcases List.mem_append.1 hx with hx | hx
          · exact h4 x hx
          · simp at hx; subst hx; exact hn)
    · have e := h2 n (by simp) (by omega)
      rw [if_neg (by simp [e]; omega), if_neg (by simp [hn])]
      exact varsF_map a vs (fun x hx => h1 x (by simp [hx])) (fun x hx => h2 x (by simp [hx])) (fun x hx y hy => h3 x (by simp at hx ⊢; rcases hx with h | h <;> simp [h]) y (by simp at hy ⊢; rcases hy with h | h <;> simp [h])) h4
theorem idxOf_map_inj {ρ : Int → Int} {n : Int} : ∀ (vs : List Int), (∀ m ∈ vs, ρ m = ρ n → m = n) → (vs.map ρ).idxOf (ρ n) = vs.idxOf n
  | [], _ => rfl
  | m :: vs, h => by
    simp only [List.map_cons, List.idxOf_cons]
    by_cases e : m = n
    · subst e; simp
    · have e' : ρ m ≠ ρ n := fun q => e (h m (by simp) q)
      rw [show (ρ m == ρ n) = false by simpa using e', show (m == n) = false by simpa using e]
      simp only [cond_false]
      rw [idxOf_map_inj vs fun x hx => h x (by simp [hx])]
/-- a term and what an injective renaming makes of it have one canonical form. -/
theorem canonL_map {ρ : Int → Int} {a : List Int} (h1 : ∀ n ∈ a, n < 0 → ρ n < 0) (h2 : ∀ n ∈ a, 0 ≤ n → ρ n = n) (h3 : ∀ n ∈ a, ∀ m ∈ a, n < 0 → m < 0 → ρ n = ρ m → n = m) : canonL (a.map ρ) = canonL a := by
  have hv := varsF_map (ρ := ρ) a [] h1 h2 (by simpa using h3) (by simp)
  rw [List.map_nil] at hv
  unfold canonL
  rw [hv, List.map_map]
  apply List.map_congr_left
  intro n hn
  unfold numV
  by_cases hn0 : n < 0
  · have hr := h1 n hn hn0
    simp only [Function.comp, if_pos hr, if_pos hn0]
    rw [idxOf_map_inj _ fun m hm e => ?_]
    have hm' := (varsF_mem a [] m).1 hm
    simp at hm'
    exact h3 m hm'.1 n hn hm'.2 hn0 e
  · have e := h2 n hn (by omega)
    simp [Function.comp, hn0, e]
theorem numV_neg {vs : List Int} {n : Int} : numV vs n < 0 ↔ n < 0 := by
  unfold numV
  split <;> omega
theorem numV_inj {vs : List Int} {n m : Int} (hn : n < 0) (hm : m < 0) (h1 : n ∈ vs) (h : numV vs n = numV vs m) : n = m := by
  unfold numV at h
  rw [if_pos hn, if_pos hm] at h
  have e : vs.idxOf n = vs.idxOf m := by omega
  have h2 := List.idxOf_lt_length_of_mem h1
  have h3 : vs.idxOf m < vs.length := by omega
  have e1 : vs[vs.idxOf n] = n := by simp
  have e2 : vs[vs.idxOf m] = m := by simp
  rw [← e1, ← e2]
  simp [e]
theorem canonL_len (t : List Int) : (canonL t).length = t.length := by simp [canonL]
theorem canonL_canon (a : List Int) : canonL (canonL a) = canonL a := by
  have : canonL a = a.map (numV (varsF [] a)) := rfl
  conv => lhs; rw [this]
  refine canonL_map (fun n _ h => numV_neg.2 h) (fun n _ h => by unfold numV; rw [if_neg (by omega)]) fun n hn m _ h1 h2 e => ?_
  exact numV_inj h1 h2 ((varsF_mem a [] n).2 (Or.inr ⟨hn, h1⟩)) e

/-- terms that are instances of each other are alike. -/
theorem subL_len {s : Sg} {q : Int} {σ : Int → List Int} : ∀ (a : List Int), (∀ n ∈ a, n < 0 → IsT s q (σ n)) → a.length ≤ (subL σ a).length ∧ ((subL σ a).length ≤ a.length → ∀ n ∈ a, n < 0 → (σ n).length = 1)
  | [], _ => by simp [subL]
  | n :: a, h => by
    have ⟨i1, i2⟩ := subL_len a fun x hx => h x (by simp [hx])
    by_cases hn : n < 0
    · have hp := (h n (by simp) hn).ne
      rw [subL_cons_var _ hn, List.length_append, List.length_cons]
      refine ⟨by omega, fun hle x hx hx0 => ?_⟩
      rcases List.mem_cons.1 hx with rfl | hx
      · omega
      · exact i2 (by omega) x hx hx0
    · rw [subL_cons_app _ (by omega), List.length_cons, List.length_cons]
      refine ⟨by omega, fun hle x hx hx0 => ?_⟩
      rcases List.mem_cons.1 hx with rfl | hx
      · omega
      · exact i2 (by omega) x hx hx0
theorem subL_fix {s : Sg} {q : Int} {σ : Int → List Int} : ∀ (a : List Int) , (∀ n ∈ a, n < 0 → (σ n).length = 1) → subL σ a = a → ∀ n ∈ a, n < 0 → σ n = [n]
  | [], _, _ => by simp
  | n :: a, h, e => by
    by_cases hn : n < 0
    · have h1 := h n (by simp) hn
      obtain ⟨x, hx⟩ := List.length_eq_one_iff.1 h1
      rw [subL_cons_var _ hn, hx] at e
      simp at e
      intro y hy hy0
      rcases List.mem_cons.1 hy with rfl | hy
      · rw [hx, e.1]
      · exact subL_fix (s := s) (q := q) a (fun x hx => h x (by simp [hx])) e.2 y hy hy0
    · rw [subL_cons_app _ (by omega)] at e
      simp at e
      intro y hy hy0
      rcases List.mem_cons.1 hy with rfl | hy
      · omega
      · exact subL_fix (s := s) (q := q) a (fun x hx => h x (by simp [hx])) e y hy hy0
theorem subL_one {σ : Int → List Int} (x : Int) : subL σ [x] = if x < 0 then σ x else [x] := by simp [subL]
theorem inst_alike {s : Sg} {q : Int} {a b : List Int} (h : Inst s q a b) (h' : Inst s q b a) : canonL a = canonL b := by
  obtain ⟨σ, h1, rfl⟩ := h
  obtain ⟨τ, h2, h3⟩ := h'
  have l1 := subL_len a h1
  have l2 := subL_len _ h2
  rw [h3] at l2
  have s1 := l1.2 l2.1
  have s2 := l2.2 l1.1
  have hc := subL_comp σ τ a
  rw [h3] at hc
  have ht : ∀ n ∈ a, n < 0 → (subL τ (σ n)).length = 1 := by
    intro n hn hn0
    obtain ⟨x, hx⟩ := List.length_eq_one_iff.1 (s1 n hn hn0)
    rw [hx, subL_one]
    split
    · rename_i hx0
      exact s2 x (mem_subL hn hn0 (by simp [hx])) hx0
    · rfl
  have hf := subL_fix (s := s) (q := q) a ht hc.symm
  -- the renaming
  let ρ : Int → Int := fun n => if n < 0 then (σ n).headD 0 else n
  have hρ : ∀ n ∈ a, n < 0 → σ n = [ρ n] := by
    intro n hn hn0
    obtain ⟨x, hx⟩ := List.length_eq_one_iff.1 (s1 n hn hn0)
    simp [ρ, hn0, hx]
  have hmap : subL σ a = a.map ρ := by
    have : ∀ (c : List Int), (∀ n ∈ c, n ∈ a) → subL σ c = c.map ρ := by
      intro c
      induction c with
      | nil => intro _; rfl
      | cons n c ih =>
        intro hc
        have ih' := ih fun x hx => hc x (by simp [hx])
        by_cases hn : n < 0
        · rw [subL_cons_var _ hn, ih', hρ n (hc n (by simp)) hn]; rfl
        · rw [subL_cons_app _ (by omega), ih', List.map_cons]
          have : ρ n = n := by simp [ρ, hn]
          rw [this]
    exact this a fun _ h => h
  rw [hmap]
  symm
  have hneg : ∀ n ∈ a, n < 0 → ρ n < 0 := by
    intro n hn hn0
    have e := hf n hn hn0
    rw [hρ n hn hn0, subL_one] at e
    split at e
    · assumption
    · simp at e; omega
  refine canonL_map hneg (fun n _ h => by simp [ρ]; omega) fun n hn m hm hn0 hm0 e => ?_
  have e1 := hf n hn hn0
  have e2 := hf m hm hm0
  rw [hρ n hn hn0] at e1
  rw [hρ m hm hm0, ← e, e1] at e2
  simpa using e2

/-- and back: terms of one canonical form are instances of each other. -/
theorem canon_inst {s : Sg} {q : Int} {a b : List Int} (hb : IsT s q b) (h : canonL a = canonL b) : Inst s q a b := by
  have hl : a.length = b.length := by have := congrArg List.length h; simpa [canonL_len] using this
  have hg : ∀ i (h1 : i < a.length) (h2 : i < b.length), numV (varsF [] a) a[i] = numV (varsF [] b) b[i] := by
    intro i h1 h2
    have e : (canonL a)[i]? = (canonL b)[i]? := by rw [h]
    simpa [canonL, h1, h2] using e
  refine ⟨fun n => [b.getD (a.idxOf n) 0], fun n hn hn0 => ?_, ?_⟩
  · have hi := List.idxOf_lt_length_of_mem hn
    have hib : a.idxOf n < b.length := by omega
    have e := hg _ hi hib
    have e1 : a[a.idxOf n] = n := by simp
    have hneg : b[a.idxOf n] < 0 := by
      rw [e1] at e
      exact numV_neg.1 (e ▸ numV_neg.2 hn0)
    have : b.getD (a.idxOf n) 0 = b[a.idxOf n] := by simp [List.getD, hib]
    show IsT s q [b.getD (a.idxOf n) 0]
    rw [this]
    exact .var _ (hb.vars _ (List.getElem_mem hib) hneg) hneg
  · have key : ∀ (k : Nat), k ≤ a.length → subL (fun n => [b.getD (a.idxOf n) 0]) (a.take k) = b.take k := by
      intro k
      induction k with
      | zero => intro _; simp [subL]
      | succ k ih =>
        intro hk
        have hka : k < a.length := by omega
        have hkb : k < b.length := by omega
        rw [List.take_succ_eq_append_getElem hka, List.take_succ_eq_append_getElem hkb, subL_append, ih (by omega), subL_one]
        congr 1
        have e := hg k hka hkb
        by_cases hn0 : a[k] < 0
        · rw [if_pos hn0]
          have hi := List.idxOf_lt_length_of_mem (List.getElem_mem hka)
          have hib : a.idxOf a[k] < b.length := by omega
          have e2 := hg _ hi hib
          rw [List.getElem_idxOf, e] at e2
          have hk0 : b[k] < 0 := numV_neg.1 (e ▸ numV_neg.2 hn0)
          have hj0 : b[a.idxOf a[k]] < 0 := numV_neg.1 (e2 ▸ numV_neg.2 hk0)
          have := numV_inj hk0 hj0 ((varsF_mem b [] _).2 (Or.inr ⟨List.getElem_mem hkb, hk0⟩)) e2
          simp [List.getD, hib, this]
        · rw [if_neg hn0]
          have : ¬ b[k] < 0 := fun hh => hn0 (numV_neg.1 (e.symm ▸ numV_neg.2 hh))
          unfold numV at e
          rw [if_neg hn0, if_neg this] at e
          rw [e]
    have := key a.length (Nat.le_refl _)
    rw [List.take_of_length_le (Nat.le_refl _), List.take_of_length_le (by omega)] at this
    exact this
theorem alike_iff {s : Sg} {q : Int} {a b : List Int} (ha : IsT s q a) (hb : IsT s q b) : canonL a = canonL b ↔ Inst s q a b ∧ Inst s q b a :=
  ⟨fun h => ⟨canon_inst hb h, canon_inst ha h.symm⟩, fun h => inst_alike h.1 h.2⟩
end Go.Proofs.YtmpjaakkjhmpmaaGreatDoor
namespace Go.Proofs.YtmpjaakkjhmpmaaGreatDoor

end Go.Proofs.YtmpjaakkjhmpmaaGreatDoor
namespace Go.Proofs.YtmpjaakkjhmpmaaGreatDoor
end Go.Proofs.YtmpjaakkjhmpmaaGreatDoor
