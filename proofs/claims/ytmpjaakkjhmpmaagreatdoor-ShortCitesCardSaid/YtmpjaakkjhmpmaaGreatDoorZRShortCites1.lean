/-
  WHAT IT HOLDS: plain functions on lists that say what the small functions of layers 1, 2 and 5 compute. No program in sight. No condition.
  WHAT IT HOLDS: the plain law that package term's way to find a term's end and the reference's count of terms that are wanted agree. No program in sight. Condition: a valid sign, a list of 1 to 60 numbers.
  WHAT IT HOLDS: plain facts on terms as lists: what a term is (IsT), where its parts end, that a valid list is a term, that lists of terms are cut in one way alone. No program in sight. Condition: a valid sign where it is said.
  WHAT IT HOLDS: terms in order: comparing by length and then by numbers is a strict order; a strictly ordered list is fixed by its members; putting in and taking doubles out. No program. No condition.
-/

namespace Go.Proofs.YtmpjaakkjhmpmaaGreatDoor

abbrev Sg := List (ByteArray × Int)

/-- a number lies in lo .. hi. -/
def inB (n lo hi : Int) : Bool := decide (lo ≤ n) && decide (n ≤ hi)
theorem inB_true {n lo hi : Int} : inB n lo hi = true ↔ lo ≤ n ∧ n ≤ hi := by simp [inB]
theorem inB_false {n lo hi : Int} : inB n lo hi = false ↔ n < lo ∨ hi < n := by
  unfold inB; simp [Bool.and_eq_false_iff]; constructor <;> omega

/-- a letter's byte. -/
def letB (c : UInt8) : Bool := inB c.toNat 97 122 || inB c.toNat 65 90
def nameB (s : ByteArray) : Bool := s.data.toList.all letB && inB s.size 1 8

/-- what the sign's check asks of the symbol i: its name, its arity, that no earlier one has its name. -/
def symB (s : Sg) (i : Nat) : Bool :=
  match s[i]? with
  | some x => nameB x.1 && inB x.2 0 3 && (s.take i).all (fun y => decide (y.1 ≠ x.1))
  | none => true
def signB (s : Sg) : Bool := inB s.length 1 12 && (match s[0]? with | some x => x.2 == 2 | none => false) && (List.range s.length).all (symB s)

/-- arity of a number: a variable's is 0. -/
def arOf (s : Sg) (n : Int) : Int := if n < 0 then 0 else match s[n.toNat]? with | some x => x.2 | none => 0

/-- from how many terms are wanted: the list is just these. -/
def needB (s : Sg) : List Int → Int → Bool
  | [], k => k == 0
  | x :: r, k => !(k == 0) && inB x (-12) (s.length - 1) && needB s r (k - 1 + arOf s x)
/-- a valid term. -/
def termB (s : Sg) (t : List Int) : Bool := signB s && inB t.length 1 60 && needB s t 1
def allB (s : Sg) (l : List (List Int)) : Bool := l.all (termB s)

/-- arity as package term has it: -1 for a number that is none. -/
def arP (s : Sg) (n : Int) : Int := if inB n (-12) (-1) then 0 else if inB n 0 (s.length - 1) then arOf s n else -1
def endIter (f : Int → Int × Int) : Nat → Int × Int → Int × Int
  | 0, p => p
  | k + 1, p => ((f (endIter f k p).1).1, max (endIter f k p).2 (f (endIter f k p).1).2)
/-- where the term that begins at an index ends, and its depth. -/
def endR (s : Sg) (t : List Int) : Nat → Int → Int × Int
  | 0, _ => (-1, 0)
  | f + 1, i => if i < 0 ∨ (t.length : Int) ≤ i then (-1, 0) else
      match t[i.toNat]? with
      | none => (-1, 0)
      | some x => if arP s x < 0 then (-1, 0) else ((endIter (endR s t f) (arP s x).toNat (i + 1, 0)).1, (endIter (endR s t f) (arP s x).toNat (i + 1, 0)).2 + 1)

theorem endR_out {s : Sg} {t : List Int} {f : Nat} {i : Int} (h : i < 0 ∨ (t.length : Int) ≤ i) : endR s t f i = (-1, 0) := by
  cases f with
  | zero => rfl
  | succ f => unfold endR; rw [if_pos h]
def EndOK (s : Sg) (t : List Int) (f : Nat) : Prop := ∀ i : Int, ((endR s t f i).1 = -1 ∨ (i < (endR s t f i).1 ∧ (endR s t f i).1 ≤ t.length)) ∧ 0 ≤ (endR s t f i).2 ∧ (endR s t f i).2 ≤ f
theorem endIter_bounds {s : Sg} {t : List Int} {f : Nat} (ih : EndOK s t f) {i : Int} (h0 : 0 ≤ i) (h1 : i < t.length) (k : Nat) :
    ((endIter (endR s t f) k (i + 1, 0)).1 = -1 ∨ (i < (endIter (endR s t f) k (i + 1, 0)).1 ∧ (endIter (endR s t f) k (i + 1, 0)).1 ≤ t.length)) ∧ 0 ≤ (endIter (endR s t f) k (i + 1, 0)).2 ∧ (endIter (endR s t f) k (i + 1, 0)).2 ≤ f := by
  induction k with
  | zero => simp [endIter]; omega
  | succ k ihk =>
    obtain ⟨h3, h4, h5⟩ := ihk
    simp only [endIter]
    have h6 := ih (endIter (endR s t f) k (i + 1, 0)).1
    refine ⟨?_, by omega, by omega⟩
    rcases h3 with h3 | h3
    · left
      rw [h3, endR_out (Or.inl (by omega))]
    · rcases h6.1 with h7 | h7
      · left; exact h7
      · right; omega
theorem endR_bounds (s : Sg) (t : List Int) : ∀ (f : Nat), EndOK s t f := by
  intro f
  induction f with
  | zero => intro i; simp [endR]
  | succ f ih =>
    intro i
    unfold endR
    split
    · simp; omega
    · split
      · simp; omega
      · split
        · simp; omega
        · rename_i h1 _ x hx h2
          have := endIter_bounds ih (i := i) (by omega) (by omega) (arP s x).toNat
          simp only
          omega

end Go.Proofs.YtmpjaakkjhmpmaaGreatDoor
namespace Go.Proofs.YtmpjaakkjhmpmaaGreatDoor

theorem signB_ar' {s : Sg} (h : signB s = true) (n : Int) : 0 ≤ arOf s n ∧ arOf s n ≤ 3 := by
  unfold signB at h
  simp only [Bool.and_eq_true] at h
  have h3 := h.2
  rw [List.all_eq_true] at h3
  unfold arOf
  split
  · omega
  · split
    · rename_i x hx
      have hlt : n.toNat < s.length := (List.getElem?_eq_some_iff.1 hx).1
      have := h3 n.toNat (by simpa using hlt)
      unfold symB at this
      rw [hx] at this
      simp only [Bool.and_eq_true] at this
      exact inB_true.1 this.1.2
    · omega

def itI (g : Int → Int) : Nat → Int → Int
  | 0, i => i
  | k + 1, i => g (itI g k i)
theorem itI_front (g : Int → Int) (k : Nat) : ∀ i, itI g (k + 1) i = itI g k (g i) := by
  induction k with
  | zero => intro i; rfl
  | succ k ih => intro i; rw [itI, ih]; rfl
theorem itI_add (g : Int → Int) (a b : Nat) : ∀ i, itI g (a + b) i = itI g b (itI g a i) := by
  intro i
  induction b with
  | zero => rfl
  | succ b ih => rw [← Nat.add_assoc]; simp only [itI]; rw [ih]
theorem endIter_fst (F : Int → Int × Int) (k : Nat) (p : Int × Int) : (endIter F k p).1 = itI (fun i => (F i).1) k p.1 := by
  induction k with
  | zero => rfl
  | succ k ih => simp only [endIter, itI, ih]

def nx (s : Sg) (t : List Int) (f : Nat) (i : Int) : Int := (endR s t f i).1
theorem nx_out {s : Sg} {t : List Int} {f : Nat} {i : Int} (h : i < 0 ∨ (t.length : Int) ≤ i) : nx s t f i = -1 := by unfold nx; rw [endR_out h]
theorem nx_in {s : Sg} {t : List Int} {f k : Nat} (h : k < t.length) : nx s t (f + 1) k = if arP s t[k] < 0 then -1 else itI (nx s t f) (arP s t[k]).toNat (k + 1) := by
  unfold nx
  conv => lhs; unfold endR
  rw [if_neg (by omega)]
  simp only [Int.toNat_natCast, List.getElem?_eq_getElem h]
  split
  · rfl
  · rw [endIter_fst]
theorem itI_path {s : Sg} {t : List Int} {f : Nat} {i : Int} (h0 : 0 ≤ i) (h1 : i < t.length) (k : Nat) : itI (nx s t f) k (i + 1) = -1 ∨ (i < itI (nx s t f) k (i + 1) ∧ itI (nx s t f) k (i + 1) ≤ t.length) := by
  have := (endIter_bounds (endR_bounds s t f) h0 h1 k).1
  rw [endIter_fst] at this
  exact this

theorem nx_fuel (s : Sg) (t : List Int) : ∀ (f f' : Nat) (i : Int), 1 ≤ f → 1 ≤ f' → (i < 0 ∨ (t.length : Int) - i < f) → (i < 0 ∨ (t.length : Int) - i < f') → nx s t f i = nx s t f' i := by
  intro f
  induction f with
  | zero => intro f' i h; omega
  | succ f ih =>
    intro f' i _ h2 h3 h4
    by_cases hout : i < 0 ∨ (t.length : Int) ≤ i
    · rw [nx_out hout, nx_out hout]
    · obtain ⟨k, rfl⟩ := Int.eq_ofNat_of_zero_le (show 0 ≤ i by omega)
      have hk : k < t.length := by omega
      obtain ⟨f'', rfl⟩ : ∃ f'', f' = f'' + 1 := ⟨f' - 1, by omega⟩
      rw [nx_in hk, nx_in hk]
      split
      · rfl
      · have key : ∀ j, itI (nx s t f) j (k + 1) = itI (nx s t f'') j (k + 1) := by
          intro j
          induction j with
          | zero => rfl
          | succ j ihj =>
            simp only [itI]
            rw [← ihj]
            rcases itI_path (s := s) (t := t) (f := f) (i := k) (by omega) (by omega) j with h | h
            · rw [h, nx_out (Or.inl (by omega)), nx_out (Or.inl (by omega))]
            · exact ih f'' _ (by omega) (by omega) (by omega) (by omega)
        exact key _

theorem itI_m1 (s : Sg) (t : List Int) (f k : Nat) : itI (nx s t f) k (-1) = -1 := by
  induction k with
  | zero => rfl
  | succ k ih => simp only [itI, ih]; exact nx_out (Or.inl (by omega))

theorem nx_100 (s : Sg) (t : List Int) (i : Nat) (hlt : i < t.length) (hl : t.length ≤ 60) (j : Nat) : nx s t 100 (itI (nx s t 100) j (i + 1)) = nx s t 101 (itI (nx s t 100) j (i + 1)) := by
  rcases itI_path (s := s) (t := t) (f := 100) (i := i) (by omega) (by omega) j with h | h
  · rw [h, nx_out (Or.inl (by omega)), nx_out (Or.inl (by omega))]
  · generalize itI (nx s t 100) j (i + 1) = q at *
    refine nx_fuel s t 100 101 q (by omega) (by omega) (Or.inr ?_) (Or.inr ?_) <;> omega

theorem need_end {s : Sg} (hs : signB s = true) (t : List Int) (hl : t.length ≤ 60) : ∀ (m i k : Nat), i ≤ t.length → m = t.length - i → needB s (t.drop i) k = (itI (nx s t 101) k i == (t.length : Int)) := by
  intro m
  induction m with
  | zero =>
    intro i k hi hm
    rw [List.drop_of_length_le (by omega)]
    have : i = t.length := by omega
    subst this
    cases k with
    | zero => simp [needB, itI]
    | succ k =>
      rw [itI_front, nx_out (Or.inr (by omega)), itI_m1]
      simp [needB]
      rw [Bool.eq_iff_iff]; simp; omega
  | succ m ih =>
    intro i k hi hm
    have hlt : i < t.length := by omega
    rw [List.drop_eq_getElem_cons hlt]
    cases k with
    | zero =>
      simp only [needB, itI]
      rw [Bool.eq_iff_iff]; simp; omega
    | succ k =>
      have h0 : ((↑(k + 1) : Int) == 0) = false := by simp; omega
      simp only [needB, h0, Bool.not_false, Bool.true_and]
      rw [itI_front]
      have hnx := nx_in (s := s) (f := 100) hlt
      cases hx : inB t[i] (-12) (s.length - 1)
      · have har : arP s t[i] = -1 := by
          have := inB_false.1 hx
          unfold arP
          rw [inB_false.2 (by omega)]
          have h2 : inB t[i] 0 (s.length - 1) = false ∨ s.length = 0 := by
            by_cases hs0 : s.length = 0
            · right; exact hs0
            · left; exact inB_false.2 (by omega)
          rcases h2 with h2 | h2
          · rw [h2]; simp
          · rw [inB_false.2 (by omega)]; simp
        rw [hnx, har]
        simp only [show (-1 : Int) < 0 by omega, if_true]
        rw [itI_m1, Bool.false_and]
        symm; rw [beq_eq_false_iff_ne]; omega
      · have hb := inB_true.1 hx
        have har : arP s t[i] = arOf s t[i] := by
          unfold arP
          by_cases hneg : t[i] < 0
          · rw [inB_true.2 (by omega)]
            simp [arOf, hneg]
          · rw [inB_false.2 (by omega), inB_true.2 (by omega)]; simp
        have hb2 := signB_ar' hs t[i]
        rw [hnx, har, if_neg (by omega)]
        obtain ⟨n, hn⟩ := Int.eq_ofNat_of_zero_le hb2.1
        have hfu : ∀ j, itI (nx s t 100) j (i + 1) = itI (nx s t 101) j (i + 1) := by
          intro j
          induction j with
          | zero => simp only [itI]
          | succ j ihj =>
            simp only [itI]
            rw [← ihj]
            exact nx_100 s t i hlt (by omega) j
        rw [hn, Int.toNat_natCast, hfu, ← itI_add]
        rw [show ((↑(k + 1) : Int) - 1 + ↑n) = ((n + k : Nat) : Int) by omega]
        have := ih (i + 1) (n + k) (by omega) (by omega)
        rw [this]
        simp

theorem end_need (s : Sg) (t : List Int) (h1 : signB s = true) (h2 : inB t.length 1 60 = true) : ((endR s t 101 0).1 == (t.length : Int)) = needB s t 1 := by
  have hb := inB_true.1 h2
  have := need_end h1 t (by omega) t.length 0 1 (by omega) (by omega)
  rw [List.drop_zero] at this
  simp only [itI, nx] at this
  exact this.symm

end Go.Proofs.YtmpjaakkjhmpmaaGreatDoor
namespace Go.Proofs.YtmpjaakkjhmpmaaGreatDoor

/-- a term over a sign; its variables are the numbers below 0, down to -m. -/
inductive IsT (s : Sg) (m : Int) : List Int → Prop
  | var (n : Int) : -m ≤ n → n < 0 → IsT s m [n]
  | app (c : Nat) (ars : List (List Int)) : c < s.length → (ars.length : Int) = arOf s c → (∀ a ∈ ars, IsT s m a) → IsT s m ((c : Int) :: ars.flatten)

theorem IsT.ne {s : Sg} {m : Int} {t : List Int} (h : IsT s m t) : 0 < t.length := by cases h <;> simp
theorem IsT.nonempty {s : Sg} {m : Int} {t : List Int} (h : IsT s m t) : t ≠ [] := by cases h <;> simp
theorem IsT.mono {s : Sg} {m m' : Int} (hm : m ≤ m') {t : List Int} (h : IsT s m t) : IsT s m' t := by
  induction h with
  | var n h1 h2 => exact .var n (by omega) h2
  | app c ars h1 h2 _ ih => exact .app c ars h1 h2 ih
theorem IsT.range {s : Sg} {m : Int} {t : List Int} (h : IsT s m t) : ∀ x ∈ t, -m ≤ x ∧ x < s.length ∨ (0 ≤ x ∧ x < s.length) := by
  induction h with
  | var n h1 h2 => intro x hx; simp at hx; subst hx; left; omega
  | app c ars h1 h2 _ ih =>
    intro x hx
    rcases List.mem_cons.1 hx with rfl | hx
    · right; omega
    · obtain ⟨a, ha, hxa⟩ := List.mem_flatten.1 hx
      exact ih a ha x hxa

/-- of a list: how many numbers the first k terms of it have. -/
def pLen (s : Sg) : List Int → Nat → Nat
  | [], _ => 0
  | _ :: _, 0 => 0
  | x :: r, k + 1 => 1 + pLen s r (k + (arOf s x).toNat)
theorem pLen_zero (s : Sg) (l : List Int) : pLen s l 0 = 0 := by cases l <;> rfl
theorem pLen_T {s : Sg} {m : Int} {t : List Int} (h : IsT s m t) : ∀ (r : List Int) (k : Nat), pLen s (t ++ r) (k + 1) = t.length + pLen s r k := by
  induction h with
  | var n h1 h2 =>
    intro r k
    simp only [List.singleton_append, pLen]
    have : arOf s n = 0 := by simp [arOf, h2]
    rw [this]; rfl
  | app c ars h1 h2 h3 ih =>
    intro r k
    simp only [List.cons_append, pLen]
    have key : ∀ (bs : List (List Int)), (∀ a ∈ bs, a ∈ ars) → pLen s (bs.flatten ++ r) (k + bs.length) = bs.flatten.length + pLen s r k := by
      intro bs
      induction bs with
      | nil => intro _; simp
      | cons b bs ihb =>
        intro hb
        have e1 := ih b (hb b (by simp)) (bs.flatten ++ r) (k + bs.length)
        have e2 := ihb (fun a ha => hb a (by simp [ha]))
        rw [show k + (b :: bs).length = k + bs.length + 1 by simp; omega]
        simp only [List.flatten_cons, List.append_assoc, List.length_append]
        rw [e1, e2]; omega
    have e := key ars (fun a h => h)
    rw [← h2]
    simp only [Int.toNat_natCast, List.length_cons]
    rw [e]; omega
theorem pLen_T1 {s : Sg} {m : Int} {t : List Int} (h : IsT s m t) (r : List Int) : pLen s (t ++ r) 1 = t.length := by
  have := pLen_T h r 0
  rw [pLen_zero] at this
  simpa using this

/-- lists of terms are cut in one way alone. -/
theorem cut_unique {s : Sg} {m : Int} : ∀ (ars bs : List (List Int)) (r r' : List Int), (∀ a ∈ ars, IsT s m a) → (∀ b ∈ bs, IsT s m b) → ars.length = bs.length → ars.flatten ++ r = bs.flatten ++ r' → ars = bs ∧ r = r' := by
  intro ars
  induction ars with
  | nil => intro bs r r' _ _ hl he; cases bs with
    | nil => simpa using he
    | cons => simp at hl
  | cons a ars ih =>
    intro bs r r' ha hb hl he
    cases bs with
    | nil => simp at hl
    | cons b bs =>
      simp only [List.flatten_cons, List.append_assoc] at he
      have h1 := pLen_T1 (ha a (by simp)) (ars.flatten ++ r)
      have h2 := pLen_T1 (hb b (by simp)) (bs.flatten ++ r')
      rw [he, h2] at h1
      have hab : a = b := by
        have := congrArg (List.take a.length) he
        rw [List.take_left, ← h1, List.take_left] at this
        exact this
      subst hab
      have he' := List.append_cancel_left he
      obtain ⟨h3, h4⟩ := ih bs r r' (fun x hx => ha x (by simp [hx])) (fun x hx => hb x (by simp [hx])) (by simpa using hl) he'
      exact ⟨by rw [h3], h4⟩
theorem app_unique {s : Sg} {m : Int} {c : Nat} {ars bs : List (List Int)} (ha : ∀ a ∈ ars, IsT s m a) (hb : ∀ b ∈ bs, IsT s m b) (hl : ars.length = bs.length) (he : (c : Int) :: ars.flatten = (c : Int) :: bs.flatten) : ars = bs := by
  have := (List.cons.inj he).2
  exact (cut_unique ars bs [] [] ha hb hl (by simpa using this)).1

/-- a list of which k terms are wanted and that is just these, is k terms. -/
theorem need_terms {s : Sg} (hs : signB s = true) : ∀ (n : Nat) (t : List Int) (k : Nat), t.length = n → needB s t k = true → ∃ ars : List (List Int), ars.length = k ∧ t = ars.flatten ∧ ∀ a ∈ ars, IsT s 12 a := by
  intro n
  induction n using Nat.strongRecOn with
  | ind n ih =>
    intro t k hn h
    cases t with
    | nil =>
      simp [needB] at h
      have : k = 0 := by omega
      subst this
      exact ⟨[], rfl, rfl, by simp⟩
    | cons x r =>
      simp only [needB, Bool.and_eq_true, Bool.not_eq_true'] at h
      obtain ⟨⟨hk, hx⟩, hr⟩ := h
      have hk0 : k ≠ 0 := by intro e; subst e; simp at hk
      obtain ⟨k, rfl⟩ : ∃ q, k = q + 1 := ⟨k - 1, by omega⟩
      have hxb := inB_true.1 hx
      have har := signB_ar' hs x
      obtain ⟨q, hq⟩ := Int.eq_ofNat_of_zero_le har.1
      rw [hq, show ((↑(k + 1) : Int) - 1 + ↑q) = ((q + k : Nat) : Int) by omega] at hr
      obtain ⟨cs, hcl, hcf, hct⟩ := ih r.length (by simp at hn; omega) r (q + k) rfl hr
      by_cases hneg : x < 0
      · have hq0 : q = 0 := by have : arOf s x = 0 := by simp [arOf, hneg]
                               omega
        subst hq0
        refine ⟨[x] :: cs, by simp; omega, by simp [hcf], ?_⟩
        intro a ha
        rcases List.mem_cons.1 ha with rfl | ha
        · exact .var x (by omega) hneg
        · exact hct a ha
      · obtain ⟨c, rfl⟩ := Int.eq_ofNat_of_zero_le (show 0 ≤ x by omega)
        refine ⟨((c : Int) :: (cs.take q).flatten) :: cs.drop q, by simp; omega, ?_, ?_⟩
        · simp only [List.flatten_cons, List.cons_append]
          rw [← List.flatten_append, List.take_append_drop, hcf]
        · intro a ha
          rcases List.mem_cons.1 ha with rfl | ha
          · refine .app c _ (by omega) ?_ (fun b hb => hct b (List.mem_of_mem_take hb))
            rw [hq]; simp; omega
          · exact hct a (List.mem_of_mem_drop ha)
theorem termB_T {s : Sg} {t : List Int} (h : termB s t = true) : IsT s 12 t := by
  unfold termB at h
  simp only [Bool.and_eq_true] at h
  obtain ⟨ars, hl, he, ht⟩ := need_terms h.1.1 t.length t 1 rfl h.2
  match ars, hl with
  | [a], _ => simp at he; rw [he]; exact ht a (by simp)
/-- and back. -/
theorem T_need {s : Sg} {t : List Int} (h : IsT s 12 t) : ∀ (r : List Int) (k : Nat), needB s (t ++ r) ((k + 1 : Nat) : Int) = needB s r k := by
  induction h with
  | var n h1 h2 =>
    intro r k
    simp only [List.singleton_append, needB]
    have : arOf s n = 0 := by simp [arOf, h2]
    rw [this, inB_true.2 (by omega)]
    have h0 : ((↑(k + 1) : Int) == 0) = false := by simp; omega
    rw [h0]
    simp
  | app c ars h1 h2 h3 ih =>
    intro r k
    simp only [List.cons_append, needB]
    have h0 : ((↑(k + 1) : Int) == 0) = false := by simp; omega
    rw [h0, inB_true.2 (by omega), ← h2]
    have key : ∀ (bs : List (List Int)), (∀ a ∈ bs, a ∈ ars) → needB s (bs.flatten ++ r) ((bs.length + k : Nat) : Int) = needB s r k := by
      intro bs
      induction bs with
      | nil => intro _; simp
      | cons b bs ihb =>
        intro hb
        have e1 := ih b (hb b (by simp)) (bs.flatten ++ r) (bs.length + k)
        have e2 := ihb (fun a ha => hb a (by simp [ha]))
        rw [show (b :: bs).length + k = bs.length + k + 1 by simp; omega]
        simp only [List.flatten_cons, List.append_assoc]
        rw [e1, e2]
    have e := key ars (fun a h => h)
    rw [show ((↑(k + 1) : Int) - 1 + ↑ars.length) = ((ars.length + k : Nat) : Int) by omega, e]
    rfl
theorem T_termB {s : Sg} {t : List Int} (hs : signB s = true) (h : IsT s 12 t) (hl : t.length ≤ 60) : termB s t = true := by
  unfold termB
  have h1 := h.ne
  have := T_need h [] 0
  rw [List.append_nil] at this
  rw [hs, inB_true.2 (by omega)]
  simp only [Bool.true_and]
  exact this

end Go.Proofs.YtmpjaakkjhmpmaaGreatDoor
namespace Go.Proofs.YtmpjaakkjhmpmaaGreatDoor
end Go.Proofs.YtmpjaakkjhmpmaaGreatDoor
