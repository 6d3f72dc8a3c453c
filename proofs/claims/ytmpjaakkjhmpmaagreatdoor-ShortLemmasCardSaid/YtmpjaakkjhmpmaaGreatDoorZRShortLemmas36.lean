/-
  WHAT IT HOLDS: what a proof says whose steps were moved: what it said. No program in sight.
  WHAT IT HOLDS: plain words on a lemma that is put into the rest of a proof: the whole says what the rest says where the lemma's statement is a further given. No program in sight.
  WHAT IT HOLDS: plain law of ShortLemmas: a lemma cut out of a proof says what its step said, the rest says what the proof says where the lemma's statement is a further given, and so does the rest with the lemma put back. No program in sight.
-/
import Derived.Test.YtmpjaakkjhmpmaaGreatDoorZRShortLemmas30
import Derived.Test.YtmpjaakkjhmpmaaGreatDoorZRShortLemmas35
import Derived.Test.YtmpjaakkjhmpmaaGreatDoorZRShortLemmas34
namespace Go.Proofs.YtmpjaakkjhmpmaaGreatDoor
open Go Go.RowKit
/-- what the steps say that stay. -/
def lrL (l : List (List Int)) (b : List Bool) : Nat → List (List Int)
  | 0 => []
  | k + 1 => lrL l b k ++ (if stB b k = true then [l.getD k []] else [])
theorem lrL_len (l : List (List Int)) (b : List Bool) : ∀ k, (lrL l b k).length = posS b k
  | 0 => rfl
  | k + 1 => by
    rw [lrL, List.length_append, lrL_len l b k, posS]
    split <;> simp
theorem lrL_at (l : List (List Int)) (b : List Bool) {j : Nat} (hs : stB b j = true) : ∀ k, j < k → (lrL l b k).getD (posS b j) [] = l.getD j []
  | 0, h => by omega
  | k + 1, h => by
    rw [lrL]
    by_cases e : j = k
    · subst e
      rw [if_pos hs, List.getD_eq_getElem?_getD, List.getElem?_append_right (by rw [lrL_len]; exact Nat.le_refl _), lrL_len, Nat.sub_self]; rfl
    · have hj : j < k := by omega
      have h1 := lrL_at l b hs k hj
      have h2 := posS_lt b hj hs
      rw [List.getD_eq_getElem?_getD, List.getElem?_append_left (by rw [lrL_len]; omega), ← List.getD_eq_getElem?_getD, h1]
theorem run_reb {s : Sg} {g : List (List Int)} {p : List St} {l : List (List Int)} (h : RunR s g p l 0) (hp : proofB g.length p = true) {b : List Bool} {f : Nat → Nat} (ok : OKR p b f) (hf : ∀ j, j < p.length → l.getD (f j) [] = l.getD j []) :
    ∀ k, k ≤ p.length → ∀ i t, (lrL l b k)[i]? = some t → ∃ st, (rebL p b f k)[i]? = some st ∧ sayR s g ((lrL l b k).take i) st (t, 0) := by
  have hl : l.length = p.length := by rcases h.2 with ⟨-, h⟩ | ⟨h, -⟩ <;> first | exact h | exact absurd rfl h
  intro k
  induction k with
  | zero => intro _ i t hi; simp [lrL] at hi
  | succ k ih =>
    intro hk
    rw [lrL, rebL]
    by_cases hs : stB b k = true
    case neg => rw [if_neg hs, if_neg hs, List.append_nil, List.append_nil]; exact ih (by omega)
    rw [if_pos hs, if_pos hs]
    have hkp : k < p.length := by omega
    have hkl : k < l.length := by omega
    have ih' := ih (by omega)
    refine say_snoc (p := rebL p b f k ++ [mvS b f (p.getD k st0)]) (st := mvS b f (p.getD k st0)) (fun i t hi => ?_) ?_ ?_
    · obtain ⟨st, h1, h2⟩ := ih' i t hi
      have := (List.getElem?_eq_some_iff.1 h1).1
      exact ⟨st, by rw [List.getElem?_append_left this]; exact h1, h2⟩
    · rw [List.getElem?_append_right (by rw [lrL_len, rebL_len]; exact Nat.le_refl _), lrL_len, rebL_len, Nat.sub_self]; rfl
    · obtain ⟨st, h1, h2⟩ := h.1 k l[k] (List.getElem?_eq_getElem hkl)
      have e1 : p.getD k st0 = st := by rw [List.getD_eq_getElem?_getD, h1]; rfl
      have e2 : l.getD k [] = l[k] := by rw [List.getD_eq_getElem?_getD, List.getElem?_eq_getElem hkl]; rfl
      have hr := proofB_at hp hkp
      have e3 : p[k] = st := by rw [List.getElem?_eq_getElem hkp] at h1; exact Option.some.inj h1
      rw [e3] at hr
      rw [e1, e2]
      rcases right_step hr with ⟨k1, -, -⟩ | ⟨k2, a1, a2, b1, b2⟩
      · have : mvS b f st = st := by unfold mvS; rw [if_neg (by omega)]
        rw [this]
        unfold sayR at h2 ⊢
        rw [if_pos k1] at h2 ⊢
        exact h2
      · obtain ⟨⟨o1, o2⟩, o3, o4⟩ := ok k hkp hs (by rw [e1]; exact k2)
        rw [e1] at o1 o2 o3 o4
        have hm : mvS b f st = (2, (posS b (f (nA st)) : Int), (posS b (f (nB st)) : Int)) := by unfold mvS; rw [if_pos k2]
        rw [hm]
        unfold sayR at h2 ⊢
        rw [if_neg (by omega)] at h2
        rw [if_neg (show ¬ ((2 : Int) = 1) by decide)]
        have key : ∀ j, j < k → (l.take k).getD j [] = l.getD j [] := fun j hj => by
          rw [List.getD_eq_getElem?_getD, List.getElem?_take_of_lt hj, ← List.getD_eq_getElem?_getD]
        show DetR s ((lrL l b k).getD ((posS b (f (nA st)) : Int)).toNat []) ((lrL l b k).getD ((posS b (f (nB st)) : Int)).toNat []) (l[k], 0)
        rw [Int.toNat_natCast, Int.toNat_natCast, lrL_at l b o2 k o1, lrL_at l b o4 k o3, hf _ (by unfold nA; omega), hf _ (by unfold nB; omega)]
        rw [key _ (by omega), key _ (by omega)] at h2
        exact h2
theorem reb_run {s : Sg} {g : List (List Int)} {p : List St} {l : List (List Int)} (h : RunR s g p l 0) (hp : proofB g.length p = true) {b : List Bool} {f : Nat → Nat} (ok : OKR p b f) (hf : ∀ j, j < p.length → l.getD (f j) [] = l.getD j []) {k : Nat} (hk : k ≤ p.length) : RunR s g (rebL p b f k) (lrL l b k) 0 :=
  ⟨run_reb h hp ok hf k hk, Or.inl ⟨rfl, by rw [lrL_len, rebL_len]⟩⟩
theorem reb_right {g : Int} {p : List St} (hp : proofB g p = true) {b : List Bool} {f : Nat → Nat} (ok : OKR p b f) : ∀ k, k ≤ p.length → ∀ j (hj : j < (rebL p b f k).length), rightB g j (rebL p b f k)[j] = true := by
  intro k
  induction k with
  | zero => intro _ j hj; simp [rebL] at hj
  | succ k ih =>
    intro hk j hj
    have hkp : k < p.length := by omega
    by_cases hs : stB b k = true
    case neg =>
      have e : rebL p b f (k + 1) = rebL p b f k := by rw [rebL, if_neg hs, List.append_nil]
      simp only [e] at hj ⊢
      exact ih (by omega) j hj
    have e : rebL p b f (k + 1) = rebL p b f k ++ [mvS b f (p.getD k st0)] := by rw [rebL, if_pos hs]
    simp only [e] at hj ⊢
    by_cases hj2 : j < (rebL p b f k).length
    · rw [List.getElem_append_left hj2]
      exact ih (by omega) j hj2
    · have ej : j = (rebL p b f k).length := by simp at hj; omega
      subst ej
      rw [List.getElem_append_right (Nat.le_refl _)]
      simp only [Nat.sub_self, List.getElem_cons_zero]
      have hr := proofB_at hp hkp
      have e1 : p.getD k st0 = p[k] := by rw [List.getD_eq_getElem?_getD, List.getElem?_eq_getElem hkp]; rfl
      rcases right_step hr with ⟨k1, a1, a2⟩ | ⟨k2, a1, a2, b1, b2⟩
      · have : mvS b f (p.getD k st0) = p[k] := by unfold mvS; rw [e1, if_neg (by omega)]
        rw [this]
        unfold rightB at hr ⊢
        rw [if_pos k1] at hr ⊢
        exact hr
      · obtain ⟨⟨o1, o2⟩, o3, o4⟩ := ok k hkp hs (by rw [e1]; exact k2)
        have h3 := posS_lt b o1 o2
        have h4 := posS_lt b o3 o4
        have hm : mvS b f (p.getD k st0) = (2, (posS b (f (nA (p.getD k st0))) : Int), (posS b (f (nB (p.getD k st0))) : Int)) := by unfold mvS; rw [if_pos (by rw [e1]; exact k2)]
        rw [hm, rebL_len]
        unfold rightB
        rw [if_neg (show ¬ ((2 : Int) = 1) by decide), if_pos rfl, Bool.and_eq_true]
        constructor <;> exact inB_true.2 (by dsimp only; omega)
theorem reb_valid {g : Int} {p : List St} (hp : proofB g p = true) {b : List Bool} {f : Nat → Nat} (ok : OKR p b f) {k : Nat} (hk : k ≤ p.length) {j : Nat} (hj : j < k) (hs : stB b j = true) : proofB g (rebL p b f k) = true := by
  rw [proofB_all (reb_right hp ok k hk), rebL_len]
  have h1 := posS_lt b hj hs
  have h2 := posS_le b k
  have h3 := proof60 hp
  exact inB_true.2 (by omega)
end Go.Proofs.YtmpjaakkjhmpmaaGreatDoor
namespace Go.Proofs.YtmpjaakkjhmpmaaGreatDoor
open Go Go.RowKit
def inlX (G : Int) (x : St) : Bool := decide (x.1 = 1) && decide (x.2.1 = G)
def inlM (t : List Nat) (x : St) : St := if x.1 = 2 then (2, (t.getD (nA x) 0 : Int), (t.getD (nB x) 0 : Int)) else x
/-- where the first k steps of the rest stand, and the steps so far. -/
def inlF (G : Int) (lem rest : List St) : Nat → List Nat × List St
  | 0 => ([], lem)
  | k + 1 =>
    if inlX G (rest.getD k st0) = true then ((inlF G lem rest k).1 ++ [lem.length - 1], (inlF G lem rest k).2)
    else ((inlF G lem rest k).1 ++ [(inlF G lem rest k).2.length], (inlF G lem rest k).2 ++ [inlM (inlF G lem rest k).1 (rest.getD k st0)])
def inlL (G : Int) (lem rest : List St) : List St := if (inlF G lem rest rest.length).1.getD (rest.length - 1) 0 = lem.length - 1 then lem else (inlF G lem rest rest.length).2
def inlT (G : Int) (rest : List St) (ll lr : List (List Int)) : Nat → List (List Int)
  | 0 => ll
  | k + 1 => if inlX G (rest.getD k st0) = true then inlT G rest ll lr k else inlT G rest ll lr k ++ [lr.getD k []]
theorem inlF_len (G : Int) (lem rest : List St) : ∀ k, (inlF G lem rest k).1.length = k
  | 0 => rfl
  | k + 1 => by
    rw [inlF]
    split <;> rw [List.length_append, inlF_len G lem rest k] <;> rfl
theorem inlT_len (G : Int) (lem rest : List St) (ll lr : List (List Int)) (h : ll.length = lem.length) : ∀ k, (inlT G rest ll lr k).length = (inlF G lem rest k).2.length
  | 0 => h
  | k + 1 => by
    rw [inlF, inlT]
    split
    · exact inlT_len G lem rest ll lr h k
    · rw [List.length_append, List.length_append, inlT_len G lem rest ll lr h k]; rfl
theorem inlF_ge (G : Int) (lem rest : List St) : ∀ k, lem.length ≤ (inlF G lem rest k).2.length
  | 0 => Nat.le_refl _
  | k + 1 => by
    have := inlF_ge G lem rest k
    rw [inlF]
    split
    · exact this
    · rw [List.length_append]; omega
theorem getD_left {α : Type} {l m : List α} {d : α} {i : Nat} (h : i < l.length) : (l ++ m).getD i d = l.getD i d := by
  rw [List.getD_eq_getElem?_getD, List.getD_eq_getElem?_getD, List.getElem?_append_left h]
theorem getD_last {α : Type} {l : List α} {x d : α} : (l ++ [x]).getD l.length d = x := by
  rw [List.getD_eq_getElem?_getD, List.getElem?_append_right (Nat.le_refl _), Nat.sub_self]; rfl
/-- how what was said lies in what is said. -/
theorem inl_run {s : Sg} {g : List (List Int)} {t : List Int} {lem rest : List St} {ll lr : List (List Int)} (h1 : RunR s g lem ll 0) (h2 : RunR s (g ++ [t]) rest lr 0) (hp : proofB g.length lem = true) (hq : proofB ((g.length : Int) + 1) rest = true) (ht : canonL t = t) (hl : ll.getD (lem.length - 1) [] = t) :
    ∀ k, k ≤ rest.length → (∀ i u, (inlT g.length rest ll lr k)[i]? = some u → ∃ st, (inlF g.length lem rest k).2[i]? = some st ∧ sayR s g ((inlT g.length rest ll lr k).take i) st (u, 0)) ∧
      (∀ j, j < k → (inlF g.length lem rest k).1.getD j 0 < (inlF g.length lem rest k).2.length ∧ (inlT g.length rest ll lr k).getD ((inlF g.length lem rest k).1.getD j 0) [] = lr.getD j []) ∧
      (∀ j (hj : j < (inlF g.length lem rest k).2.length), rightB g.length j (inlF g.length lem rest k).2[j] = true) := by
  have e1 : ll.length = lem.length := by rcases h1.2 with ⟨-, h⟩ | ⟨h, -⟩ <;> first | exact h | exact absurd rfl h
  have e2 : lr.length = rest.length := by rcases h2.2 with ⟨-, h⟩ | ⟨h, -⟩ <;> first | exact h | exact absurd rfl h
  have hm := proof1 hp
  intro k
  induction k with
  | zero =>
    intro _
    exact ⟨h1.1, fun j hj => by omega, fun j hj => proofB_at hp hj⟩
  | succ k ih =>
    intro hk
    obtain ⟨i1, i2, i3⟩ := ih (by omega)
    have hkr : k < rest.length := by omega
    have hkl : k < lr.length := by omega
    have hge := inlF_ge g.length lem rest k
    have hT := inlT_len g.length lem rest ll lr e1 k
    have hF := inlF_len g.length lem rest k
    obtain ⟨st, k1, k2⟩ := h2.1 k lr[k] (List.getElem?_eq_getElem hkl)
    have a1 : rest.getD k st0 = st := by rw [List.getD_eq_getElem?_getD, k1]; rfl
    have a2 : lr.getD k [] = lr[k] := by rw [List.getD_eq_getElem?_getD, List.getElem?_eq_getElem hkl]; rfl
    have a3 : rest[k] = st := by rw [List.getElem?_eq_getElem hkr] at k1; exact Option.some.inj k1
    have hr := proofB_at hq hkr
    rw [a3] at hr
    have hr := right_step hr
    by_cases hx : inlX g.length st = true
    · -- the step cites the lemma
      have f1 : inlF g.length lem rest (k + 1) = ((inlF g.length lem rest k).1 ++ [lem.length - 1], (inlF g.length lem rest k).2) := by rw [inlF, a1, if_pos hx]
      have f2 : inlT g.length rest ll lr (k + 1) = inlT g.length rest ll lr k := by rw [inlT, a1, if_pos hx]
      rw [f1, f2]
      have hx' := hx
      unfold inlX at hx'
      rw [Bool.and_eq_true, decide_eq_true_eq, decide_eq_true_eq] at hx'
      refine ⟨i1, fun j hj => ?_, i3⟩
      by_cases e : j = k
      · subst e
        have b1 : ((inlF g.length lem rest j).1 ++ [lem.length - 1]).getD j 0 = lem.length - 1 := by
          have := getD_last (l := (inlF g.length lem rest j).1) (x := lem.length - 1) (d := 0)
          rwa [hF] at this
        show ((inlF g.length lem rest j).1 ++ [lem.length - 1]).getD j 0 < _ ∧ _
        rw [b1]
        refine ⟨by show lem.length - 1 < (inlF g.length lem rest j).2.length; omega, ?_⟩
        have b2 : ∀ n, (inlT g.length rest ll lr n).getD (lem.length - 1) [] = ll.getD (lem.length - 1) [] := fun n => by
          induction n with
          | zero => rfl
          | succ n ihn =>
            rw [inlT]
            split
            · exact ihn
            · rw [getD_left (by rw [inlT_len g.length lem rest ll lr e1]; have := inlF_ge g.length lem rest n; omega)]; exact ihn
        rw [b2, hl, a2]
        unfold sayR at k2
        rw [if_pos hx'.1, hx'.2] at k2
        have b3 : (g ++ [t]).getD ((g.length : Int)).toNat [] = t := by rw [Int.toNat_natCast]; exact getD_last
        rw [b3, ht] at k2
        exact (congrArg Prod.fst k2).symm
      · have hj' : j < k := by omega
        show ((inlF g.length lem rest k).1 ++ [lem.length - 1]).getD j 0 < _ ∧ _
        rw [getD_left (by omega)]
        exact i2 j hj'
    · -- any other step
      have f1 : inlF g.length lem rest (k + 1) = ((inlF g.length lem rest k).1 ++ [(inlF g.length lem rest k).2.length], (inlF g.length lem rest k).2 ++ [inlM (inlF g.length lem rest k).1 st]) := by rw [inlF, a1, if_neg hx]
      have f2 : inlT g.length rest ll lr (k + 1) = inlT g.length rest ll lr k ++ [lr[k]] := by rw [inlT, a1, if_neg hx, a2]
      rw [f1, f2]
      have hsay : sayR s g (inlT g.length rest ll lr k) (inlM (inlF g.length lem rest k).1 st) (lr[k], 0) ∧ rightB g.length ((inlF g.length lem rest k).2.length : Int) (inlM (inlF g.length lem rest k).1 st) = true := by
        rcases hr with ⟨c1, c2, c3⟩ | ⟨c1, c2, c3, c4, c5⟩
        · have hne : st.2.1 ≠ (g.length : Int) := fun e => hx (by unfold inlX; rw [Bool.and_eq_true, decide_eq_true_eq, decide_eq_true_eq]; exact ⟨c1, e⟩)
          have m1 : inlM (inlF g.length lem rest k).1 st = st := by unfold inlM; rw [if_neg (by omega)]
          have hr' := proofB_at hq hkr
          rw [a3] at hr'
          rw [m1]
          refine ⟨?_, ?_⟩
          · unfold sayR at k2 ⊢
            rw [if_pos c1] at k2 ⊢
            rw [getD_left (by omega)] at k2
            exact k2
          · unfold rightB at hr' ⊢
            rw [if_pos c1, Bool.and_eq_true] at hr' ⊢
            exact ⟨inB_true.2 (by omega), hr'.2⟩
        · have m1 : inlM (inlF g.length lem rest k).1 st = (2, ((inlF g.length lem rest k).1.getD (nA st) 0 : Int), ((inlF g.length lem rest k).1.getD (nB st) 0 : Int)) := by unfold inlM; rw [if_pos c1]
          obtain ⟨d1, d2⟩ := i2 (nA st) (by unfold nA; omega)
          obtain ⟨d3, d4⟩ := i2 (nB st) (by unfold nB; omega)
          rw [m1]
          refine ⟨?_, ?_⟩
          · unfold sayR at k2 ⊢
            rw [if_neg (by omega)] at k2
            rw [if_neg (show ¬ ((2 : Int) = 1) by decide)]
            have key : ∀ j, j < k → (lr.take k).getD j [] = lr.getD j [] := fun j hj => by
              rw [List.getD_eq_getElem?_getD, List.getElem?_take_of_lt hj, ← List.getD_eq_getElem?_getD]
            rw [key _ (by omega), key _ (by omega)] at k2
            show DetR s ((inlT g.length rest ll lr k).getD (((inlF g.length lem rest k).1.getD (nA st) 0 : Int)).toNat []) ((inlT g.length rest ll lr k).getD (((inlF g.length lem rest k).1.getD (nB st) 0 : Int)).toNat []) (lr[k], 0)
            rw [Int.toNat_natCast, Int.toNat_natCast, d2, d4]
            exact k2
          · unfold rightB
            rw [if_neg (show ¬ ((2 : Int) = 1) by decide), if_pos rfl, Bool.and_eq_true]
            constructor <;> exact inB_true.2 (by dsimp only; omega)
      refine ⟨say_snoc (fun i u hi => ?_) ?_ hsay.1, fun j hj => ?_, fun j hj => ?_⟩
      · obtain ⟨st', g1, g2⟩ := i1 i u hi
        have := (List.getElem?_eq_some_iff.1 g1).1
        exact ⟨st', by show ((inlF g.length lem rest k).2 ++ _)[i]? = _; rw [List.getElem?_append_left this]; exact g1, g2⟩
      · show ((inlF g.length lem rest k).2 ++ [inlM (inlF g.length lem rest k).1 st])[(inlT g.length rest ll lr k).length]? = _
        rw [hT, List.getElem?_append_right (Nat.le_refl _), Nat.sub_self]; rfl
      · show ((inlF g.length lem rest k).1 ++ [(inlF g.length lem rest k).2.length]).getD j 0 < ((inlF g.length lem rest k).2 ++ [_]).length ∧ (inlT g.length rest ll lr k ++ [lr[k]]).getD (((inlF g.length lem rest k).1 ++ [(inlF g.length lem rest k).2.length]).getD j 0) [] = _
        rw [List.length_append]
        by_cases e : j = k
        · subst e
          have b1 : ((inlF g.length lem rest j).1 ++ [(inlF g.length lem rest j).2.length]).getD j 0 = (inlF g.length lem rest j).2.length := by
            have := getD_last (l := (inlF g.length lem rest j).1) (x := (inlF g.length lem rest j).2.length) (d := 0)
            rwa [hF] at this
          rw [b1]
          refine ⟨by simp, ?_⟩
          rw [← hT, getD_last, a2]
        · obtain ⟨d1, d2⟩ := i2 j (by omega)
          rw [getD_left (by omega)]
          exact ⟨by omega, by rw [getD_left (by omega)]; exact d2⟩
      · have hj' : j < ((inlF g.length lem rest k).2 ++ [inlM (inlF g.length lem rest k).1 st]).length := hj
        show rightB g.length j ((inlF g.length lem rest k).2 ++ [inlM (inlF g.length lem rest k).1 st])[j] = true
        by_cases e : j < (inlF g.length lem rest k).2.length
        · rw [List.getElem_append_left e]; exact i3 j e
        · have ej : j = (inlF g.length lem rest k).2.length := by rw [List.length_append] at hj'; simp at hj'; omega
          subst ej
          rw [List.getElem_append_right (Nat.le_refl _)]
          simp only [Nat.sub_self, List.getElem_cons_zero]
          exact hsay.2
end Go.Proofs.YtmpjaakkjhmpmaaGreatDoor
namespace Go.Proofs.YtmpjaakkjhmpmaaGreatDoor
open Go Go.RowKit
theorem det_canon {s : Sg} {m n t : List Int} (h : DetR s m n (t, 0)) : canonL t = t := by
  rcases h with ⟨-, h⟩ | ⟨-, -, ⟨-, h⟩ | ⟨A, B, -, -, -, h⟩⟩
  · exact absurd (show (0 : Int) = 1 from congrArg Prod.snd h) (by decide)
  · exact absurd (show (0 : Int) = 10 from congrArg Prod.snd h) (by decide)
  · rcases h with ⟨-, h⟩ | ⟨m, -, ⟨-, h⟩ | ⟨-, h⟩⟩
    · exact absurd (show (0 : Int) = 8 from congrArg Prod.snd h) (by decide)
    · rw [show t = canonL (fw m B) from congrArg Prod.fst h]; exact canonL_canon _
    · exact absurd (show (0 : Int) = 4 from congrArg Prod.snd h) (by decide)
theorem say_canon {s : Sg} {g l : List (List Int)} {x : St} {t : List Int} (h : sayR s g l x (t, 0)) : canonL t = t := by
  unfold sayR at h
  split at h
  · rw [show t = canonL (g.getD x.2.1.toNat []) from congrArg Prod.fst h]; exact canonL_canon _
  · exact det_canon h
theorem run_len {s : Sg} {g : List (List Int)} {p : List St} {l : List (List Int)} (h : RunR s g p l 0) : l.length = p.length := by
  rcases h.2 with ⟨-, h⟩ | ⟨h, -⟩ <;> first | exact h | exact absurd rfl h
theorem run_canon {s : Sg} {g : List (List Int)} {p : List St} {l : List (List Int)} (h : RunR s g p l 0) {i : Nat} (hi : i < l.length) : canonL l[i] = l[i] := by
  obtain ⟨st, -, h2⟩ := h.1 i l[i] (List.getElem?_eq_getElem hi)
  exact say_canon h2
theorem run_take {s : Sg} {g : List (List Int)} {p : List St} {l : List (List Int)} (h : RunR s g p l 0) {k : Nat} (hk : k ≤ p.length) : RunR s g (p.take k) (l.take k) 0 := by
  have hl := run_len h
  refine ⟨fun i t hi => ?_, Or.inl ⟨rfl, by rw [List.length_take, List.length_take, hl]⟩⟩
  have hik : i < k := by have := (List.getElem?_eq_some_iff.1 hi).1; rw [List.length_take] at this; omega
  rw [List.getElem?_take_of_lt hik] at hi
  obtain ⟨st, h1, h2⟩ := h.1 i t hi
  exact ⟨st, by rw [List.getElem?_take_of_lt hik]; exact h1, by rw [List.take_take, Nat.min_eq_left (by omega)]; exact h2⟩
theorem proofB_take {g : Int} {p : List St} (h : proofB g p = true) {k : Nat} (h1 : 1 ≤ k) (hk : k ≤ p.length) : proofB g (p.take k) = true := by
  have h60 := proof60 h
  rw [proofB_all (fun j hj => by
    have hj' : j < p.length := by rw [List.length_take] at hj; omega
    rw [List.getElem_take]
    exact proofB_at h hj')]
  rw [List.length_take]
  exact inB_true.2 (by omega)
theorem lrL_last (l : List (List Int)) (b : List Bool) {n : Nat} (hs : stB b n = true) : (lrL l b (n + 1)).getLast? = some (l.getD n []) := by
  rw [lrL, if_pos hs]; simp
theorem trim_says {s : Sg} {g : List (List Int)} {p : List St} {l : List (List Int)} (h : RunR s g p l 0) (hp : proofB g.length p = true) :
    ∃ l', RunR s g (trimL p) l' 0 ∧ l'.getLast? = some (l.getD (p.length - 1) []) ∧ proofB g.length (trimL p) = true := by
  have ok := ok_need hp
  have h1 := proof1 hp
  have hs : stB (needL p) (p.length - 1) = true := need_last (by omega)
  refine ⟨lrL l (needL p) p.length, reb_run h hp ok (fun j _ => rfl) (Nat.le_refl _), ?_, reb_valid hp ok (Nat.le_refl _) (show p.length - 1 < p.length by omega) hs⟩
  have e : p.length = (p.length - 1) + 1 := by omega
  rw [e]
  simp only [Nat.add_sub_cancel]
  exact lrL_last _ _ hs
def cutS (p : List St) (i : Nat) (g : Int) : List St := p.set i (1, g, 0)
theorem cut_lem {s : Sg} {g : List (List Int)} {p : List St} {l : List (List Int)} (h : RunR s g p l 0) (hp : proofB g.length p = true) {i : Nat} (hi : i < p.length) :
    ∃ la, RunR s g (trimL (p.take (i + 1))) la 0 ∧ la.getLast? = some (l.getD i []) ∧ proofB g.length (trimL (p.take (i + 1))) = true := by
  obtain ⟨la, h1, h2, h3⟩ := trim_says (run_take h (show i + 1 ≤ p.length by omega)) (proofB_take hp (by omega) (by omega))
  refine ⟨la, h1, ?_, h3⟩
  rw [h2, List.length_take, Nat.min_eq_left (by omega), Nat.add_sub_cancel, List.getD_eq_getElem?_getD, List.getElem?_take_of_lt (by omega), ← List.getD_eq_getElem?_getD]
theorem cut_valid {g : Nat} {p : List St} (hp : proofB g p = true) (i : Nat) : proofB ((g : Int) + 1) (cutS p i g) = true := by
  have h60 := proof60 hp
  have h1 := proof1 hp
  rw [proofB_all (fun j hj => ?_)]
  · unfold cutS; rw [List.length_set]; exact inB_true.2 (by omega)
  · unfold cutS at hj ⊢
    rw [List.length_set] at hj
    rw [List.getElem_set]
    split
    · unfold rightB
      rw [if_pos rfl, Bool.and_eq_true]
      exact ⟨inB_true.2 (by dsimp only; omega), by simp⟩
    · have hr := proofB_at hp hj
      rcases right_step hr with ⟨c1, c2, c3⟩ | ⟨c1, -⟩
      · unfold rightB at hr ⊢
        rw [if_pos c1, Bool.and_eq_true] at hr ⊢
        exact ⟨inB_true.2 (by omega), hr.2⟩
      · unfold rightB at hr ⊢
        rw [if_neg (by omega)] at hr ⊢
        exact hr
theorem cut_run {s : Sg} {g : List (List Int)} {p : List St} {l : List (List Int)} (h : RunR s g p l 0) (hp : proofB g.length p = true) {i : Nat} (hi : i < p.length) : RunR s (g ++ [l.getD i []]) (cutS p i g.length) l 0 := by
  have hl := run_len h
  have ei : l.getD i [] = l[i]'(by omega) := by rw [List.getD_eq_getElem?_getD, List.getElem?_eq_getElem (by omega)]; rfl
  refine ⟨fun j t hj => ?_, Or.inl ⟨rfl, by unfold cutS; rw [List.length_set]; exact hl⟩⟩
  obtain ⟨st, h1, h2⟩ := h.1 j t hj
  have hjl : j < l.length := (List.getElem?_eq_some_iff.1 hj).1
  have et : t = l[j] := by rw [List.getElem?_eq_getElem hjl] at hj; exact (Option.some.inj hj).symm
  by_cases e : j = i
  · subst e
    refine ⟨(1, (g.length : Int), 0), by unfold cutS; rw [List.getElem?_set_self (by omega)], ?_⟩
    unfold sayR
    rw [if_pos rfl, Int.toNat_natCast, getD_last, ei, run_canon h hjl, et]
  · refine ⟨st, by unfold cutS; rw [List.getElem?_set_ne (by omega)]; exact h1, ?_⟩
    have hr := proofB_at hp (show j < p.length by omega)
    have e3 : p[j]'(by omega) = st := by rw [List.getElem?_eq_getElem (by omega)] at h1; exact Option.some.inj h1
    rw [e3] at hr
    rcases right_step hr with ⟨c1, c2, c3⟩ | ⟨c1, -⟩
    · unfold sayR at h2 ⊢
      rw [if_pos c1] at h2 ⊢
      rw [getD_left (by omega)]
      exact h2
    · unfold sayR at h2 ⊢
      rw [if_neg (by omega)] at h2 ⊢
      exact h2
theorem lst_getD {l : List (List Int)} {t : List Int} {n : Nat} (h : l.getLast? = some t) (hn : l.length = n) : l.getD (n - 1) [] = t := by
  rw [List.getLast?_eq_getElem?] at h
  rw [List.getD_eq_getElem?_getD, ← hn, h]; rfl
theorem say_ok {s : Sg} {g : List (List Int)} {p : List St} {l : List (List Int)} {t : List Int} (hg : givensB s g = true) (h : RunR s g p l 0) (hp : proofB g.length p = true) (ht : l.getLast? = some t) : SayP s g p (t, 0) :=
  Or.inr ⟨by unfold askedB; rw [hg, hp]; rfl, l, h, Or.inl ⟨rfl, ht⟩⟩
theorem givens_more {s : Sg} {g : List (List Int)} {t : List Int} (hg : givensB s g = true) (h60 : g.length < 60) (ht : termB s t = true) : givensB s (g ++ [t]) = true := by
  unfold givensB at hg ⊢
  rw [Bool.and_eq_true, Bool.and_eq_true, decide_eq_true_eq] at hg ⊢
  refine ⟨⟨hg.1.1, by rw [List.length_append]; simp; omega⟩, ?_⟩
  have h2 := hg.2
  unfold allB at h2 ⊢
  rw [List.all_append, h2, Bool.true_and]
  simpa using ht
/-- what the three proofs say. -/
theorem lemmas_law {s : Sg} {g : List (List Int)} {p : List St} {l : List (List Int)} (ha : askedB s g p = true) (h : RunR s g p l 0) {i : Nat} (hi : i < p.length) (h60 : g.length < 60) :
    SayP s g (trimL (p.take (i + 1))) (l.getD i [], 0) ∧ SayP s (g ++ [l.getD i []]) (trimL (cutS p i g.length)) (l.getD (p.length - 1) [], 0) ∧ SayP s g p (l.getD (p.length - 1) [], 0) ∧
      ((inlL g.length (trimL (p.take (i + 1))) (trimL (cutS p i g.length))).length ≤ 60 → SayP s g (inlL g.length (trimL (p.take (i + 1))) (trimL (cutS p i g.length))) (l.getD (p.length - 1) [], 0)) ∧
      proofB g.length (trimL (p.take (i + 1))) = true ∧ proofB ((g.length : Int) + 1) (trimL (cutS p i g.length)) = true := by
  obtain ⟨hg, hp⟩ := asked_parts ha
  have hl := run_len h
  have hp1 := proof1 hp
  obtain ⟨la, a1, a2, a3⟩ := cut_lem h hp hi
  have hT : termB s (l.getD i []) = true := run_terms ha h _ (by rw [List.getD_eq_getElem?_getD, List.getElem?_eq_getElem (by omega)]; exact List.getElem_mem _)
  have hcn : canonL (l.getD i []) = l.getD i [] := by
    rw [List.getD_eq_getElem?_getD, List.getElem?_eq_getElem (show i < l.length by omega)]; exact run_canon h _
  have hg' := givens_more hg h60 hT
  have hcv := cut_valid hp i
  have hcr := cut_run h hp hi
  have eg : (((g ++ [l.getD i []]).length : Nat) : Int) = (g.length : Int) + 1 := by rw [List.length_append]; simp
  obtain ⟨lb, b1, b2, b3⟩ := trim_says hcr (by rw [eg]; exact hcv)
  rw [eg] at b3
  have ecl : (cutS p i g.length).length = p.length := by unfold cutS; rw [List.length_set]
  rw [ecl] at b2
  refine ⟨say_ok hg a1 a3 a2, say_ok hg' b1 (by rw [eg]; exact b3) b2, say_ok hg h hp (by rw [List.getLast?_eq_getElem?, hl, List.getD_eq_getElem?_getD, List.getElem?_eq_getElem (by omega)]; rfl), fun hlen => ?_, a3, b3⟩
  have ea := run_len a1
  have eb := run_len b1
  have l1 := proof1 a3
  have l2 := proof1 b3
  obtain ⟨i1, i2, i3⟩ := inl_run a1 b1 a3 b3 hcn (lst_getD a2 ea) (trimL (cutS p i g.length)).length (Nat.le_refl _)
  obtain ⟨j1, j2⟩ := i2 ((trimL (cutS p i g.length)).length - 1) (by omega)
  rw [lst_getD b2 eb] at j2
  unfold inlL at hlen ⊢
  split
  · rename_i e
    have hlast : la.getLast? = some (l.getD (p.length - 1) []) := by
      have b2' : ∀ n, (inlT g.length (trimL (cutS p i g.length)) la lb n).getD ((trimL (p.take (i + 1))).length - 1) [] = la.getD ((trimL (p.take (i + 1))).length - 1) [] := fun n => by
        induction n with
        | zero => rfl
        | succ n ihn =>
          rw [inlT]
          split
          · exact ihn
          · rw [getD_left (by rw [inlT_len g.length (trimL (p.take (i + 1))) (trimL (cutS p i g.length)) la lb ea]; have := inlF_ge g.length (trimL (p.take (i + 1))) (trimL (cutS p i g.length)) n; omega)]; exact ihn
      rw [e, b2'] at j2
      rw [List.getLast?_eq_getElem?, ea, ← j2, List.getD_eq_getElem?_getD, List.getElem?_eq_getElem (by omega)]; rfl
    exact say_ok hg a1 a3 hlast
  · rename_i e
    rw [if_neg e] at hlen
    have hT2 := inlT_len g.length (trimL (p.take (i + 1))) (trimL (cutS p i g.length)) la lb ea (trimL (cutS p i g.length)).length
    have hge := inlF_ge g.length (trimL (p.take (i + 1))) (trimL (cutS p i g.length)) (trimL (cutS p i g.length)).length
    refine say_ok hg (l := inlT g.length (trimL (cutS p i g.length)) la lb (trimL (cutS p i g.length)).length) ⟨i1, Or.inl ⟨rfl, hT2⟩⟩ (by rw [proofB_all i3]; exact inB_true.2 (by omega)) ?_
    -- the last step of the rest is no citation of the lemma: it stands last
    obtain ⟨n, hn⟩ : ∃ n, (trimL (cutS p i g.length)).length = n + 1 := ⟨_, (by omega : (trimL (cutS p i g.length)).length = ((trimL (cutS p i g.length)).length - 1) + 1)⟩
    rw [hn] at e j1 j2 hT2 ⊢
    rw [Nat.add_sub_cancel] at e j1 j2
    by_cases hx : inlX g.length ((trimL (cutS p i g.length)).getD n st0) = true
    · exfalso
      apply e
      rw [inlF, if_pos hx]
      have := getD_last (l := (inlF g.length (trimL (p.take (i + 1))) (trimL (cutS p i g.length)) n).1) (x := (trimL (p.take (i + 1))).length - 1) (d := 0)
      rwa [inlF_len] at this
    · rw [inlT, if_neg hx, List.getLast?_append]
      have b4 := lst_getD b2 eb
      rw [hn, Nat.add_sub_cancel] at b4
      rw [b4]; rfl
end Go.Proofs.YtmpjaakkjhmpmaaGreatDoor
