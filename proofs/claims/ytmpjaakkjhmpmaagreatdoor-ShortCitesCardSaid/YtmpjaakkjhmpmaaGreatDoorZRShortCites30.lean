/-
  WHAT IT HOLDS: plain laws: what is detached, and what a proof says, is one thing alone; what the proofs of a moved statement say. No program in sight.
  WHAT IT HOLDS: plain words on proofs that are made shorter: which steps are needed, which stay, and where they stand then. No program in sight.
  WHAT IT HOLDS: contracts of Says of package kernel, of axiom, givens, strongest, holds, and of Holds and Strongest of package deps. Conditions: the arguments read as data; small signs, small libraries.
  WHAT IT HOLDS: contracts of says, Along and There of package carry. Conditions: the arguments read as data; small signs, small libraries.
  WHAT IT HOLDS: contracts of slices.Clone at strings and at steps, of proof, cite, detach, used, fresh of package carry. Conditions: the arguments read as data; small signs, small libraries.
  WHAT IT HOLDS: the contract of Moved of package carry. Conditions: the arguments read as data; small signs, small libraries.
  WHAT IT HOLDS: contracts of named, says, Along and There of the reference of layer 8. Conditions: the arguments read as data; small signs, small libraries.
  WHAT IT HOLDS: plain words on the map that firsts of package short fills. No program in sight.
-/
import Derived.Deep.RegionHeld3
import Derived.Lib.SliceRun
import Derived.Test.YtmpjaakkjhmpmaaGreatDoorZRShortCites24
import Derived.Test.YtmpjaakkjhmpmaaGreatDoorZRShortCites22
import Derived.Test.YtmpjaakkjhmpmaaGreatDoorZRShortCites26
import Derived.Test.YtmpjaakkjhmpmaaGreatDoorZRShortCites16
import Derived.Test.YtmpjaakkjhmpmaaGreatDoorZRShortCites29
import Derived.Test.YtmpjaakkjhmpmaaGreatDoorZRShortCites25
namespace Go.Proofs.YtmpjaakkjhmpmaaGreatDoor
open Go Go.RowKit
theorem DetR.unique {s : Sg} {m n : List Int} {x y : List Int × Int} (h : DetR s m n x) (k : DetR s m n y) : x = y := by
  rcases h with ⟨h1, rfl⟩ | ⟨h1, h2, h⟩
  · rcases k with ⟨-, rfl⟩ | ⟨k1, k2, -⟩
    · rfl
    · rw [k1, k2] at h1; cases h1
  · rcases k with ⟨k1, -⟩ | ⟨-, -, k⟩
    · rw [h1, h2] at k1; cases k1
    · rcases h with ⟨h3, rfl⟩ | ⟨A, B, rfl, hA, hB, hu⟩
      · rcases k with ⟨-, rfl⟩ | ⟨A, B, rfl, -⟩
        · rfl
        · simp at h3
      · rcases k with ⟨k3, -⟩ | ⟨A', B', e, hA', hB', ku⟩
        · simp at k3
        · have := cut_unique [A, B] [A', B'] [] [] (by intro z hz; simp at hz; rcases hz with rfl | rfl <;> assumption) (by intro z hz; simp at hz; rcases hz with rfl | rfl <;> assumption) rfl (by simpa using e)
          have e1 := this.1
          simp only [List.cons.injEq, and_true] at e1
          obtain ⟨rfl, rfl⟩ := e1
          exact UR.unique (hB.mono (by omega)) hu ku
theorem sayR.unique {s : Sg} {g l : List (List Int)} {x : St} {y z : List Int × Int} (h : sayR s g l x y) (k : sayR s g l x z) : y = z := by
  unfold sayR at h k
  split at h
  · rename_i hh
    rw [if_pos hh] at k
    rw [h, k]
  · rename_i hh
    rw [if_neg hh] at k
    exact h.unique k
theorem RunR.unique {s : Sg} {g : List (List Int)} {p : List St} {l l' : List (List Int)} {e e' : Int} (h : RunR s g p l e) (k : RunR s g p l' e') : l = l' ∧ e = e' := by
  -- as far as both say something, they say the same
  have key : ∀ n, n ≤ l.length → n ≤ l'.length → l.take n = l'.take n := by
    intro n
    induction n with
    | zero => intro _ _; simp
    | succ n ih =>
      intro h1 h2
      have e0 := ih (by omega) (by omega)
      rw [List.take_succ_eq_append_getElem (by omega), List.take_succ_eq_append_getElem (by omega), e0]
      obtain ⟨st, hst, hs1⟩ := h.1 n l[n] (by simp [List.getElem?_eq_getElem (show n < l.length by omega)])
      obtain ⟨st', hst', hs2⟩ := k.1 n l'[n] (by simp [List.getElem?_eq_getElem (show n < l'.length by omega)])
      rw [hst] at hst'
      cases hst'
      rw [e0] at hs1
      have := congrArg Prod.fst (hs1.unique hs2)
      simp only at this
      rw [this]
  have stop : ∀ {l l' : List (List Int)} {e e' : Int}, RunR s g p l e → RunR s g p l' e' → l.length < l'.length → l = l'.take l.length → False := by
    intro l l' e e' h k hlt ht
    have hl' : l'.length ≤ p.length := by rcases k.2 with ⟨-, h⟩ | ⟨-, h, -⟩ <;> omega
    rcases h.2 with ⟨-, h2⟩ | ⟨h1, h2, st, t, h3, h4⟩
    · omega
    · obtain ⟨st', hst', hs⟩ := k.1 l.length l'[l.length] (by simp [List.getElem?_eq_getElem hlt])
      rw [h3] at hst'
      cases hst'
      rw [← ht] at hs
      exact h1 (congrArg Prod.snd (h4.unique hs))
  rcases Nat.lt_trichotomy l.length l'.length with hlt | heq | hlt
  · have := key l.length (Nat.le_refl _) (by omega)
    rw [List.take_length] at this
    exact (stop h k hlt this).elim
  · have e0 := key l.length (Nat.le_refl _) (by omega)
    rw [List.take_length, heq, List.take_length] at e0
    subst e0
    refine ⟨rfl, ?_⟩
    rcases h.2 with ⟨h1, h2⟩ | ⟨h1, h2, st, t, h3, h4⟩
    · rcases k.2 with ⟨k1, -⟩ | ⟨-, k2, -⟩
      · omega
      · omega
    · rcases k.2 with ⟨-, k2⟩ | ⟨-, -, st', t', k3, k4⟩
      · omega
      · rw [h3] at k3
        cases k3
        exact congrArg Prod.snd (h4.unique k4)
  · have := key l'.length (by omega) (Nat.le_refl _)
    rw [List.take_length] at this
    exact (stop k h hlt this.symm).elim
/-- the proofs of a moved statement. -/
def mvP : List St := [(1, 0, 0), (1, 1, 0), (2, 0, 1)]
def mvP1 : List St := [(1, 0, 0), (2, 0, 0)]
end Go.Proofs.YtmpjaakkjhmpmaaGreatDoor
namespace Go.Proofs.YtmpjaakkjhmpmaaGreatDoor
open Go Go.RowKit
def nA (x : St) : Nat := x.2.1.toNat
def nB (x : St) : Nat := x.2.2.toNat
def st0 : St := (0, 0, 0)
/-- what one step does to the marks of the steps that are needed. -/
def mkN (x : St) (i : Nat) (b : List Bool) : List Bool := if b.getD i false = true ∧ x.1 = 2 then (b.set (nA x) true).set (nB x) true else b
def needF (p : List St) : Nat → List Bool → List Bool
  | 0, b => b
  | i + 1, b => needF p i (mkN (p.getD i st0) i b)
def need0 (p : List St) : List Bool := (List.replicate p.length false).set (p.length - 1) true
def needL (p : List St) : List Bool := needF p p.length (need0 p)
theorem mkN_len (x : St) (i : Nat) (b : List Bool) : (mkN x i b).length = b.length := by unfold mkN; split <;> simp
theorem needF_len (p : List St) : ∀ (i : Nat) (b : List Bool), (needF p i b).length = b.length
  | 0, _ => rfl
  | i + 1, b => by rw [needF, needF_len p i, mkN_len]
theorem needL_len (p : List St) : (needL p).length = p.length := by unfold needL need0; rw [needF_len]; simp
theorem set_keep {b : List Bool} {i j : Nat} (h : b.getD j false = true) : (b.set i true).getD j false = true := by
  have hj : j < b.length := by
    by_cases hj : j < b.length
    · exact hj
    · rw [List.getD_eq_getElem?_getD, List.getElem?_eq_none (by omega)] at h; cases h
  rw [List.getD_eq_getElem?_getD, List.getElem?_set] at *
  split
  · rename_i e; subst e; rw [if_pos (by simpa using hj)]; rfl
  · exact h
theorem set_here {b : List Bool} {i : Nat} (h : i < b.length) : (b.set i true).getD i false = true := by
  rw [List.getD_eq_getElem?_getD, List.getElem?_set_self h]; rfl
theorem mkN_keep {x : St} {i j : Nat} {b : List Bool} (h : b.getD j false = true) : (mkN x i b).getD j false = true := by
  unfold mkN
  split
  · exact set_keep (set_keep h)
  · exact h
theorem needF_keep (p : List St) : ∀ (i j : Nat) (b : List Bool), b.getD j false = true → (needF p i b).getD j false = true
  | 0, _, _, h => h
  | i + 1, j, b, h => needF_keep p i j _ (mkN_keep h)
/-- a mark from the index i on is as it is once the steps from i on have been gone through. -/
theorem mkN_far {x : St} {i j : Nat} {b : List Bool} (hA : x.1 = 2 → nA x < i ∧ nB x < i) (hj : i ≤ j) : (mkN x i b).getD j false = b.getD j false := by
  unfold mkN
  split
  · rename_i h
    obtain ⟨h1, h2⟩ := hA h.2
    rw [List.getD_eq_getElem?_getD, List.getD_eq_getElem?_getD, List.getElem?_set_ne (by omega), List.getElem?_set_ne (by omega)]
  · rfl
def backP (p : List St) : Prop := ∀ i, i < p.length → (p.getD i st0).1 = 2 → nA (p.getD i st0) < i ∧ nB (p.getD i st0) < i
theorem needF_far {p : List St} (hp : backP p) : ∀ (i j : Nat) (b : List Bool), i ≤ p.length → i ≤ j + 1 → (needF p i b).getD j false = b.getD j false
  | 0, _, _, _, _ => rfl
  | i + 1, j, b, h1, h2 => by
    rw [needF, needF_far hp i j _ (by omega) (by omega), mkN_far (hp i (by omega)) (by omega)]
/-- what is detached by a needed step is needed. -/
theorem need_step {p : List St} (hp : backP p) {i : Nat} (hi : i < p.length) (hn : (needL p).getD i false = true) (h2 : (p.getD i st0).1 = 2) : (needL p).getD (nA (p.getD i st0)) false = true ∧ (needL p).getD (nB (p.getD i st0)) false = true := by
  suffices H : ∀ (m : Nat) (b : List Bool), i < m → m ≤ p.length → b.length = p.length → (needF p m b).getD i false = true → (needF p m b).getD (nA (p.getD i st0)) false = true ∧ (needF p m b).getD (nB (p.getD i st0)) false = true by
    exact H p.length (need0 p) hi (Nat.le_refl _) (by unfold need0; simp) hn
  intro m
  induction m with
  | zero => intro b h; omega
  | succ m ih =>
    intro b him hm hb hn
    by_cases e : i = m
    · subst e
      have hb1 : b.getD i false = true := by rw [needF, needF_far hp i i _ (by omega) (by omega), mkN_far (hp i (by omega)) (Nat.le_refl _)] at hn; exact hn
      obtain ⟨a1, a2⟩ := hp i hi h2
      have e1 : mkN (p.getD i st0) i b = (b.set (nA (p.getD i st0)) true).set (nB (p.getD i st0)) true := by unfold mkN; rw [if_pos ⟨hb1, h2⟩]
      rw [needF, e1]
      exact ⟨needF_keep _ _ _ _ (set_keep (set_here (by omega))), needF_keep _ _ _ _ (set_here (by rw [List.length_set]; omega))⟩
    · exact ih _ (by omega) (by omega) (by rw [mkN_len, hb]) hn
theorem back_of {g : Int} {p : List St} (h : proofB g p = true) : backP p := fun i hi h2 => by
  have h1 := proofB_at h hi
  have e : p.getD i st0 = p[i] := by rw [List.getD_eq_getElem?_getD, List.getElem?_eq_getElem hi]; rfl
  rw [e] at h2 ⊢
  unfold rightB at h1
  rw [if_neg (by omega), if_pos h2, Bool.and_eq_true] at h1
  unfold inB at h1
  simp only [Bool.and_eq_true, decide_eq_true_eq] at h1
  unfold nA nB
  omega
def stB (b : List Bool) (i : Nat) : Bool := b.getD i false
/-- where a step stands once those that go are gone. -/
def posS (b : List Bool) : Nat → Nat
  | 0 => 0
  | i + 1 => posS b i + (if stB b i = true then 1 else 0)
def mvS (b : List Bool) (f : Nat → Nat) (x : St) : St := if x.1 = 2 then (2, (posS b (f (nA x)) : Int), (posS b (f (nB x)) : Int)) else x
/-- the steps that stay among the first k. -/
def rebL (p : List St) (b : List Bool) (f : Nat → Nat) : Nat → List St
  | 0 => []
  | k + 1 => rebL p b f k ++ (if stB b k = true then [mvS b f (p.getD k st0)] else [])
theorem rebL_len (p : List St) (b : List Bool) (f : Nat → Nat) : ∀ k, (rebL p b f k).length = posS b k
  | 0 => rfl
  | k + 1 => by
    rw [rebL, List.length_append, rebL_len p b f k, posS]
    split <;> simp
theorem posS_le (b : List Bool) : ∀ k, posS b k ≤ k
  | 0 => Nat.le_refl _
  | k + 1 => by rw [posS]; have := posS_le b k; split <;> omega
theorem posS_mono (b : List Bool) {i j : Nat} (h : i ≤ j) : posS b i ≤ posS b j := by
  induction j with
  | zero => rw [Nat.le_zero.1 h]; exact Nat.le_refl _
  | succ j ih =>
    by_cases e : i = j + 1
    · subst e; exact Nat.le_refl _
    · rw [posS]; exact Nat.le_trans (ih (by omega)) (by omega)
theorem posS_lt (b : List Bool) {i j : Nat} (h : i < j) (hs : stB b i = true) : posS b i < posS b j := by
  have h1 : posS b (i + 1) = posS b i + 1 := by rw [posS, if_pos hs]
  have := posS_mono b (show i + 1 ≤ j from h)
  omega
/-- what stays is made of what stays. -/
def OKR (p : List St) (b : List Bool) (f : Nat → Nat) : Prop := ∀ i, i < p.length → stB b i = true → (p.getD i st0).1 = 2 →
  (f (nA (p.getD i st0)) < i ∧ stB b (f (nA (p.getD i st0))) = true) ∧ (f (nB (p.getD i st0)) < i ∧ stB b (f (nB (p.getD i st0))) = true)
theorem ok_need {g : Int} {p : List St} (h : proofB g p = true) : OKR p (needL p) id := fun i hi hs h2 => by
  have hb := back_of h
  obtain ⟨h3, h4⟩ := need_step hb hi hs h2
  obtain ⟨h5, h6⟩ := hb i hi h2
  exact ⟨⟨h5, h3⟩, ⟨h6, h4⟩⟩
def trimL (p : List St) : List St := rebL p (needL p) id p.length
def frL (l : List (List Int)) : List Nat := l.map fun t => l.idxOf t
def frN (l : List (List Int)) (i : Nat) : Nat := (frL l).getD i 0
def frB (l : List (List Int)) : List Bool := (List.range l.length).map fun i => decide (frN l i = i)
theorem frL_len (l : List (List Int)) : (frL l).length = l.length := by unfold frL; simp
theorem frN_at {l : List (List Int)} {i : Nat} (h : i < l.length) : frN l i = l.idxOf l[i] := by
  unfold frN frL
  rw [List.getD_eq_getElem?_getD, List.getElem?_map, List.getElem?_eq_getElem h]; rfl
theorem frN_le {l : List (List Int)} {i : Nat} (h : i < l.length) : frN l i ≤ i := by
  rw [frN_at h]
  by_cases hc : i < l.idxOf l[i]
  · have := List.not_of_lt_findIdx (p := fun x => x == l[i]) (xs := l) (show i < List.findIdx (fun x => x == l[i]) l from hc)
    simp at this
  · omega
theorem frN_same {l : List (List Int)} {i : Nat} (h : i < l.length) : ∃ hk : frN l i < l.length, l[frN l i] = l[i] := by
  have h1 := frN_le h
  refine ⟨by omega, ?_⟩
  have h2 : List.findIdx (fun x => x == l[i]) l < l.length := by have := frN_at h; show l.idxOf l[i] < _; omega
  have h3 := List.findIdx_getElem (p := fun x => x == l[i]) (xs := l) (w := h2)
  have h4 : l.idxOf l[i] = List.findIdx (fun x => x == l[i]) l := rfl
  have h5 : frN l i = List.findIdx (fun x => x == l[i]) l := (frN_at h).trans h4
  simp only [h5]
  simpa using h3
theorem frN_idem {l : List (List Int)} {i : Nat} (h : i < l.length) : frN l (frN l i) = frN l i := by
  obtain ⟨hk, e⟩ := frN_same h
  rw [frN_at hk, e, ← frN_at h]
theorem frB_at {l : List (List Int)} {i : Nat} (h : i < l.length) : stB (frB l) i = decide (frN l i = i) := by
  unfold stB frB
  rw [List.getD_eq_getElem?_getD, List.getElem?_map, List.getElem?_range h]; rfl
theorem frB_fr {l : List (List Int)} {i : Nat} (h : i < l.length) : stB (frB l) (frN l i) = true := by
  obtain ⟨hk, -⟩ := frN_same h
  rw [frB_at hk, frN_idem h]; simp
theorem ok_fr {g : Int} {p : List St} {l : List (List Int)} (h : proofB g p = true) (hl : l.length = p.length) : OKR p (frB l) (frN l) := fun i hi hs h2 => by
  obtain ⟨h3, h4⟩ := back_of h i hi h2
  have h5 := frN_le (l := l) (i := nA (p.getD i st0)) (by omega)
  have h6 := frN_le (l := l) (i := nB (p.getD i st0)) (by omega)
  exact ⟨⟨by omega, frB_fr (by omega)⟩, ⟨by omega, frB_fr (by omega)⟩⟩
def lastF (p : List St) (l : List (List Int)) : Nat := frN l (p.length - 1)
def mrgP (p : List St) (l : List (List Int)) : List St := (rebL p (frB l) (frN l) p.length).take (posS (frB l) (lastF p l) + 1)
end Go.Proofs.YtmpjaakkjhmpmaaGreatDoor
namespace Go.Proofs.YtmpjaakkjhmpmaaGreatDoor
open Go Go.RowKit Go.Maps
/-- what a proof says at its end. -/
def SayP (s : Sg) (g : List (List Int)) (p : List St) (x : List Int × Int) : Prop :=
  (askedB s g p = false ∧ x = ([], 1)) ∨ (askedB s g p = true ∧ ∃ l, RunR s g p l x.2 ∧ ((x.2 = 0 ∧ l.getLast? = some x.1) ∨ (x.2 ≠ 0 ∧ x.1 = [])))
theorem Ints.nil (w : World) : Ints w (.slice none 0 0) [] := ⟨rfl, none, 0, rfl, Nat.le_refl _, by simp, fun _ => rfl, fun j u hj => by simp at hj⟩
theorem proof1 {g : Int} {p : List St} (h : proofB g p = true) : 1 ≤ p.length := by
  unfold proofB at h
  simp only [Bool.and_eq_true] at h
  have := inB_true.1 h.2
  omega
set_option maxHeartbeats 1000000 in
theorem kernel_Says (vs vg vp : Value) (s : Sg) (g : List (List Int)) (p : List St) (w : World) (hs : SignAt w vs s) (hg : Terms w vg g) (hp : StepsAt w vp p) (hs1 : s.length ≤ 1000) :
    Calls Tryz.prog 21 #[vs, vg, vp] w fun e w' => ∃ x u, SayP s g p x ∧ e = .returned (.tuple #[u, .int .i64 x.2]) ∧ Ints w' u x.1 ∧ Below w.heap.size w w' := by
  have HR := hid (kernel_Run vs vg vp s g p w hs hg hp hs1)
  clear hs hg hp
  go_enter Tryz.func21, Tryz.ntmps21
  go_wp2_with fail
  refine HR.out.mono ?_
  rintro e w1 ⟨u, l, n, er, rfl, hq, hT, hb⟩
  rcases hq with ⟨ha, rfl, rfl, rfl⟩ | ⟨ha, hr, -⟩
  · have HX : Hid (SayP s g p ([], 1)) := hid (Or.inl ⟨ha, rfl⟩)
    clear ha hT
    go_wp2
    go_ret2
    exact ⟨([], 1), _, HX.out, rfl, Ints.nil _, hb⟩
  · by_cases h0 : er = 0
    · subst h0
      have hlen : 1 ≤ l.length := by
        have h1 := proof1 (asked_parts ha).2
        rcases hr.2 with ⟨-, h⟩ | ⟨h, -⟩
        · omega
        · exact absurd rfl h
      obtain ⟨a, cap, rfl, hc, hl, -, HC⟩ := hT.open
      obtain ⟨b, o, u, rfl, c, hi⟩ := HC (l.length - 1) (by omega)
      have HX : Hid (SayP s g p (l[l.length - 1], 0)) := hid (Or.inr ⟨ha, l, hr, Or.inl ⟨rfl, by rw [List.getLast?_eq_getElem?, List.getElem?_eq_getElem (by omega)]⟩⟩)
      have HI := hid hi
      obtain ⟨x, hx⟩ : ∃ x, l[l.length - 1] = x := ⟨_, rfl⟩
      rw [hx] at HX HI
      obtain ⟨q, hq⟩ : ∃ q : Nat, l.length = q + 1 := ⟨l.length - 1, by omega⟩
      rw [hq] at hc hl c ⊢
      simp only [Nat.add_sub_cancel] at c
      have hw : IntKind.i64.wrap (((q + 1 : Nat) : Int) - 1) = q := by rw [IntWalk.i64_in _ (by omega)]; omega
      clear hi hx HC hT ha hr hq hlen
      go_wp2
      go_ret2
      exact ⟨(x, 0), _, HX.out, rfl, HI.out, hb⟩
    · have n0 : (er != 0) = true := by simpa using h0
      have HX : Hid (SayP s g p ([], er)) := hid (Or.inr ⟨ha, l, hr, Or.inr ⟨h0, rfl⟩⟩)
      clear ha hr hT h0
      go_wp2
      go_ret2
      exact ⟨([], er), _, HX.out, rfl, Ints.nil _, hb⟩
/-- what an entry says, by its name. -/
def saysN (l : List En) (n : Nm) : Option (List Int) := (idxN l n).bind fun i => (l[i]?).map En.says
def givL (l : List En) : List Nm → Option (List (List Int))
  | [] => some []
  | n :: ns => match saysN l n, givL l ns with
    | some t, some ts => some (t :: ts)
    | _, _ => none
/-- what an entry's proof says; false if it is no proof of anything. -/
def StrP (s : Sg) (l : List En) (e : En) (x : List Int × Bool) : Prop :=
  (e.proof.length = 0 ∧ x = (e.says, true)) ∨ (e.proof.length ≠ 0 ∧ ((givL l e.uses = none ∧ x = ([], false)) ∨ ∃ g y, givL l e.uses = some g ∧ SayP s g e.proof y ∧ x = (y.1, decide (y.2 = 0))))
def StrQ (s : Sg) (l : List En) (x : En) (w : World) (e : Ending) (w' : World) : Prop := ∃ y u, StrP s l x y ∧ e = .returned (.tuple #[u, .bool y.2]) ∧ Ints w' u y.1 ∧ Below w.heap.size w w'
theorem StrQ.mk {s : Sg} {l : List En} {x : En} {w : World} {e : Ending} {w' : World} (y : List Int × Bool) (u : Value) (h1 : StrP s l x y) (h2 : e = .returned (.tuple #[u, .bool y.2])) (h3 : Ints w' u y.1) (h4 : Below w.heap.size w w') : StrQ s l x w e w' := ⟨y, u, h1, h2, h3, h4⟩
def HldP (s : Sg) (l : List En) (e : En) (z : Bool) : Prop := ∃ x, StrP s l e x ∧ z = (x.2 && instB s x.1 e.says)
/-- what Holds answers. -/
def HoldR (s : Sg) (l : List En) (n : Nm) (z : Bool) (e : Int) : Prop := (libB s l = false ∧ z = false ∧ e = 1) ∨ (libB s l = true ∧ ((idxN l n = none ∧ z = false ∧ e = 5) ∨ ∃ i, ∃ h : i < l.length, idxN l n = some i ∧ HldP s l l[i] z ∧ e = 0))
def HoldQ (s : Sg) (l : List En) (n : Nm) (w : World) (e : Ending) (w' : World) : Prop := ∃ z er, HoldR s l n z er ∧ e = .returned (.tuple #[.bool z, .int .i64 er]) ∧ Below w.heap.size w w'
theorem HoldQ.mk {s : Sg} {l : List En} {n : Nm} {w : World} {e : Ending} {w' : World} (z : Bool) (er : Int) (h1 : HoldR s l n z er) (h2 : e = .returned (.tuple #[.bool z, .int .i64 er])) (h3 : Below w.heap.size w w') : HoldQ s l n w e w' := ⟨z, er, h1, h2, h3⟩
/-- what Strongest answers. -/
def StgR (s : Sg) (l : List En) (n : Nm) (t : List Int) (e : Int) : Prop := (libB s l = false ∧ t = [] ∧ e = 1) ∨ (libB s l = true ∧ ((idxN l n = none ∧ t = [] ∧ e = 5) ∨ ∃ i, ∃ h : i < l.length, idxN l n = some i ∧ ∃ x, StrP s l l[i] x ∧ ((x.2 = true ∧ t = x.1 ∧ e = 0) ∨ (x.2 = false ∧ t = [] ∧ e = 11))))
def StgQ (s : Sg) (l : List En) (n : Nm) (w : World) (e : Ending) (w' : World) : Prop := ∃ u t er, StgR s l n t er ∧ e = .returned (.tuple #[u, .int .i64 er]) ∧ Ints w' u t ∧ Below w.heap.size w w'
theorem StgQ.mk {s : Sg} {l : List En} {n : Nm} {w : World} {e : Ending} {w' : World} (u : Value) (t : List Int) (er : Int) (h1 : StgR s l n t er) (h2 : e = .returned (.tuple #[u, .int .i64 er])) (h3 : Ints w' u t) (h4 : Below w.heap.size w w') : StgQ s l n w e w' := ⟨u, t, er, h1, h2, h3, h4⟩
end Go.Proofs.YtmpjaakkjhmpmaaGreatDoor
namespace Go.Proofs.YtmpjaakkjhmpmaaGreatDoor
open Go Go.RowKit Go.Maps
/-- what says answers. -/
def SaysR (s : Sg) (l : List En) (ns : List Nm) (ts : List (List Int)) (e : Int) : Prop := (libB s l = false ∧ ts = [] ∧ e = 1) ∨ (libB s l = true ∧ ((givL l ns = none ∧ ts = [] ∧ e = 5) ∨ (givL l ns = some ts ∧ e = 0)))
/-- the error of a library and of names that must be there. -/
def nmdI (s : Sg) (l : List En) (ns : List Nm) : Int := if libB s l then (if (givL l ns).isNone then 5 else 0) else 1
theorem SaysR.named {s : Sg} {l : List En} {ns : List Nm} {ts : List (List Int)} {e : Int} (h : SaysR s l ns ts e) : e = nmdI s l ns ∧ (e = 0 → libB s l = true ∧ givL l ns = some ts) := by
  unfold nmdI
  rcases h with ⟨h1, rfl, rfl⟩ | ⟨h1, ⟨h2, rfl, rfl⟩ | ⟨h2, rfl⟩⟩
  · rw [h1]; exact ⟨rfl, fun h => by cases h⟩
  · rw [h1, h2]; exact ⟨rfl, fun h => by cases h⟩
  · rw [h1, h2]; exact ⟨rfl, fun _ => ⟨rfl, rfl⟩⟩
/-- what Along answers. -/
def AloR (s : Sg) (l : List En) (a n : Nm) (x : List Int × Int) : Prop :=
  (nmdI s l [a, n] ≠ 0 ∧ x = ([], nmdI s l [a, n])) ∨ (nmdI s l [a, n] = 0 ∧ libB s l = true ∧ ∃ p q, saysN l a = some p ∧ saysN l n = some q ∧ DetR s p q x)
theorem det_len {s : Sg} {m n : List Int} {y : List Int × Int} (h : DetR s m n y) : y.1.length ≤ 60 := by
  rcases h with ⟨-, rfl⟩ | ⟨-, -, ⟨-, rfl⟩ | ⟨A, B, -, -, -, ⟨-, rfl⟩ | ⟨m, -, ⟨hb, rfl⟩ | ⟨-, rfl⟩⟩⟩⟩
  · simp
  · simp
  · simp
  · rw [canonL_len]; exact (madeB_iff.1 hb).1
  · simp
/-- what There answers. -/
def TheR (s : Sg) (l : List En) (a b n : Nm) (x : List Int × Int) : Prop :=
  (nmdI s l [a, b, n] ≠ 0 ∧ x = ([], nmdI s l [a, b, n])) ∨ (nmdI s l [a, b, n] = 0 ∧ libB s l = true ∧ ∃ p q r y, saysN l a = some p ∧ saysN l b = some q ∧ saysN l n = some r ∧ DetR s p r y ∧ ((y.2 ≠ 0 ∧ x = ([], y.2)) ∨ (y.2 = 0 ∧ DetR s q y.1 x)))
end Go.Proofs.YtmpjaakkjhmpmaaGreatDoor
namespace Go.Proofs.YtmpjaakkjhmpmaaGreatDoor
open Go Go.RowKit Go.Maps
set_option maxRecDepth 100000 in
theorem sl_Clone_steps (v : Value) (n : Nat) (xs : List Value) (w : World) (hv : RowK w v 3 n xs) (h1 : ∀ u ∈ xs, u.oneCell' = true) (hn : n ≤ 1000) :
    Calls Tryz.prog 66 #[v] w fun e w' => ∃ u, e = .returned u ∧ w'.ownsRow w.heap.size 57 3 u n xs ∧ Below w.heap.size w w' := by
  have HV := hid hv
  obtain ⟨hl, a, cap, rfl, hc, hm, hnone, -⟩ := hv
  have q37 := fun (w : World) (a : Option Addr) (n c n' c' : Nat) => Lib.run_eql_slice_nil (P := Tryz.prog) w _ _ a n c n' c' Tryz.underlying25
  cases a with
  | none =>
    have hc0 := hnone rfl
    have hn0 : n = 0 := by omega
    subst hn0
    have hx : xs = [] := by simpa using hl
    subst hx
    clear HV
    go_enter Tryz.func66, Tryz.ntmps66
    go_wp2
    go_ret
    exact ⟨_, rfl, World.ownsRow_nil _ _ _ _, Below.refl _ _⟩
  | some ad =>
    have hb0 : Below w.heap.size w (w.alloc (.cells #[] 57)) := (Below.refl _ _).alloc (Nat.le_refl _) _
    have HR := hid (HV.out.below hb0)
    have HOWN := hid (World.ownsRow_lit (base := w.heap.size) (e := 57) (size := 3) w #[] 0 (Nat.le_refl _) (by simp [maxLen]) rfl)
    have HB0 := hid hb0
    clear HV hb0
    go_enter Tryz.func66, Tryz.ntmps66
    go_wp2_with (at_builtin; refine wpList_append_row rfl _ _ 25 rfl w.heap.size 57 el_step Tryz.underlying25 rfl (by decide) _ _ _ rfl HOWN.out _ n xs rfl HR.out h1 (by omega) (by omega) (by simp) ?_; intro v' w4 hown4 hgrow4 _)
    go_ret
    exact ⟨_, rfl, by simpa using hown4, HB0.out.grown hgrow4 (by simp) (fun q hq => by cases hq; exact Nat.le_refl _)⟩
theorem stC_one (l : List St) : ∀ u ∈ stC l, u.oneCell' = true := by
  intro u hu
  unfold stC at hu
  obtain ⟨x, -, hx⟩ := List.mem_flatMap.1 hu
  simp [stV] at hx
  rcases hx with rfl | rfl | rfl <;> rfl
/-- the error of a new entry's names, and of others that it uses. -/
def frI (s : Sg) (l : List En) (o b : Nm) (ns : List Nm) : Int := if libB s l && (nmB o && nmB b) then (if nmdI s l ns = 0 then (if (idxN l o).isSome then 6 else 0) else nmdI s l ns) else 1
end Go.Proofs.YtmpjaakkjhmpmaaGreatDoor
namespace Go.Proofs.YtmpjaakkjhmpmaaGreatDoor
open Go Go.RowKit Go.Maps
def en0 : En := ⟨⟨#[]⟩, ⟨#[]⟩, [], [], []⟩
theorem StepsAt.nil (w : World) : StepsAt w (.slice none 0 0) [] := ⟨rfl, none, 0, rfl, Nat.le_refl _, by simp, fun _ => rfl, fun j u hj => by simp [stC] at hj⟩
theorem EntAt.zero (w : World) : EntAt w (.slice none 0 0) (.slice none 0 0) (.slice none 0 0) en0 := ⟨Ints.nil w, TxtsAt.nil w, StepsAt.nil w, by simp [en0, ByteArray.size], by simp [en0, ByteArray.size]⟩
/-- a cell of five of the call's own: it can be read and written. -/
structure C5 (w : World) (b : Nat) (x0 x1 x2 x3 x4 : Value) : Prop where
  c0 : w.cell? ⟨b, 0, none⟩ = some x0
  c1 : w.cell? ⟨b, 1, none⟩ = some x1
  c2 : w.cell? ⟨b, 2, none⟩ = some x2
  c3 : w.cell? ⟨b, 3, none⟩ = some x3
  c4 : w.cell? ⟨b, 4, none⟩ = some x4
  z0 : w.frozen? ⟨b, 0, none⟩ = false
  z1 : w.frozen? ⟨b, 1, none⟩ = false
  z2 : w.frozen? ⟨b, 2, none⟩ = false
  z3 : w.frozen? ⟨b, 3, none⟩ = false
  z4 : w.frozen? ⟨b, 4, none⟩ = false
theorem C5.block {w w' : World} {b : Nat} {x0 x1 x2 x3 x4 : Value} (h : C5 w b x0 x1 x2 x3 x4) (hb : w'.heap[b]? = w.heap[b]?) : C5 w' b x0 x1 x2 x3 x4 := by
  have k : ∀ j, w'.cell? ⟨b, j, none⟩ = w.cell? ⟨b, j, none⟩ := fun j => World.cell?_of_block hb
  have f : ∀ j, w'.frozen? ⟨b, j, none⟩ = w.frozen? ⟨b, j, none⟩ := fun j => World.frozen?_of_block hb
  exact ⟨(k 0).trans h.c0, (k 1).trans h.c1, (k 2).trans h.c2, (k 3).trans h.c3, (k 4).trans h.c4, (f 0).trans h.z0, (f 1).trans h.z1, (f 2).trans h.z2, (f 3).trans h.z3, (f 4).trans h.z4⟩
theorem C5.below {w w' : World} {b : Nat} {x0 x1 x2 x3 x4 : Value} (h : C5 w b x0 x1 x2 x3 x4) (hb : Below w.heap.size w w') : C5 w' b x0 x1 x2 x3 x4 :=
  h.block (hb.block b (World.block_lt_of_cell? _ _ h.c0))
theorem C5.new (w : World) (x0 x1 x2 x3 x4 : Value) (t : TypeId) : C5 (w.alloc (.cells #[x0, x1, x2, x3, x4] t)) w.heap.size x0 x1 x2 x3 x4 := by
  obtain ⟨h0, h1, h2, h3, h4, -⟩ := box5e w x0 x1 x2 x3 x4 t
  exact ⟨h0, h1, h2, h3, h4, World.frozen?_alloc_new _ _ _ _, World.frozen?_alloc_new _ _ _ _, World.frozen?_alloc_new _ _ _ _, World.frozen?_alloc_new _ _ _ _, World.frozen?_alloc_new _ _ _ _⟩
/-- the five cells written. -/
def set5 (w : World) (b : Nat) (y0 y1 y2 y3 y4 : Value) : World := ((((w.setCell ⟨b, 0, none⟩ y0).setCell ⟨b, 1, none⟩ y1).setCell ⟨b, 2, none⟩ y2).setCell ⟨b, 3, none⟩ y3).setCell ⟨b, 4, none⟩ y4
theorem C5.store {w : World} {b : Nat} {x0 x1 x2 x3 x4 : Value} (h : C5 w b x0 x1 x2 x3 x4) (y0 y1 y2 y3 y4 : Value) : C5 (set5 w b y0 y1 y2 y3 y4) b y0 y1 y2 y3 y4 := by
  have e : set5 w b y0 y1 y2 y3 y4 = w.setCells b 0 [y0, y1, y2, y3, y4] := rfl
  have hin := World.cell?_setCells_in b [y0, y1, y2, y3, y4] 0 w (by
    intro j hj
    rw [Nat.zero_add]
    match j, hj with
    | 0, _ => rw [h.c0]; rfl
    | 1, _ => rw [h.c1]; rfl
    | 2, _ => rw [h.c2]; rfl
    | 3, _ => rw [h.c3]; rfl
    | 4, _ => rw [h.c4]; rfl)
  have hf := fun j => World.frozen?_setCells b [y0, y1, y2, y3, y4] 0 w ⟨b, j, none⟩
  rw [e]
  exact ⟨hin 0 (by simp), hin 1 (by simp), hin 2 (by simp), hin 3 (by simp), hin 4 (by simp), (hf 0).trans h.z0, (hf 1).trans h.z1, (hf 2).trans h.z2, (hf 3).trans h.z3, (hf 4).trans h.z4⟩
theorem owns_blocks {w W' : World} {b : Nat} {e : TypeId} {k : Nat} {v : Value} {n : Nat} {xs : List Value} (h : w.ownsRow b e k v n xs) (hs : ∀ q, b ≤ q → q < w.heap.size → v.ownBlock = some q → W'.heap[q]? = w.heap[q]?) : W'.ownsRow b e k v n xs := by
  have hlt := h.lt
  obtain ⟨h1, h2⟩ := h
  refine ⟨h1, ?_⟩
  rcases h2 with h2 | ⟨g, cap, cur, rfl, r2, r3, r4⟩
  · exact .inl h2
  · exact .inr ⟨g, cap, cur, rfl, r2, by rw [hs g (hlt g rfl).1 (hlt g rfl).2 rfl]; exact r3, r4⟩
/-- what Moved answers. -/
def MovR (s : Sg) (l : List En) (a n o b : Nm) (x : En) (e : Int) : Prop :=
  (frI s l o b [a, n] ≠ 0 ∧ x = en0 ∧ e = frI s l o b [a, n]) ∨ (frI s l o b [a, n] = 0 ∧ ∃ p q y, saysN l a = some p ∧ saysN l n = some q ∧ DetR s p q y ∧
    ((y.2 ≠ 0 ∧ x = en0 ∧ e = y.2) ∨ (y.2 = 0 ∧ x = ⟨o, b, y.1, if a = n then [a] else [a, n], if a = n then mvP1 else mvP⟩ ∧ e = 0)))
def EntQ (R : En → Int → Prop) (w : World) (e : Ending) (w' : World) : Prop := ∃ x vS vU vP er, R x er ∧ e = .returned (.tuple #[.agg #[.string x.name, .string x.who, vS, vU, vP], .int .i64 er]) ∧ EntAt w' vS vU vP x ∧ Below w.heap.size w w'
theorem EntQ.mk {R : En → Int → Prop} {w : World} {e : Ending} {w' : World} (x : En) (vS vU vP : Value) (er : Int) (h1 : R x er) (h2 : e = .returned (.tuple #[.agg #[.string x.name, .string x.who, vS, vU, vP], .int .i64 er])) (h3 : EntAt w' vS vU vP x) (h4 : Below w.heap.size w w') : EntQ R w e w' := ⟨x, vS, vU, vP, er, h1, h2, h3, h4⟩
theorem EntQ.zero {R : En → Int → Prop} {w w' : World} {er : Int} (h1 : R en0 er) (h4 : Below w.heap.size w w') : EntQ R w (.returned (.tuple #[.agg #[.string ⟨#[]⟩, .string ⟨#[]⟩, .slice none 0 0, .slice none 0 0, .slice none 0 0], .int .i64 er])) w' := ⟨en0, _, _, _, er, h1, rfl, EntAt.zero _, h4⟩
theorem owns_slice {w : World} {b : Nat} {e : TypeId} {k : Nat} {v : Value} {n : Nat} {xs : List Value} (h : w.ownsRow b e k v n xs) : ∃ a c, v = .slice a n c := by
  obtain ⟨a, c, h1, -⟩ := owns_open h
  exact ⟨a, c, h1⟩
end Go.Proofs.YtmpjaakkjhmpmaaGreatDoor
namespace Go.Proofs.YtmpjaakkjhmpmaaGreatDoor
open Go Go.RowKit Go.Maps
end Go.Proofs.YtmpjaakkjhmpmaaGreatDoor
namespace Go.Proofs.YtmpjaakkjhmpmaaGreatDoor
open Go
/-- where a text stands first among those of the statements so far. -/
def fM (L : List (List Int)) (s : ByteArray) : Option Int := (L.findIdx? fun t => decide (shkB t = s)).map Int.ofNat
theorem fM_snoc (L : List (List Int)) (t : List Int) (s : ByteArray) : fM (L ++ [t]) s = match fM L s with | some i => some i | none => if shkB t = s then some (L.length : Int) else none := by
  unfold fM
  rw [List.findIdx?_append]
  cases h : L.findIdx? fun t => decide (shkB t = s) with
  | some i => rfl
  | none =>
    by_cases e : shkB t = s
    · simp [e, List.findIdx?_cons]
    · simp [e, List.findIdx?_cons]
theorem fM_old {L : List (List Int)} {t : List Int} {i : Int} (h : fM L (shkB t) = some i) : fM (L ++ [t]) = fM L := by
  funext s
  rw [fM_snoc]
  cases e : fM L s with
  | some j => rfl
  | none =>
    by_cases e2 : shkB t = s
    · subst e2; rw [h] at e; cases e
    · rw [if_neg e2]
theorem fM_new {L : List (List Int)} {t : List Int} (h : fM L (shkB t) = none) : (fun y => if y = shkB t then some (L.length : Int) else fM L y) = fM (L ++ [t]) := by
  funext s
  rw [fM_snoc]
  by_cases e : s = shkB t
  · subst e; rw [if_pos rfl, h]; simp
  · rw [if_neg e]
    cases e2 : fM L s with
    | some j => rfl
    | none => rw [if_neg (fun h => e h.symm)]
theorem fM_at {l : List (List Int)} {i : Nat} (h : i < l.length) : fM (l.take (i + 1)) (shkB l[i]) = some (frN l i : Int) := by
  have e : (fun t => decide (shkB t = shkB l[i])) = fun t => t == l[i] := by
    funext t
    rw [Bool.eq_iff_iff]
    simp only [decide_eq_true_eq, beq_iff_eq]
    exact ⟨shkB_inj, fun h => by rw [h]⟩
  have h1 := frN_le h
  have h2 : l.findIdx (fun t => t == l[i]) = frN l i := (frN_at h).symm
  unfold fM
  rw [e]
  have h3 : (l.take (i + 1)).findIdx? (fun t => t == l[i]) = some (frN l i) := by
    rw [List.findIdx?_eq_some_iff_findIdx_eq]
    refine ⟨by rw [List.length_take]; omega, ?_⟩
    rw [List.findIdx_take, h2]
    omega
  rw [h3]; rfl
theorem frL_take {l : List (List Int)} {i : Nat} (h : i < l.length) : (frL l).take (i + 1) = (frL l).take i ++ [frN l i] := by
  rw [List.take_succ_eq_append_getElem (by rw [frL_len]; exact h)]
  congr 2
  unfold frN
  rw [List.getD_eq_getElem?_getD, List.getElem?_eq_getElem (by rw [frL_len]; exact h)]; rfl
end Go.Proofs.YtmpjaakkjhmpmaaGreatDoor
