/-
  WHAT IT HOLDS: contracts of full of package unify's solver: a term with all that is bound put in, or false if it is longer than 60. Conditions: the solver reads as data; what it binds leans on nothing of itself.
  WHAT IT HOLDS: contracts of solved, Meets, Meet, Unifiable, Unified, Detached of package unify and of made of its solver: what they answer, by most general binds. Conditions: the arguments read as data; small signs.
  WHAT IT HOLDS: plain laws of meets and joins: a common instance is one of the meet; what has both as instances has the join; meets and joins are valid. No program in sight.
  WHAT IT HOLDS: the plain law of meets: the meet does not depend on the order, is an instance of both, and is alike the second exactly if that is an instance of the first. No program.
  WHAT IT HOLDS: contract of size of the reference's solver (layer 2). Conditions: the solver reads as data; the term is a term of at most 60 numbers; what is known is so.
  WHAT IT HOLDS: contracts of Apart and Whole and Few of the reference (layer 2). Conditions: the arguments read as data.
  WHAT IT HOLDS: contracts of Meets, Join of package unify, and of the helper awake of the laws of layer 2. Conditions: the arguments read as data; small signs.
-/
import Derived.OneCell
import Derived.Deep.RegionHeld3
import Derived.Test.YtlbjbmpkaniojaaGreatZRBlameMerges19
import Derived.Test.YtlbjbmpkaniojaaGreatZRBlameMerges17
import Derived.Test.YtlbjbmpkaniojaaGreatZRBlameMerges10
import Derived.Test.YtlbjbmpkaniojaaGreatZRBlameMerges12
import Derived.Test.YtlbjbmpkaniojaaGreatZRBlameMerges20
namespace Go.Proofs.YtlbjbmpkaniojaaGreat
open Go Go.RowKit Go.Maps
theorem fw_take {m : MM} (t : List Int) {i : Nat} (h : i < t.length) : fw m (t.take (i + 1)) = fw m (t.take i) ++ fw m [t[i]] := by
  rw [List.take_succ_eq_append_getElem h, fw_append]
def aparL (t : List Int) : List Int := t.map fun n => if n < 0 then n - 12 else n
end Go.Proofs.YtlbjbmpkaniojaaGreat
namespace Go.Proofs.YtlbjbmpkaniojaaGreat
open Go Go.RowKit Go.Maps
def madeB (F : List Int) : Bool := decide (F.length ≤ 60) && decide ((varsF [] F).length ≤ 12)
/-- what is made of t where a and b are unified. -/
def UR (s : Sg) (a b t : List Int) (x : List Int × Int) : Prop :=
  (NoU s a b ∧ x = ([], 8)) ∨ ∃ m, Mgu s a b m ∧ ((madeB (fw m t) = true ∧ x = (canonL (fw m t), 0)) ∨ (madeB (fw m t) = false ∧ x = ([], 4)))
theorem varsF_canon_len (t : List Int) : (varsF [] (canonL t)).length = (varsF [] t).length := by
  have h := varsF_map (ρ := numV (varsF [] t)) t [] (fun n _ h => numV_neg.2 h) (fun n _ h => by unfold numV; rw [if_neg (by omega)]) (fun n hn m _ h1 h2 e => numV_inj h1 h2 ((varsF_mem t [] n).2 (Or.inr ⟨by simpa using hn, h1⟩)) e) (by simp)
  rw [List.map_nil] at h
  unfold canonL
  rw [h, List.length_map]
theorem madeB_canon {F G : List Int} (h : canonL F = canonL G) : madeB F = madeB G := by
  have h1 : F.length = G.length := by have := congrArg List.length h; simpa [canonL_len] using this
  have h2 : (varsF [] F).length = (varsF [] G).length := by rw [← varsF_canon_len F, ← varsF_canon_len G, h]
  unfold madeB
  rw [h1, h2]
theorem UR.unique {s : Sg} {a b t : List Int} (ht : IsT s 24 t) {x y : List Int × Int} (h : UR s a b t x) (k : UR s a b t y) : x = y := by
  rcases h with ⟨h1, rfl⟩ | ⟨m, hm, h⟩
  · rcases k with ⟨_, rfl⟩ | ⟨m', hm', _⟩
    · rfl
    · exact (hm'.not_no h1).elim
  · rcases k with ⟨k1, _⟩ | ⟨m', hm', k⟩
    · exact (hm.not_no k1).elim
    · have hc := hm.canon hm' ht
      have hb := madeB_canon hc
      rcases h with ⟨h1, rfl⟩ | ⟨h1, rfl⟩ <;> rcases k with ⟨k1, rfl⟩ | ⟨k1, rfl⟩
      · rw [hc]
      · rw [hb, k1] at h1; cases h1
      · rw [hb, k1] at h1; cases h1
      · rfl
theorem aparL_sub (t : List Int) : aparL t = subL (fun n => [n - 12]) t := by
  induction t with
  | nil => rfl
  | cons n t ih =>
    by_cases h : n < 0
    · rw [subL_cons_var _ h, ← ih]; simp [aparL, h]
    · rw [subL_cons_app _ (by omega), ← ih]; simp [aparL, h]
def MeetR (s : Sg) (a b : List Int) (x : List Int × Int) : Prop := if termB s a && termB s b then UR s a (aparL b) a x else x = ([], 1)
/-- whether two terms meet. -/
def MeetsQ (s : Sg) (a b : List Int) : Prop := termB s a = true ∧ termB s b = true ∧ ¬ NoU s a (aparL b)
def MeetsA (s : Sg) (a b : List Int) (z : Bool) : Prop := z = true ↔ MeetsQ s a b
end Go.Proofs.YtlbjbmpkaniojaaGreat
namespace Go.Proofs.YtlbjbmpkaniojaaGreat
end Go.Proofs.YtlbjbmpkaniojaaGreat
namespace Go.Proofs.YtlbjbmpkaniojaaGreat
open Go Go.RowKit Go.Maps
/-- the variables of the two sides change places. -/
def swN (n : Int) : Int := if -12 ≤ n then n - 12 else n + 12
theorem sw_sub {s : Sg} {a b : List Int} (ha : IsT s 12 a) (hb : IsT s 12 b) {σ : Int → List Int} (h : TS s σ) (e : subL σ a = subL σ (aparL b)) :
    TS s (fun n => σ (swN n)) ∧ subL (fun n => σ (swN n)) b = subL σ a ∧ subL (fun n => σ (swN n)) (aparL a) = subL σ a := by
  obtain ⟨q, hq⟩ := h
  refine ⟨⟨q, fun v h1 h2 => ?_⟩, ?_, ?_⟩
  · unfold swN
    (try simp only)
    split <;> exact hq _ (by omega) (by omega)
  · rw [e, aparL_sub, subL_comp]
    refine subL_congr fun n hn hn0 => ?_
    have := hb.vars n hn hn0
    (try simp only)
    rw [subL_one, if_pos (by omega), swN, if_pos (by omega)]
  · rw [aparL_sub, subL_comp]
    refine subL_congr fun n hn hn0 => ?_
    have := ha.vars n hn hn0
    (try simp only)
    rw [subL_one, if_pos (by omega), swN, if_neg (by omega), show n - 12 + 12 = n by omega]
theorem nou_swap {s : Sg} {a b : List Int} (ha : IsT s 12 a) (hb : IsT s 12 b) (h : NoU s b (aparL a)) : NoU s a (aparL b) := fun σ hσ e => by
  obtain ⟨h1, h2, h3⟩ := sw_sub ha hb hσ e
  exact h _ h1 (h2.trans h3.symm)
theorem mgu_swap1 {s : Sg} {a b : List Int} {m m' : MM} (ha : IsT s 12 a) (hb : IsT s 12 b) (h : Mgu s a (aparL b) m) (h' : Mgu s b (aparL a) m') : Inst s 24 (fw m' b) (fw m a) := by
  obtain ⟨h1, h2, h3⟩ := sw_sub ha hb (sg_TS h.1) h.sol
  have hg := h'.gen h1 (h2.trans h3.symm) b
  refine ⟨fun n => sg m (swN n), fun n hn hn0 => ?_, ?_⟩
  · have hv := (fw_T h'.1 (hb.mono (m' := 24) (by omega))).vars n hn hn0
    (try simp only)
    refine sg_T h.1 ?_ ?_ <;> (unfold swN; split <;> omega)
  · rw [hg, h2, fw_sub h.1]
theorem mgu_swap {s : Sg} {a b : List Int} {m m' : MM} (ha : IsT s 12 a) (hb : IsT s 12 b) (h : Mgu s a (aparL b) m) (h' : Mgu s b (aparL a) m') : canonL (fw m a) = canonL (fw m' b) :=
  (alike_iff (fw_T h.1 (ha.mono (by omega))) (fw_T h'.1 (hb.mono (by omega)))).2 ⟨mgu_swap1 hb ha h' h, mgu_swap1 ha hb h h'⟩
theorem MeetR.unique {s : Sg} {a b : List Int} {x y : List Int × Int} (h : MeetR s a b x) (k : MeetR s a b y) : x = y := by
  unfold MeetR at h k
  split at h
  · rename_i hv
    rw [if_pos hv] at k
    simp only [Bool.and_eq_true] at hv
    exact UR.unique ((termB_T hv.1).mono (by omega)) h k
  · rename_i hv
    rw [if_neg hv] at k
    rw [h, k]
theorem MeetR.swap {s : Sg} {a b : List Int} {x y : List Int × Int} (h : MeetR s a b x) (k : MeetR s b a y) : x = y := by
  unfold MeetR at h k
  rw [Bool.and_comm] at k
  split at h
  · rename_i hv
    rw [if_pos hv] at k
    simp only [Bool.and_eq_true] at hv
    have ha := termB_T hv.1
    have hb := termB_T hv.2
    rcases h with ⟨h1, rfl⟩ | ⟨m, hm, h⟩
    · rcases k with ⟨_, rfl⟩ | ⟨m', hm', _⟩
      · rfl
      · exact (hm'.not_no (nou_swap hb ha h1)).elim
    · rcases k with ⟨k1, _⟩ | ⟨m', hm', k⟩
      · exact (hm.not_no (nou_swap ha hb k1)).elim
      · have hc := mgu_swap ha hb hm hm'
        have hb := madeB_canon hc
        rcases h with ⟨h1, rfl⟩ | ⟨h1, rfl⟩ <;> rcases k with ⟨k1, rfl⟩ | ⟨k1, rfl⟩
        · rw [hc]
        · rw [hb, k1] at h1; cases h1
        · rw [hb, k1] at h1; cases h1
        · rfl
  · rename_i hv
    rw [if_neg hv] at k
    rw [h, k]
theorem MeetsA.unique {s : Sg} {a b : List Int} {z z' : Bool} (h : MeetsA s a b z) (k : MeetsA s a b z') : z = z' := Bool.eq_iff_iff.2 (h.trans k.symm)
end Go.Proofs.YtlbjbmpkaniojaaGreat
namespace Go.Proofs.YtlbjbmpkaniojaaGreat
open Go Go.RowKit Go.Maps
def szT (m : MM) (t : List Int) : Nat := min (fw m t).length 61
def Kno (m : MM) (cs : Array Value) : Prop := cs.size = 24 ∧ ∀ v : Nat, v < 24 → ∃ x : Nat, cs[v]? = some (.int .i64 x) ∧ (x = 0 ∨ ∃ p, m (-(v : Int) - 1) = some p ∧ x = szT m p)
theorem Kno.set {m : MM} {cs : Array Value} (h : Kno m cs) (v : Nat) {p : List Int} (hp : m (-(v : Int) - 1) = some p) : Kno m (cs.setIfInBounds v (.int .i64 (szT m p))) := by
  refine ⟨by simpa using h.1, fun x hx => ?_⟩
  rw [Array.getElem?_setIfInBounds]
  by_cases e : v = x
  · subst e
    exact ⟨szT m p, by simp [h.1, hx], Or.inr ⟨p, hp, rfl⟩⟩
  · rw [if_neg e]
    exact h.2 x hx
theorem Kno.at {m : MM} {cs : Array Value} (h : Kno m cs) {v : Nat} (hv : v < 24) {w : World} {pd : Nat} (ha : ArrV w pd cs) : ∃ x3 : Nat, Kno m cs ∧ ArrV w pd cs ∧ w.cell? ⟨pd, v, none⟩ = some (.int .i64 x3) := by
  obtain ⟨x, h1, -⟩ := h.2 v hv
  exact ⟨x, h, ha, by rw [ha.cell]; exact h1⟩
def SzI (m : MM) (t : List Int) (i n : Nat) : Prop := n ≤ 121 ∧ (n ≤ 60 → n = (fw m (t.take i)).length) ∧ (60 < n → 60 < (fw m (t.take i)).length)
theorem SzI.zero (m : MM) (t : List Int) : SzI m t 0 0 := ⟨by omega, fun _ => by simp [fw, full_nil], fun h => by omega⟩
theorem SzI.next {m : MM} {t : List Int} {i n : Nat} (h : SzI m t i n) (hn : n ≤ 60) (hi : i < t.length) {X : Nat} (hX : min (fw m [t[i]]).length 61 = X) : SzI m t (i + 1) (n + X) := by
  have h1 := h.2.1 hn
  unfold SzI
  rw [fw_take t hi, List.length_append]
  refine ⟨by omega, fun _ => by omega, fun _ => by omega⟩
theorem SzI.fin {m : MM} {t : List Int} {i n : Nat} (h : SzI m t i n) (hi : t.length ≤ i) (hn : n ≤ 60) : n = szT m t := by
  have h1 := h.2.1 hn
  rw [List.take_of_length_le hi] at h1
  unfold szT
  omega
end Go.Proofs.YtlbjbmpkaniojaaGreat
namespace Go.Proofs.YtlbjbmpkaniojaaGreat
open Go Go.RowKit Go.Maps
end Go.Proofs.YtlbjbmpkaniojaaGreat
namespace Go.Proofs.YtlbjbmpkaniojaaGreat
open Go Go.RowKit Go.Maps
end Go.Proofs.YtlbjbmpkaniojaaGreat
