/-
  WHAT IT HOLDS: contracts of full of package unify's solver: a term with all that is bound put in, or false if it is longer than 60. Conditions: the solver reads as data; what it binds leans on nothing of itself.
  WHAT IT HOLDS: contracts of solved, Meets, Meet, Unifiable, Unified, Detached of package unify and of made of its solver: what they answer, by most general binds. Conditions: the arguments read as data; small signs.
  WHAT IT HOLDS: plain laws of meets and joins: a common instance is one of the meet; what has both as instances has the join; meets and joins are valid. No program in sight.
  WHAT IT HOLDS: contracts of Detached of package unify, halves and Detach of package kernel, and what detaching is (DetR). Conditions: the arguments read as data; small signs.
  WHAT IT HOLDS: contracts of asked of package kernel, and of the two functions that say what a step says. Conditions: the arguments read as data; a small sign.
  WHAT IT HOLDS: contract of size of the reference's solver (layer 2). Conditions: the solver reads as data; the term is a term of at most 60 numbers; what is known is so.
  WHAT IT HOLDS: contracts of Apart and Whole and Few of the reference (layer 2). Conditions: the arguments read as data.
  WHAT IT HOLDS: the plain law of joins: the join does not depend on the order, both are instances of it, it is no longer than either, and it is alike the first exactly if the second is an instance of the first; names come in order. No program.
-/
import Derived.OneCell
import Derived.Deep.RegionHeld3
import Derived.Test.YtldgkidojepdlaaGreatZRTopCarriedShelves19
import Derived.Test.YtldgkidojepdlaaGreatZRTopCarriedShelves20
import Derived.Test.YtldgkidojepdlaaGreatZRTopCarriedShelves10
import Derived.Test.YtldgkidojepdlaaGreatZRTopCarriedShelves12
import Derived.Test.YtldgkidojepdlaaGreatZRTopCarriedShelves18
import Derived.Test.YtldgkidojepdlaaGreatZRTopCarriedShelves21
namespace Go.Proofs.YtldgkidojepdlaaGreat
open Go Go.RowKit Go.Maps
theorem fw_one {s : Sg} {m : MM} (h : MOK s m) {n : Int} (hn : m n = none) : fw m [n] = [n] := by
  by_cases h0 : n < 0
  · exact sg_none h h0 hn
  · rw [fw_app _ (by omega)]; unfold fw; rw [full_nil]
theorem fw_take {m : MM} (t : List Int) {i : Nat} (h : i < t.length) : fw m (t.take (i + 1)) = fw m (t.take i) ++ fw m [t[i]] := by
  rw [List.take_succ_eq_append_getElem h, fw_append]
theorem fw_take_le (m : MM) (t : List Int) (i : Nat) : (fw m (t.take i)).length ≤ (fw m t).length := by
  conv => rhs; rw [← List.take_append_drop i t, fw_append, List.length_append]
  omega
def aparL (t : List Int) : List Int := t.map fun n => if n < 0 then n - 12 else n
def aparK (t : List Int) (k : Nat) : List Int := aparL (t.take k) ++ t.drop k
theorem aparK_len (t : List Int) (k : Nat) : (aparK t k).length = t.length := by
  unfold aparK aparL
  rw [List.length_append, List.length_map, ← List.length_append, List.take_append_drop]
theorem aparK_all (t : List Int) {k : Nat} (h : t.length ≤ k) : aparK t k = aparL t := by
  unfold aparK
  rw [List.take_of_length_le h, List.drop_eq_nil_of_le h, List.append_nil]
theorem aparK_get (t : List Int) {k : Nat} (h : k < t.length) : ((aparK t k).map (Value.int .i64))[k]? = some (.int .i64 t[k]) := by
  have : (aparK t k)[k]? = some t[k] := by
    unfold aparK aparL
    rw [List.getElem?_append_right (by simp; omega)]
    simp
    have : k - min k t.length = 0 := by omega
    rw [this]; simp [h]
  rw [List.getElem?_map, this]; rfl
theorem aparK_step (t : List Int) {k : Nat} (h : k < t.length) : aparK t (k + 1) = (aparK t k).set k (if t[k] < 0 then t[k] - 12 else t[k]) := by
  unfold aparK aparL
  rw [List.take_succ_eq_append_getElem h, List.map_append, List.set_append_right _ _ (by simp; omega)]
  have e2 : k - ((t.take k).map fun n => if n < 0 then n - 12 else n).length = 0 := by simp; omega
  rw [e2, List.drop_eq_getElem_cons h, List.set_cons_zero, List.append_assoc]
  rfl
theorem aparK_same (t : List Int) {k : Nat} (h : k < t.length) (h0 : ¬ t[k] < 0) : aparK t (k + 1) = aparK t k := by
  rw [aparK_step t h, if_neg h0]
  have h1 : k < (aparK t k).length := by rw [aparK_len]; exact h
  have : (aparK t k)[k] = t[k] := by
    have := aparK_get t h
    simpa [h1] using this
  rw [← this, List.set_getElem_self]
set_option maxHeartbeats 1000000 in
set_option maxRecDepth 100000 in
theorem unify_apart (v : Value) (t : List Int) (w : World) (ht : Ints w v t) (h0 : 0 < t.length) (hl : t.length ≤ 1000) (hr : ∀ x ∈ t, -1000000 ≤ x ∧ x ≤ 1000000) :
    Calls Tryz.prog 39 #[v] w fun e w' => ∃ u, e = .returned u ∧ w'.ownsRow w.heap.size 3 1 u (aparL t).length ((aparL t).map (Value.int .i64)) ∧ Below w.heap.size w w' := by
  obtain ⟨ta, tcap, rfl, ht1, ht2, -, TC⟩ := ht.open
  have TC' := hid TC
  have HR := hid hr
  have HT := hid ht
  clear TC ht hr
  go_enter Tryz.func39, Tryz.ntmps39
  go_wp2_with fail
  refine (sl_CloneT _ t _ HT.out h0 hl).mono ?_
  rintro e w1 ⟨u, rfl, hown, hb1⟩
  obtain ⟨g, cap, rfl, hg, hgc⟩ := owns_some hown h0
  have HOWN := hid hown
  have HB1 := hid hb1
  clear hown hb1
  go_wp2
  go_loopw [10] (fun kv wr => ∃ k : Nat, k ≤ t.length ∧ kv = .int .i64 k ∧ wr.ownsRow w.heap.size 3 1 (.slice (some ⟨g, 0, none⟩) t.length cap) t.length ((aparK t k).map (Value.int .i64)) ∧ Below w.heap.size w wr) (fun kv _ => t.length - (intOf kv).toNat)
  case atStart => exact ⟨0, by omega, rfl, by simpa [aparK, aparL] using HOWN.out, HB1.out⟩
  case round =>
    clear HOWN HB1
    obtain ⟨k, hk, rfl, hown, hb⟩ := hrel
    by_cases hlt : k < t.length
    · obtain ⟨tb, to, rfl, hc0⟩ := TC'.out k hlt
      have hcell := (hb.cell (World.block_lt_of_cell? _ _ hc0)).trans hc0
      have hrk := HR.out t[k] (List.getElem_mem hlt)
      by_cases hn : t[k] < 0
      · have hge : decide (t[k] < 0) = true := by simp; omega
        have hst := aparK_step t hlt
        rw [if_pos hn] at hst
        have hc1 := hown.cellAt k (by omega)
        rw [aparK_get t hlt] at hc1
        have hf1 := hown.frozenAt k
        have HST := hid (hown.stored k (.int .i64 (t[k] - 12)))
        have HB2 : Hid (Below w.heap.size w (wr.setCell ⟨g, k, none⟩ (.int .i64 (t[k] - 12)))) := hid (hb.setCell (p := ⟨g, k, none⟩) (by show w.heap.size ≤ g; omega) _)
        have HS := hid hst
        clear hst hown hc0
        go_wp2
        go_roundw
        case rel => exact ⟨k + 1, by omega, by go_num, by rw [HS.out, List.map_set]; exact HST.out.1, HB2.out⟩
        case measure => simp [intOf]; omega
      · have hge : decide (t[k] < 0) = false := by simp; omega
        have HS := hid (aparK_same t hlt hn)
        clear hc0
        go_wp2
        go_roundw
        case rel => exact ⟨k + 1, by omega, by go_num, by rw [HS.out]; exact hown, hb⟩
        case measure => simp [intOf]; omega
    · have HE := hid (aparK_all t (k := k) (by omega))
      rw [HE.out] at hown
      have HL : Hid ((aparL t).length = t.length) := hid (by simp [aparL])
      have HOW := hid hown
      clear hown
      go_wp2
      go_ret
      exact ⟨_, rfl, by rw [HL.out]; exact HOW.out, hb⟩
end Go.Proofs.YtldgkidojepdlaaGreat
namespace Go.Proofs.YtldgkidojepdlaaGreat
open Go Go.RowKit Go.Maps
def madeB (F : List Int) : Bool := decide (F.length ≤ 60) && decide ((varsF [] F).length ≤ 12)
/-- what is made of t where a and b are unified. -/
def UR (s : Sg) (a b t : List Int) (x : List Int × Int) : Prop :=
  (NoU s a b ∧ x = ([], 8)) ∨ ∃ m, Mgu s a b m ∧ ((madeB (fw m t) = true ∧ x = (canonL (fw m t), 0)) ∨ (madeB (fw m t) = false ∧ x = ([], 4)))
theorem varsF_canon_len (t : List Int) : (varsF [] (canonL t)).length = (varsF [] t).length := by
  have h := varsF_map (ρ := numV (varsF [] t)) t [] (fun n _ h => numV_neg.2 h) (fun n _ h => by unfold numV; rw [if_neg (by omega)]) (fun n hn m _ h1 h2 e => numV_inj h1 h2 ((varsF_mem t [] n).2 (Or.inr ⟨by simpa using hn, h1⟩)) e) (by simp)
  rw [List.map_nil] at h
  unfold canonL
  rw [h, List.length_map]
theorem madeB_canon {F G : List Int} (h : canonL F = canonL G) : madeB F = madeB G := by
  have h1 : F.length = G.length := by have := congrArg List.length h; simpa [canonL_len] using this
  have h2 : (varsF [] F).length = (varsF [] G).length := by rw [← varsF_canon_len F, ← varsF_canon_len G, h]
  unfold madeB
  rw [h1, h2]
theorem UR.unique {s : Sg} {a b t : List Int} (ht : IsT s 24 t) {x y : List Int × Int} (h : UR s a b t x) (k : UR s a b t y) : x = y := by
  rcases h with ⟨h1, rfl⟩ | ⟨m, hm, h⟩
  · rcases k with ⟨_, rfl⟩ | ⟨m', hm', _⟩
    · rfl
    · exact (hm'.not_no h1).elim
  · rcases k with ⟨k1, _⟩ | ⟨m', hm', k⟩
    · exact (hm.not_no k1).elim
    · have hc := hm.canon hm' ht
      have hb := madeB_canon hc
      rcases h with ⟨h1, rfl⟩ | ⟨h1, rfl⟩ <;> rcases k with ⟨k1, rfl⟩ | ⟨k1, rfl⟩
      · rw [hc]
      · rw [hb, k1] at h1; cases h1
      · rw [hb, k1] at h1; cases h1
      · rfl
theorem aparL_sub (t : List Int) : aparL t = subL (fun n => [n - 12]) t := by
  induction t with
  | nil => rfl
  | cons n t ih =>
    by_cases h : n < 0
    · rw [subL_cons_var _ h, ← ih]; simp [aparL, h]
    · rw [subL_cons_app _ (by omega), ← ih]; simp [aparL, h]
theorem aparL_T {s : Sg} {t : List Int} (h : IsT s 12 t) : IsT s 24 (aparL t) := by
  rw [aparL_sub]
  exact h.sub fun n hn hn0 => .var _ (by have := h.vars n hn hn0; omega) (by omega)
theorem aparL_len (t : List Int) : (aparL t).length = t.length := by simp [aparL]
def MeetR (s : Sg) (a b : List Int) (x : List Int × Int) : Prop := if termB s a && termB s b then UR s a (aparL b) a x else x = ([], 1)
def UnifR (s : Sg) (a b : List Int) (x : List Int × Int) : Prop := if termB s a && termB s b then UR s a b a x else x = ([], 1)
/-- whether two terms have a unifier. -/
def HasU (s : Sg) (a b : List Int) : Prop := ∃ m, Mgu s a b m
theorem T_small12 {s : Sg} {t : List Int} (h : IsT s 12 t) (hs : s.length ≤ 12) : ∀ x ∈ t, -1000000 ≤ x ∧ x ≤ 1000000 := by
  intro x hx
  rcases h.range x hx with h | h <;> omega
/-- whether two terms meet. -/
def MeetsQ (s : Sg) (a b : List Int) : Prop := termB s a = true ∧ termB s b = true ∧ ¬ NoU s a (aparL b)
def MeetsA (s : Sg) (a b : List Int) (z : Bool) : Prop := z = true ↔ MeetsQ s a b
def JoinR (s : Sg) (a b : List Int) (x : List Int × Int) : Prop :=
  x = if termB s a && termB s b then (if (varsF [] (comW s a b []).1).length ≤ 12 then (canonL (comW s a b []).1, 0) else ([], 4)) else ([], 1)
theorem comW_range {s : Sg} (hs : s.length ≤ 12) {a : List Int} (ha : IsT s 12 a) (hl : a.length ≤ 60) (b : List Int) : ∀ x ∈ (comW s a b []).1, -1000000 ≤ x ∧ x ≤ 1000000 := by
  have key : ∀ (f : Nat) (a b : List Int) (σ : List KK), (∀ x ∈ a, x ≤ 12) → ∀ x ∈ (com s f a b σ).1, -((σ.length + a.length : Nat) : Int) - 1 ≤ x ∧ x ≤ 12 := by
    intro f
    induction f with
    | zero => intro a b σ _ x hx; simp [com] at hx
    | succ f ih =>
      intro a b σ ha x hx
      cases a with
      | nil => rw [com_nil] at hx; cases hx
      | cons y a =>
        cases b with
        | nil => rw [com_nil2] at hx; cases hx
        | cons z b =>
          unfold com at hx
          split at hx
          · simp only [List.mem_cons] at hx
            rcases hx with rfl | hx
            · have := ha x (by simp)
              rename_i hh
              refine ⟨?_, this⟩
              omega
            · have := ih a b σ (fun w hw => ha w (by simp [hw])) x hx
              simp at this ⊢; omega
          · simp only [List.mem_cons] at hx
            rcases hx with rfl | hx
            · unfold numK
              have := List.idxOf_le_length (a := (keyL ((y :: a).take (pLen s (y :: a) 1)), keyL ((z :: b).take (pLen s (z :: b) 1)))) (l := σ)
              simp only [List.length_cons]
              first | omega | (constructor <;> omega)
            · have h1 := ih _ _ _ (fun w hw => ha w (List.mem_of_mem_drop hw)) x hx
              have h2 := insK_len σ (keyL ((y :: a).take (pLen s (y :: a) 1)), keyL ((z :: b).take (pLen s (z :: b) 1)))
              have h3 := pLen_pos s y a
              simp only [List.length_drop, List.length_cons] at h1 ⊢
              omega
  intro x hx
  have := key a.length a b [] (fun y hy => by rcases ha.range y hy with h | h <;> omega) x hx
  simp at this
  omega
set_option maxHeartbeats 1000000 in
set_option maxRecDepth 100000 in
theorem unify_solved (vs va vb : Value) (s : Sg) (a b : List Int) (w : World) (hsg : signB s = true) (hT : IsT s 24 a) (hU : IsT s 24 b) (hla : a.length ≤ 60) (hlb : b.length ≤ 60) (hs : SignAt w vs s) (ra : Ints w va a) (rb : Ints w vb b) :
    Calls Tryz.prog 38 #[vs, va, vb] w fun e w' => Below w.heap.size w w' ∧ ∃ px, ((e = .returned (.tuple #[.pointer (some ⟨px, 0, none⟩), .bool false]) ∧ NoU s a b) ∨
      (e = .returned (.tuple #[.pointer (some ⟨px, 0, none⟩), .bool true]) ∧ ∃ bm M, SolvW w' px bm vs s M ∧ Mgu s a b (mOf M))) := by
  obtain ⟨sa, sc, hse, -⟩ := hs.open
  subst hse
  obtain ⟨aa, ac, hae, -⟩ := ra.open
  subst hae
  obtain ⟨ba, bc, hbe, -⟩ := rb.open
  subst hbe
  have hmm := @run_makeMap Tryz.prog
  have HS := hid hs
  have HA := hid ra
  have HB := hid rb
  clear hs ra rb
  go_enter Tryz.func38, Tryz.ntmps38
  go_wp2_with fail
  clear hmm
  have hb1 : Below w.heap.size w ((w.alloc (.map #[] 0)).alloc (.cells #[.slice sa s.length sc, .map (some w.heap.size)] 91)) := ((Below.refl _ _).alloc (Nat.le_refl _) _).alloc (by simp) _
  have c0 : ((w.alloc (.map #[] 0)).alloc (.cells #[.slice sa s.length sc, .map (some w.heap.size)] 91)).cell? ⟨w.heap.size + 1, 0, none⟩ = some (.slice sa s.length sc) := by
    have := World.cell?_alloc_new (w := w.alloc (.map #[] 0)) #[.slice sa s.length sc, .map (some w.heap.size)] 91 0
    rw [World.size_alloc] at this
    rw [this]; rfl
  have c1 : ((w.alloc (.map #[] 0)).alloc (.cells #[.slice sa s.length sc, .map (some w.heap.size)] 91)).cell? ⟨w.heap.size + 1, 1, none⟩ = some (.map (some w.heap.size)) := by
    have := World.cell?_alloc_new (w := w.alloc (.map #[] 0)) #[.slice sa s.length sc, .map (some w.heap.size)] 91 1
    rw [World.size_alloc] at this
    rw [this]; rfl
  have km := (MapK.made Tryz.prog 3 eI eV w).alloc (.cells #[.slice sa s.length sc, .map (some w.heap.size)] 91)
  have hS0 : SolvW ((w.alloc (.map #[] 0)).alloc (.cells #[.slice sa s.length sc, .map (some w.heap.size)] 91)) (w.heap.size + 1) w.heap.size (.slice sa s.length sc) s (fun _ => none) := ⟨c0, c1, HS.out.below hb1, ⟨0, km⟩, fun _ _ _ h => by cases h⟩
  refine Calls.mono (unify_solve (w.heap.size + 1) w.heap.size _ _ _ s _ a b _ hsg hT hU hla hlb (HA.out.below hb1) (HB.out.below hb1) hS0 rfl) ?_
  rintro e w2 ⟨hg, ⟨rfl, hn⟩ | ⟨rfl, M, n, hM, hmgu, hi⟩⟩
  · have HB2 := hid (hb1.grown hg hb1.size (fun q hq => by cases hq; exact Nat.le_refl _))
    have HN := hid hn
    clear hg hn hS0 km c0 c1 hb1
    go_wp2
    go_ret2
    exact ⟨HB2.out, _, Or.inl ⟨rfl, HN.out⟩⟩
  · have HB2 := hid (hb1.grown hg hb1.size (fun q hq => by cases hq; exact Nat.le_refl _))
    have HMG := hid hmgu
    have HS2 : Hid (SolvW w2 (w.heap.size + 1) w.heap.size (.slice sa s.length sc) s M) := hid ⟨km.cell rfl hg c0, km.cell rfl hg c1, km.signAt rfl hg hS0.sgn, ⟨n, hM⟩, fun x v l h => km.ints rfl hg (hi x v l h)⟩
    clear hg hmgu hM hi hS0 km c0 c1 hb1
    go_wp2
    go_ret2
    exact ⟨HB2.out, _, Or.inr ⟨rfl, _, M, HS2.out, HMG.out⟩⟩
theorem fw_small {s : Sg} {m : MM} (hm : MOK s m) {t : List Int} (hT : IsT s 24 t) (hs : s.length ≤ 1000) : ∀ x ∈ fw m t, -1000000 ≤ x ∧ x ≤ 1000000 := by
  intro x hx
  rcases (fw_T hm hT).range x hx with h | h <;> omega
end Go.Proofs.YtldgkidojepdlaaGreat
namespace Go.Proofs.YtldgkidojepdlaaGreat
theorem unif_of_inst {s : Sg} {a b c : List Int} (ha : IsT s 12 a) (hb : IsT s 12 b) (h0 : Inst s 12 a c) (h1 : Inst s 12 b c) : ∃ σ : Int → List Int, (∀ v, -24 ≤ v → v < 0 → IsT s 12 (σ v)) ∧ subL σ a = c ∧ subL σ (aparL b) = c := by
  obtain ⟨σ0, g0, e0⟩ := h0
  obtain ⟨σ1, g1, e1⟩ := h1
  refine ⟨fun n => if -12 ≤ n then (if n ∈ a then σ0 n else [n]) else (if n + 12 ∈ b then σ1 (n + 12) else [-1]), fun v h1 h2 => ?_, ?_, ?_⟩
  · (try simp only)
    split
    · split
      · rename_i h; exact g0 v h h2
      · exact .var v (by omega) h2
    · split
      · rename_i h; exact g1 _ h (by omega)
      · exact .var _ (by omega) (by omega)
  · rw [← e0]
    refine subL_congr fun n hn hn0 => ?_
    have := ha.vars n hn hn0
    (try simp only)
    rw [if_pos (by omega), if_pos hn]
  · rw [← e1, aparL_sub, subL_comp]
    refine subL_congr fun n hn hn0 => ?_
    (try simp only)
    rw [subL_one, if_pos (by omega), if_neg (by omega), show n - 12 + 12 = n by omega, if_pos hn]
theorem madeB_iff {F : List Int} : madeB F = true ↔ F.length ≤ 60 ∧ (varsF [] F).length ≤ 12 := by simp [madeB]
theorem made_term {s : Sg} {q : Int} {F : List Int} (hs : signB s = true) (hT : IsT s q F) (h : madeB F = true) : termB s (canonL F) = true := by
  obtain ⟨h1, h2⟩ := madeB_iff.1 h
  exact T_termB hs (canonL_T hT h2) (by rw [canonL_len]; exact h1)
theorem bounds_meet {s : Sg} {t0 t1 t2 : List Int} {x : List Int × Int} (h0 : instB s t0 t2 = true) (h1 : instB s t1 t2 = true) (hx : MeetR s t0 t1 x) : (¬ NoU s t0 (aparL t1)) ∧ ((x.2 = 0 ∧ instB s x.1 t2 = true) ∨ x.2 = 4) := by
  obtain ⟨v0, v2, i0⟩ := instB_iff.1 h0
  obtain ⟨v1, _, i1⟩ := instB_iff.1 h1
  have T0 := termB_T v0
  have T1 := termB_T v1
  have T2 := termB_T v2
  obtain ⟨σ, g, e0, e1⟩ := unif_of_inst T0 T1 i0 i1
  have hTS : TS s σ := ⟨12, g⟩
  have hno : ¬ NoU s t0 (aparL t1) := fun h => h σ hTS (e0.trans e1.symm)
  refine ⟨hno, ?_⟩
  unfold MeetR at hx
  rw [v0, v1] at hx
  simp only [Bool.and_self, if_true] at hx
  rcases hx with ⟨h, _⟩ | ⟨m, hm, ⟨hb, rfl⟩ | ⟨hb, rfl⟩⟩
  · exact absurd h hno
  · left
    refine ⟨rfl, ?_⟩
    have hF := fw_T hm.1 (T0.mono (m' := 24) (by omega))
    have hv := made_term (termB_facts v0).1 hF hb
    refine instB_iff.2 ⟨hv, v2, Inst.down (q := 24) (by omega) (termB_T hv) T2 ((inst_canon hF).trans ⟨σ, fun n hn hn0 => (g n (hF.vars n hn hn0) hn0).mono (by omega), ?_⟩)⟩
    rw [hm.gen hTS (e0.trans e1.symm), e0]
  · exact Or.inr rfl
theorem bounds_join {s : Sg} {t0 t1 t2 : List Int} {x : List Int × Int} (h0 : instB s t2 t0 = true) (h1 : instB s t2 t1 = true) (hx : JoinR s t0 t1 x) : (x.2 = 0 ∧ instB s t2 x.1 = true) ∨ x.2 = 4 := by
  obtain ⟨v2, v0, i0⟩ := instB_iff.1 h0
  obtain ⟨_, v1, i1⟩ := instB_iff.1 h1
  have T0 := termB_T v0
  have T1 := termB_T v1
  have T2 := termB_T v2
  have hf := termB_facts v0
  obtain ⟨j1, j2, j3, j4⟩ := join_facts hf.2.2.1 T0 T1 hf.2.2.2
  have hl := (comW_len s t0 t1 []).1
  unfold JoinR at hx
  rw [v0, v1] at hx
  simp only [Bool.and_self, if_true] at hx
  by_cases hv : (varsF [] (comW s t0 t1 []).1).length ≤ 12
  · rw [if_pos hv] at hx
    subst hx
    left
    refine ⟨rfl, ?_⟩
    have hT := canonL_T j1 hv
    have hx := T_termB hf.1 hT (by rw [canonL_len]; omega)
    refine instB_iff.2 ⟨v2, hx, Inst.down (q := 60) (by omega) T2 hT ((j4 t2 i0 i1).trans (canon_inst (hT.mono (by omega)) (canonL_canon _).symm))⟩
  · rw [if_neg hv] at hx
    subst hx
    exact Or.inr rfl
end Go.Proofs.YtldgkidojepdlaaGreat
namespace Go.Proofs.YtldgkidojepdlaaGreat
open Go Go.RowKit Go.Maps
/-- what is detached of m and n. -/
def DetR (s : Sg) (m n : List Int) (x : List Int × Int) : Prop :=
  ((termB s m && termB s n) = false ∧ x = ([], 1)) ∨ (termB s m = true ∧ termB s n = true ∧ ((m.head? ≠ some 0 ∧ x = ([], 10)) ∨
    ∃ A B, m = 0 :: (A ++ B) ∧ IsT s 12 A ∧ IsT s 12 B ∧ UR s A (aparL n) B x))
theorem halves_T {s : Sg} {m : List Int} (hv : termB s m = true) (h0 : m.head? = some 0) : ∃ A B, m = 0 :: (A ++ B) ∧ IsT s 12 A ∧ IsT s 12 B ∧ A.length ≤ 60 ∧ B.length ≤ 60 := by
  obtain ⟨f1, -, -, f4⟩ := termB_facts hv
  have hT := termB_T hv
  cases hT with
  | var n h1 h2 => simp at h0; omega
  | app c zs hc hl ha =>
    have hc0 : c = 0 := by simp at h0; omega
    subst hc0
    have har : arOf s ((0 : Nat) : Int) = 2 := by
      unfold signB at f1
      simp only [Bool.and_eq_true] at f1
      have h2 := f1.1.2
      have h0' : 0 < s.length := hc
      rw [List.getElem?_eq_getElem h0'] at h2
      unfold arOf
      simp [h0']
      simpa using h2
    rw [har] at hl
    obtain ⟨A, B, rfl⟩ : ∃ A B, zs = [A, B] := by
      match zs, hl with
      | [A, B], _ => exact ⟨A, B, rfl⟩
      | [], h => simp at h
      | [_], h => simp at h
      | _ :: _ :: _ :: _, h => simp at h; omega
    simp at f4
    exact ⟨A, B, by simp, ha A (by simp), ha B (by simp), by omega, by omega⟩
theorem halves_arP {s : Sg} (f1 : signB s = true) : arP s 0 = 2 := by
  unfold signB at f1
  simp only [Bool.and_eq_true] at f1
  have h1 := inB_true.1 f1.1.1
  have h0 : 0 < s.length := by omega
  have h2 := f1.1.2
  rw [List.getElem?_eq_getElem h0] at h2
  have h3 : s[0].2 = 2 := by simpa using h2
  unfold arP
  rw [show inB 0 (-12) (-1) = false from by decide, if_neg (by simp), if_pos (inB_true.2 ⟨by omega, by omega⟩)]
  unfold arOf
  simp [h0, h3]
theorem len_two : ∀ {l : List Value}, l.length = 2 → ∃ a b, l = [a, b]
  | [a, b], _ => ⟨a, b, rfl⟩
  | [], h => by simp at h
  | [_], h => by simp at h
  | _ :: _ :: _ :: _, h => by simp at h
end Go.Proofs.YtldgkidojepdlaaGreat
namespace Go.Proofs.YtldgkidojepdlaaGreat
open Go Go.RowKit Go.Maps
end Go.Proofs.YtldgkidojepdlaaGreat
namespace Go.Proofs.YtldgkidojepdlaaGreat
open Go Go.RowKit Go.Maps
def szT (m : MM) (t : List Int) : Nat := min (fw m t).length 61
def Kno (m : MM) (cs : Array Value) : Prop := cs.size = 24 ∧ ∀ v : Nat, v < 24 → ∃ x : Nat, cs[v]? = some (.int .i64 x) ∧ (x = 0 ∨ ∃ p, m (-(v : Int) - 1) = some p ∧ x = szT m p)
theorem Kno.set {m : MM} {cs : Array Value} (h : Kno m cs) (v : Nat) {p : List Int} (hp : m (-(v : Int) - 1) = some p) : Kno m (cs.setIfInBounds v (.int .i64 (szT m p))) := by
  refine ⟨by simpa using h.1, fun x hx => ?_⟩
  rw [Array.getElem?_setIfInBounds]
  by_cases e : v = x
  · subst e
    exact ⟨szT m p, by simp [h.1, hx], Or.inr ⟨p, hp, rfl⟩⟩
  · rw [if_neg e]
    exact h.2 x hx
theorem Kno.at {m : MM} {cs : Array Value} (h : Kno m cs) {v : Nat} (hv : v < 24) {w : World} {pd : Nat} (ha : ArrV w pd cs) : ∃ x3 : Nat, Kno m cs ∧ ArrV w pd cs ∧ w.cell? ⟨pd, v, none⟩ = some (.int .i64 x3) := by
  obtain ⟨x, h1, -⟩ := h.2 v hv
  exact ⟨x, h, ha, by rw [ha.cell]; exact h1⟩
def SzI (m : MM) (t : List Int) (i n : Nat) : Prop := n ≤ 121 ∧ (n ≤ 60 → n = (fw m (t.take i)).length) ∧ (60 < n → 60 < (fw m (t.take i)).length)
theorem SzI.zero (m : MM) (t : List Int) : SzI m t 0 0 := ⟨by omega, fun _ => by simp [fw, full_nil], fun h => by omega⟩
theorem SzI.next {m : MM} {t : List Int} {i n : Nat} (h : SzI m t i n) (hn : n ≤ 60) (hi : i < t.length) {X : Nat} (hX : min (fw m [t[i]]).length 61 = X) : SzI m t (i + 1) (n + X) := by
  have h1 := h.2.1 hn
  unfold SzI
  rw [fw_take t hi, List.length_append]
  refine ⟨by omega, fun _ => by omega, fun _ => by omega⟩
theorem SzI.fin {m : MM} {t : List Int} {i n : Nat} (h : SzI m t i n) (hi : t.length ≤ i) (hn : n ≤ 60) : n = szT m t := by
  have h1 := h.2.1 hn
  rw [List.take_of_length_le hi] at h1
  unfold szT
  omega
theorem SzI.big {m : MM} {t : List Int} {i n : Nat} (h : SzI m t i n) (hn : 60 < n) : 61 = szT m t := by
  have h1 := h.2.2 hn
  have h2 := fw_take_le m t i
  unfold szT
  omega
theorem below_self_drewN' {w0 w : World} (h : Below w0.heap.size w0 w) (n : Nat) : Below w0.heap.size w (w.drewN n) := (below_self_drewN w n).mono h.size
end Go.Proofs.YtldgkidojepdlaaGreat
namespace Go.Proofs.YtldgkidojepdlaaGreat
open Go Go.RowKit Go.Maps
theorem kno_zero (m : MM) : Kno m #[.int .i64 0, .int .i64 0, .int .i64 0, .int .i64 0, .int .i64 0, .int .i64 0, .int .i64 0, .int .i64 0, .int .i64 0, .int .i64 0, .int .i64 0, .int .i64 0, .int .i64 0, .int .i64 0, .int .i64 0, .int .i64 0, .int .i64 0, .int .i64 0, .int .i64 0, .int .i64 0, .int .i64 0, .int .i64 0, .int .i64 0, .int .i64 0] := by
  refine ⟨rfl, fun v hv => ⟨0, ?_, Or.inl rfl⟩⟩
  show ((List.replicate 24 (Value.int .i64 0)).toArray)[v]? = _
  rw [List.getElem?_toArray, List.getElem?_replicate, if_pos hv]; rfl
end Go.Proofs.YtldgkidojepdlaaGreat
namespace Go.Proofs.YtldgkidojepdlaaGreat
open Go Go.RowKit Go.Maps
def swK (k : KK) : KK := (k.2, k.1)
theorem swK_swK (k : KK) : swK (swK k) = k := rfl
theorem swK_mem {σ : List KK} {k : KK} : swK k ∈ σ.map swK ↔ k ∈ σ := by
  constructor
  · intro h
    obtain ⟨z, h1, h2⟩ := List.mem_map.1 h
    have : z = k := by rw [← swK_swK z, h2, swK_swK]
    exact this ▸ h1
  · exact fun h => List.mem_map.2 ⟨k, h, rfl⟩
theorem swK_ins (σ : List KK) (k : KK) : insK (σ.map swK) (swK k) = (insK σ k).map swK := by
  unfold insK
  by_cases h : k ∈ σ
  · rw [if_pos h, if_pos (swK_mem.2 h)]
  · rw [if_neg h, if_neg (fun hh => h (swK_mem.1 hh))]; simp
theorem swK_idx : ∀ (σ : List KK) (k : KK), (σ.map swK).idxOf (swK k) = σ.idxOf k
  | [], _ => rfl
  | z :: σ, k => by
    rw [List.map_cons, List.idxOf_cons, List.idxOf_cons, swK_idx σ k]
    have : (swK z == swK k) = (z == k) := by
      rw [Bool.eq_iff_iff, beq_iff_eq, beq_iff_eq]
      exact ⟨fun h => by rw [← swK_swK z, h, swK_swK], fun h => by rw [h]⟩
    rw [this]
theorem swK_num (σ : List KK) (k : KK) : numK (σ.map swK) (swK k) = numK σ k := by
  unfold numK
  rw [swK_idx]
theorem com_swap (s : Sg) : ∀ (f : Nat) (a b : List Int) (σ : List KK), com s f b a (σ.map swK) = ((com s f a b σ).1, (com s f a b σ).2.map swK) := by
  intro f
  induction f with
  | zero => intro a b σ; rfl
  | succ f ih =>
    intro a b σ
    cases a with
    | nil => rw [com_nil, com_nil2]
    | cons x a =>
      cases b with
      | nil => rw [com_nil2, com_nil]
      | cons y b =>
        simp only [com]
        by_cases h : x = y ∧ 0 ≤ x
        · obtain ⟨rfl, h0⟩ := h
          rw [if_pos ⟨rfl, h0⟩, if_pos ⟨rfl, h0⟩, ih]
        · rw [if_neg h, if_neg (show ¬ (y = x ∧ 0 ≤ y) from fun hh => h ⟨hh.1.symm, hh.1 ▸ hh.2⟩)]
          have e := swK_num σ (keyL ((x :: a).take (pLen s (x :: a) 1)), keyL ((y :: b).take (pLen s (y :: b) 1)))
          have e2 := swK_ins σ (keyL ((x :: a).take (pLen s (x :: a) 1)), keyL ((y :: b).take (pLen s (y :: b) 1)))
          unfold swK at e e2 ih
          simp only at e e2 ih
          unfold swK
          rw [e, e2, ih]
theorem comW_swap (s : Sg) (a b : List Int) : (comW s b a []).1 = (comW s a b []).1 := by
  have h1 := com_swap s (a.length + b.length) a b []
  have h2 := com_fuel s b.length (a.length + b.length) b a [] (Nat.le_refl _) (by omega)
  have h3 := com_fuel s a.length (a.length + b.length) a b [] (Nat.le_refl _) (by omega)
  unfold comW
  rw [h2, h3]
  rw [List.map_nil] at h1
  rw [h1]
theorem JoinR.swap {s : Sg} {a b : List Int} {x y : List Int × Int} (h : JoinR s a b x) (k : JoinR s b a y) : x = y := by
  unfold JoinR at h k
  rw [h, k, comW_swap, Bool.and_comm]
/-- the names from -1 down. -/
def nmsL (n : Nat) : List Int := (List.range n).map fun (i : Nat) => -(i : Int) - 1
theorem nmsL_mem {n : Nat} {k : Nat} : (-(k : Int) - 1) ∈ nmsL n ↔ k < n := by
  unfold nmsL
  rw [List.mem_map]
  constructor
  · rintro ⟨i, hi, h⟩
    have := List.mem_range.1 hi
    omega
  · exact fun h => ⟨k, List.mem_range.2 h, rfl⟩
theorem nmsL_succ (n : Nat) : nmsL (n + 1) = nmsL n ++ [-(n : Int) - 1] := by
  unfold nmsL
  rw [List.range_succ, List.map_append]; rfl
theorem nmsL_idx : ∀ {n k : Nat}, k < n → (nmsL n).idxOf (-(k : Int) - 1) = k
  | 0, k, h => by omega
  | n + 1, k, h => by
    rw [nmsL_succ, List.idxOf_append]
    by_cases hk : k < n
    · rw [if_pos (nmsL_mem.2 hk), nmsL_idx hk]
    · have : k = n := by omega
      subst this
      rw [if_neg (fun hh => hk (nmsL_mem.1 hh))]
      have hl : (nmsL k).length = k := by simp [nmsL]
      rw [hl]
      simp
theorem com_vars (s : Sg) : ∀ (f : Nat) (a b : List Int) (σ : List KK), varsF (nmsL σ.length) (com s f a b σ).1 = nmsL (com s f a b σ).2.length ∧ ∀ x ∈ (com s f a b σ).1, x < 0 → x ∈ nmsL (com s f a b σ).2.length := by
  intro f
  induction f with
  | zero => intro a b σ; exact ⟨rfl, by simp [com]⟩
  | succ f ih =>
    intro a b σ
    cases a with
    | nil => rw [com_nil]; exact ⟨rfl, by simp⟩
    | cons x a =>
      cases b with
      | nil => rw [com_nil2]; exact ⟨rfl, by simp⟩
      | cons y b =>
        simp only [com]
        by_cases h : x = y ∧ 0 ≤ x
        · rw [if_pos h]
          obtain ⟨h1, h2⟩ := ih a b σ
          refine ⟨?_, ?_⟩
          · simp only [varsF]
            rw [if_neg (by omega)]
            exact h1
          · intro z hz hz0
            simp only [List.mem_cons] at hz
            rcases hz with rfl | hz
            · omega
            · exact h2 z hz hz0
        · rw [if_neg h]
          obtain ⟨k, hk⟩ : ∃ k : KK, (keyL ((x :: a).take (pLen s (x :: a) 1)), keyL ((y :: b).take (pLen s (y :: b) 1))) = k := ⟨_, rfl⟩
          simp only [hk]
          obtain ⟨h1, h2⟩ := ih ((x :: a).drop (pLen s (x :: a) 1)) ((y :: b).drop (pLen s (y :: b) 1)) (insK σ k)
          have hv : varsF (nmsL σ.length) (numK σ k :: (com s f ((x :: a).drop (pLen s (x :: a) 1)) ((y :: b).drop (pLen s (y :: b) 1)) (insK σ k)).1) = nmsL (com s f ((x :: a).drop (pLen s (x :: a) 1)) ((y :: b).drop (pLen s (y :: b) 1)) (insK σ k)).2.length := by
            simp only [varsF]
            by_cases hm : k ∈ σ
            · have hi := List.idxOf_lt_length_of_mem hm
              have hin : insK σ k = σ := by unfold insK; rw [if_pos hm]
              rw [if_neg (fun hh => hh.2 (nmsL_mem.2 hi))]
              rw [hin] at h1 ⊢
              exact h1
            · have hi : σ.idxOf k = σ.length := List.idxOf_eq_length hm
              have hin : insK σ k = σ ++ [k] := by unfold insK; rw [if_neg hm]
              have hn : numK σ k = -(σ.length : Int) - 1 := by unfold numK; rw [hi]
              rw [hn, if_pos ⟨by omega, fun hh => by have := nmsL_mem.1 hh; omega⟩, ← nmsL_succ]
              rw [hin] at h1 ⊢
              rw [List.length_append, List.length_singleton] at h1
              exact h1
          refine ⟨hv, fun z hz hz0 => ?_⟩
          rw [← hv]
          exact (varsF_mem _ _ z).2 (Or.inr ⟨hz, hz0⟩)
theorem com_canon (s : Sg) (a b : List Int) : canonL (comW s a b []).1 = (comW s a b []).1 := by
  obtain ⟨h1, h2⟩ := com_vars s a.length a b []
  unfold comW canonL
  rw [show varsF [] (com s a.length a b []).1 = nmsL (com s a.length a b []).2.length from h1]
  refine (List.map_congr_left fun z hz => ?_).trans (List.map_id' _)
  unfold numV
  split
  · rename_i hz0
    have hm := h2 z hz hz0
    obtain ⟨i, hi, rfl⟩ := List.mem_map.1 hm
    rw [nmsL_idx (List.mem_range.1 hi)]
  · rfl
theorem join_both {s : Sg} {a b : List Int} {x : List Int × Int} (h : JoinR s a b x) (h0 : x.2 = 0) : instB s x.1 a = true ∧ instB s x.1 b = true ∧ x.1.length ≤ a.length ∧ x.1.length ≤ b.length ∧ alikeB s x.1 x.1 = true ∧ instB s a b = alikeB s x.1 a := by
  unfold JoinR at h
  split at h
  · rename_i hv
    simp only [Bool.and_eq_true] at hv
    have ha := termB_T hv.1
    have hb := termB_T hv.2
    have hf := termB_facts hv.1
    have hfb := termB_facts hv.2
    obtain ⟨j1, j2, j3, j4⟩ := join_facts hf.2.2.1 ha hb hf.2.2.2
    have hl1 := (comW_len s a b []).1
    have hl2 := (comW_len s b a []).1
    rw [comW_swap] at hl2
    split at h
    · rename_i hvl
      subst h
      simp only
      have hT := canonL_T j1 hvl
      have hx := T_termB hf.1 hT (by rw [canonL_len]; omega)
      have i1 : Inst s 60 (canonL (comW s a b []).1) (comW s a b []).1 := inst_canon j1
      have ia : instB s (canonL (comW s a b []).1) a = true := instB_iff.2 ⟨hx, hv.1, Inst.down (q := 60) (by omega) hT ha (i1.trans j2)⟩
      have ib : instB s (canonL (comW s a b []).1) b = true := instB_iff.2 ⟨hx, hv.2, Inst.down (q := 60) (by omega) hT hb (i1.trans j3)⟩
      refine ⟨ia, ib, by rw [canonL_len]; omega, by rw [canonL_len]; omega, alikeB_iff.2 ⟨by rw [instB_refl, hx], by rw [instB_refl, hx]⟩, ?_⟩
      rw [Bool.eq_iff_iff, alikeB_iff]
      constructor
      · intro hi
        obtain ⟨_, _, hi⟩ := instB_iff.1 hi
        have := j4 a (Inst.refl ha) hi
        exact ⟨ia, instB_iff.2 ⟨hv.1, hx, Inst.down (q := 60) (by omega) ha hT (this.trans (canon_inst (hT.mono (by omega)) (canonL_canon _).symm))⟩⟩
      · intro hal
        exact instB_trans hal.2 ib
    · subst h; simp at h0
  · subst h; simp at h0
end Go.Proofs.YtldgkidojepdlaaGreat
