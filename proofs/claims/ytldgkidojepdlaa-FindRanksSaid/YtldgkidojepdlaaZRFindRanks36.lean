/-
  WHAT IT HOLDS: contracts of solved, Meets, Meet, Unifiable, Unified, Detached of package unify and of made of its solver: what they answer, by most general binds. Conditions: the arguments read as data; small signs.
  WHAT IT HOLDS: contract of size of the reference's solver (layer 2). Conditions: the solver reads as data; the term is a term of at most 60 numbers; what is known is so.
  WHAT IT HOLDS: contracts of Apart and Whole and Few of the reference (layer 2). Conditions: the arguments read as data.
  WHAT IT HOLDS: plain laws of meets and joins: a common instance is one of the meet; what has both as instances has the join; meets and joins are valid. No program in sight.
  WHAT IT HOLDS: the plain law of joins: the join does not depend on the order, both are instances of it, it is no longer than either, and it is alike the first exactly if the second is an instance of the first; names come in order. No program.
-/
import Derived.Deep.RegionHeld3
import Derived.Test.YtldgkidojepdlaaZRFindRanks33
import Derived.Test.YtldgkidojepdlaaZRFindRanks20
import Derived.Test.YtldgkidojepdlaaZRFindRanks34
import Derived.Test.YtldgkidojepdlaaZRFindRanks35
import Derived.Test.YtldgkidojepdlaaZRFindRanks17
namespace Go.Proofs.Ytldgkidojepdlaa
open Go Go.RowKit Go.Maps
def madeB (F : List Int) : Bool := decide (F.length ≤ 60) && decide ((varsF [] F).length ≤ 12)
/-- what is made of t where a and b are unified. -/
def UR (s : Sg) (a b t : List Int) (x : List Int × Int) : Prop :=
  (NoU s a b ∧ x = ([], 8)) ∨ ∃ m, Mgu s a b m ∧ ((madeB (fw m t) = true ∧ x = (canonL (fw m t), 0)) ∨ (madeB (fw m t) = false ∧ x = ([], 4)))
theorem varsF_canon_len (t : List Int) : (varsF [] (canonL t)).length = (varsF [] t).length := by
  have h := varsF_map (ρ := numV (varsF [] t)) t [] (fun n _ h => numV_neg.2 h) (fun n _ h => by unfold numV; rw [if_neg (by omega)]) (fun n hn m _ h1 h2 e => numV_inj h1 h2 ((varsF_mem t [] n).2 (Or.inr ⟨by simpa using hn, h1⟩)) e) (by simp)
  rw [List.map_nil] at h
  unfold canonL
  rw [h, List.length_map]
theorem madeB_canon {F G : List Int} (h : canonL F = canonL G) : madeB F = madeB G := by
  have h1 : F.length = G.length := by have := congrArg List.length h; simpa [canonL_len] using this
  have h2 : (varsF [] F).length = (varsF [] G).length := by rw [← varsF_canon_len F, ← varsF_canon_len G, h]
  unfold madeB
  rw [h1, h2]
theorem UR.unique {s : Sg} {a b t : List Int} (ht : IsT s 24 t) {x y : List Int × Int} (h : UR s a b t x) (k : UR s a b t y) : x = y := by
  rcases h with ⟨h1, rfl⟩ | ⟨m, hm, h⟩
  · rcases k with ⟨_, rfl⟩ | ⟨m', hm', _⟩
    · rfl
    · exact (hm'.not_no h1).elim
  · rcases k with ⟨k1, _⟩ | ⟨m', hm', k⟩
    · exact (hm.not_no k1).elim
    · have hc := hm.canon hm' ht
      have hb := madeB_canon hc
      rcases h with ⟨h1, rfl⟩ | ⟨h1, rfl⟩ <;> rcases k with ⟨k1, rfl⟩ | ⟨k1, rfl⟩
      · rw [hc]
      · rw [hb, k1] at h1; cases h1
      · rw [hb, k1] at h1; cases h1
      · rfl
theorem aparL_sub (t : List Int) : aparL t = subL (fun n => [n - 12]) t := by
  induction t with
  | nil => rfl
  | cons n t ih =>
    by_cases h : n < 0
    · rw [subL_cons_var _ h, ← ih]; simp [aparL, h]
    · rw [subL_cons_app _ (by omega), ← ih]; simp [aparL, h]
theorem aparL_T {s : Sg} {t : List Int} (h : IsT s 12 t) : IsT s 24 (aparL t) := by
  rw [aparL_sub]
  exact h.sub fun n hn hn0 => .var _ (by have := h.vars n hn hn0; omega) (by omega)
theorem aparL_len (t : List Int) : (aparL t).length = t.length := by simp [aparL]
def MeetR (s : Sg) (a b : List Int) (x : List Int × Int) : Prop := if termB s a && termB s b then UR s a (aparL b) a x else x = ([], 1)
def UnifR (s : Sg) (a b : List Int) (x : List Int × Int) : Prop := if termB s a && termB s b then UR s a b a x else x = ([], 1)
/-- whether two terms have a unifier. -/
def HasU (s : Sg) (a b : List Int) : Prop := ∃ m, Mgu s a b m
theorem T_small12 {s : Sg} {t : List Int} (h : IsT s 12 t) (hs : s.length ≤ 12) : ∀ x ∈ t, -1000000 ≤ x ∧ x ≤ 1000000 := by
  intro x hx
  rcases h.range x hx with h | h <;> omega
/-- whether two terms meet. -/
def MeetsQ (s : Sg) (a b : List Int) : Prop := termB s a = true ∧ termB s b = true ∧ ¬ NoU s a (aparL b)
def MeetsA (s : Sg) (a b : List Int) (z : Bool) : Prop := z = true ↔ MeetsQ s a b
def JoinR (s : Sg) (a b : List Int) (x : List Int × Int) : Prop :=
  x = if termB s a && termB s b then (if (varsF [] (comW s a b []).1).length ≤ 12 then (canonL (comW s a b []).1, 0) else ([], 4)) else ([], 1)
theorem comW_range {s : Sg} (hs : s.length ≤ 12) {a : List Int} (ha : IsT s 12 a) (hl : a.length ≤ 60) (b : List Int) : ∀ x ∈ (comW s a b []).1, -1000000 ≤ x ∧ x ≤ 1000000 := by
  have key : ∀ (f : Nat) (a b : List Int) (σ : List KK), (∀ x ∈ a, x ≤ 12) → ∀ x ∈ (com s f a b σ).1, -((σ.length + a.length : Nat) : Int) - 1 ≤ x ∧ x ≤ 12 := by
    intro f
    induction f with
    | zero => intro a b σ _ x hx; simp [com] at hx
    | succ f ih =>
      intro a b σ ha x hx
      cases a with
      | nil => rw [com_nil] at hx; cases hx
      | cons y a =>
        cases b with
        | nil => rw [com_nil2] at hx; cases hx
        | cons z b =>
          unfold com at hx
          split at hx
          · simp only [List.mem_cons] at hx
            rcases hx with rfl | hx
            · have := ha x (by simp)
              rename_i hh
              refine ⟨?_, this⟩
              omega
            · have := ih a b σ (fun w hw => ha w (by simp [hw])) x hx
              simp at this ⊢; omega
          · simp only [List.mem_cons] at hx
            rcases hx with rfl | hx
            · unfold numK
              have := List.idxOf_le_length (a := (keyL ((y :: a).take (pLen s (y :: a) 1)), keyL ((z :: b).take (pLen s (z :: b) 1)))) (l := σ)
              simp only [List.length_cons]
              first | omega | (constructor <;> omega)
            · have h1 := ih _ _ _ (fun w hw => ha w (List.mem_of_mem_drop hw)) x hx
              have h2 := insK_len σ (keyL ((y :: a).take (pLen s (y :: a) 1)), keyL ((z :: b).take (pLen s (z :: b) 1)))
              have h3 := pLen_pos s y a
              simp only [List.length_drop, List.length_cons] at h1 ⊢
              omega
  intro x hx
  have := key a.length a b [] (fun y hy => by rcases ha.range y hy with h | h <;> omega) x hx
  simp at this
  omega
set_option maxHeartbeats 1000000 in
set_option maxRecDepth 100000 in
theorem unify_solved (vs va vb : Value) (s : Sg) (a b : List Int) (w : World) (hsg : signB s = true) (hT : IsT s 24 a) (hU : IsT s 24 b) (hla : a.length ≤ 60) (hlb : b.length ≤ 60) (hs : SignAt w vs s) (ra : Ints w va a) (rb : Ints w vb b) :
    Calls Try.prog 54 #[vs, va, vb] w fun e w' => Below w.heap.size w w' ∧ ∃ px, ((e = .returned (.tuple #[.pointer (some ⟨px, 0, none⟩), .bool false]) ∧ NoU s a b) ∨
      (e = .returned (.tuple #[.pointer (some ⟨px, 0, none⟩), .bool true]) ∧ ∃ bm M, SolvW w' px bm vs s M ∧ Mgu s a b (mOf M))) := by
  obtain ⟨sa, sc, hse, -⟩ := hs.open
  subst hse
  obtain ⟨aa, ac, hae, -⟩ := ra.open
  subst hae
  obtain ⟨ba, bc, hbe, -⟩ := rb.open
  subst hbe
  have hmm := @run_makeMap Try.prog
  have HS := hid hs
  have HA := hid ra
  have HB := hid rb
  clear hs ra rb
  go_enter Try.func54, Try.ntmps54
  go_wp2_with fail
  clear hmm
  have hb1 : Below w.heap.size w ((w.alloc (.map #[] 0)).alloc (.cells #[.slice sa s.length sc, .map (some w.heap.size)] 109)) := ((Below.refl _ _).alloc (Nat.le_refl _) _).alloc (by simp) _
  have c0 : ((w.alloc (.map #[] 0)).alloc (.cells #[.slice sa s.length sc, .map (some w.heap.size)] 109)).cell? ⟨w.heap.size + 1, 0, none⟩ = some (.slice sa s.length sc) := by
    have := World.cell?_alloc_new (w := w.alloc (.map #[] 0)) #[.slice sa s.length sc, .map (some w.heap.size)] 109 0
    rw [World.size_alloc] at this
    rw [this]; rfl
  have c1 : ((w.alloc (.map #[] 0)).alloc (.cells #[.slice sa s.length sc, .map (some w.heap.size)] 109)).cell? ⟨w.heap.size + 1, 1, none⟩ = some (.map (some w.heap.size)) := by
    have := World.cell?_alloc_new (w := w.alloc (.map #[] 0)) #[.slice sa s.length sc, .map (some w.heap.size)] 109 1
    rw [World.size_alloc] at this
    rw [this]; rfl
  have km := (MapK.made Try.prog 3 eI eV w).alloc (.cells #[.slice sa s.length sc, .map (some w.heap.size)] 109)
  have hS0 : SolvW ((w.alloc (.map #[] 0)).alloc (.cells #[.slice sa s.length sc, .map (some w.heap.size)] 109)) (w.heap.size + 1) w.heap.size (.slice sa s.length sc) s (fun _ => none) := ⟨c0, c1, HS.out.below hb1, ⟨0, km⟩, fun _ _ _ h => by cases h⟩
  refine Calls.mono (unify_solve (w.heap.size + 1) w.heap.size _ _ _ s _ a b _ hsg hT hU hla hlb (HA.out.below hb1) (HB.out.below hb1) hS0 rfl) ?_
  rintro e w2 ⟨hg, ⟨rfl, hn⟩ | ⟨rfl, M, n, hM, hmgu, hi⟩⟩
  · have HB2 := hid (hb1.grown hg hb1.size (fun q hq => by cases hq; exact Nat.le_refl _))
    have HN := hid hn
    clear hg hn hS0 km c0 c1 hb1
    go_wp2
    go_ret2
    exact ⟨HB2.out, _, Or.inl ⟨rfl, HN.out⟩⟩
  · have HB2 := hid (hb1.grown hg hb1.size (fun q hq => by cases hq; exact Nat.le_refl _))
    have HMG := hid hmgu
    have HS2 : Hid (SolvW w2 (w.heap.size + 1) w.heap.size (.slice sa s.length sc) s M) := hid ⟨km.cell rfl hg c0, km.cell rfl hg c1, km.signAt rfl hg hS0.sgn, ⟨n, hM⟩, fun x v l h => km.ints rfl hg (hi x v l h)⟩
    clear hg hmgu hM hi hS0 km c0 c1 hb1
    go_wp2
    go_ret2
    exact ⟨HB2.out, _, Or.inr ⟨rfl, _, M, HS2.out, HMG.out⟩⟩
theorem fw_small {s : Sg} {m : MM} (hm : MOK s m) {t : List Int} (hT : IsT s 24 t) (hs : s.length ≤ 1000) : ∀ x ∈ fw m t, -1000000 ≤ x ∧ x ≤ 1000000 := by
  intro x hx
  rcases (fw_T hm hT).range x hx with h | h <;> omega
set_option maxHeartbeats 1000000 in
theorem unify_made (px bm : Nat) (vs vt : Value) (s : Sg) (M : Int → Option VT) (t : List Int) (w : World) (hm : MOK s (mOf M)) (hS : SolvW w px bm vs s M) (hT : IsT s 24 t) (hl : t.length ≤ 60) (ra : Ints w vt t) (hsl : s.length ≤ 1000) :
    Calls Try.prog 55 #[.pointer (some ⟨px, 0, none⟩), vt] w fun e w' => Below w.heap.size w w' ∧
      ((madeB (fw (mOf M) t) = true ∧ ∃ u, e = .returned (.tuple #[u, .int .i64 0]) ∧ w'.ownsRow w.heap.size 3 1 u (canonL (fw (mOf M) t)).length ((canonL (fw (mOf M) t)).map (Value.int .i64))) ∨
       (madeB (fw (mOf M) t) = false ∧ e = .returned (.tuple #[.slice none 0 0, .int .i64 4]))) := by
  have HF := hid (unify_full px bm vs vt s M t w hm hS hT hl ra hsl)
  have HSM := hid (fw_small hm hT hsl)
  obtain ⟨ta, tc, hte, -⟩ := ra.open
  subst hte
  obtain ⟨F, hFe⟩ : ∃ F, fw (mOf M) t = F := ⟨_, rfl⟩
  rw [hFe] at HF HSM ⊢
  clear hm hS hT ra hFe
  go_enter Try.func55, Try.ntmps55
  go_wp2_with fail
  refine HF.out.mono ?_
  rintro e w1 ⟨u, hb1, ⟨rfl, hl1, hown⟩ | ⟨rfl, hbig⟩⟩
  · have hI := Ints.of_owns hown (by omega)
    have HN := hid (unify_named u F w1 hI (by omega) HSM.out)
    obtain ⟨ua, uc, hue, -⟩ := hI.open
    subst hue
    have HB1 := hid hb1
    have hsz := hb1.size
    clear hI hown hb1
    cases hv : decide ((varsF [] F).length ≤ 12)
    · have HMB : Hid (madeB F = false) := hid (by unfold madeB; rw [hv]; simp)
      rw [hv] at HN
      clear hv
      go_wp2_with fail
      refine HN.out.mono ?_
      rintro e w2 ⟨u2, rfl, hown2, hb2⟩
      have HB2 := hid (HB1.out.trans (hb2.mono hsz))
      clear hown2 hb2
      go_wp2
      go_ret2
      exact ⟨HB2.out, Or.inr ⟨HMB.out, rfl⟩⟩
    · have HMB : Hid (madeB F = true) := hid (by unfold madeB; rw [hv]; simpa using hl1)
      rw [hv] at HN
      clear hv
      go_wp2_with fail
      refine HN.out.mono ?_
      rintro e w2 ⟨u2, rfl, hown2, hb2⟩
      have HB2 := hid (HB1.out.trans (hb2.mono hsz))
      have HOW := hid (owns_base hown2 hsz)
      clear hown2 hb2
      go_wp2
      go_ret2
      exact ⟨HB2.out, Or.inl ⟨HMB.out, _, rfl, HOW.out⟩⟩
  · have HMB : Hid (madeB F = false) := hid (by unfold madeB; rw [decide_eq_false (by omega)]; rfl)
    have HB1 := hid hb1
    clear hb1
    go_wp2
    go_ret2
    exact ⟨HB1.out, Or.inr ⟨HMB.out, rfl⟩⟩
end Go.Proofs.Ytldgkidojepdlaa
namespace Go.Proofs.Ytldgkidojepdlaa
open Go Go.RowKit Go.Maps
def szT (m : MM) (t : List Int) : Nat := min (fw m t).length 61
def Kno (m : MM) (cs : Array Value) : Prop := cs.size = 24 ∧ ∀ v : Nat, v < 24 → ∃ x : Nat, cs[v]? = some (.int .i64 x) ∧ (x = 0 ∨ ∃ p, m (-(v : Int) - 1) = some p ∧ x = szT m p)
theorem Kno.set {m : MM} {cs : Array Value} (h : Kno m cs) (v : Nat) {p : List Int} (hp : m (-(v : Int) - 1) = some p) : Kno m (cs.setIfInBounds v (.int .i64 (szT m p))) := by
  refine ⟨by simpa using h.1, fun x hx => ?_⟩
  rw [Array.getElem?_setIfInBounds]
  by_cases e : v = x
  · subst e
    exact ⟨szT m p, by simp [h.1, hx], Or.inr ⟨p, hp, rfl⟩⟩
  · rw [if_neg e]
    exact h.2 x hx
theorem Kno.at {m : MM} {cs : Array Value} (h : Kno m cs) {v : Nat} (hv : v < 24) {w : World} {pd : Nat} (ha : ArrV w pd cs) : ∃ x3 : Nat, Kno m cs ∧ ArrV w pd cs ∧ w.cell? ⟨pd, v, none⟩ = some (.int .i64 x3) := by
  obtain ⟨x, h1, -⟩ := h.2 v hv
  exact ⟨x, h, ha, by rw [ha.cell]; exact h1⟩
def SzI (m : MM) (t : List Int) (i n : Nat) : Prop := n ≤ 121 ∧ (n ≤ 60 → n = (fw m (t.take i)).length) ∧ (60 < n → 60 < (fw m (t.take i)).length)
theorem SzI.zero (m : MM) (t : List Int) : SzI m t 0 0 := ⟨by omega, fun _ => by simp [fw, full_nil], fun h => by omega⟩
theorem SzI.next {m : MM} {t : List Int} {i n : Nat} (h : SzI m t i n) (hn : n ≤ 60) (hi : i < t.length) {X : Nat} (hX : min (fw m [t[i]]).length 61 = X) : SzI m t (i + 1) (n + X) := by
  have h1 := h.2.1 hn
  unfold SzI
  rw [fw_take t hi, List.length_append]
  refine ⟨by omega, fun _ => by omega, fun _ => by omega⟩
theorem SzI.fin {m : MM} {t : List Int} {i n : Nat} (h : SzI m t i n) (hi : t.length ≤ i) (hn : n ≤ 60) : n = szT m t := by
  have h1 := h.2.1 hn
  rw [List.take_of_length_le hi] at h1
  unfold szT
  omega
theorem SzI.big {m : MM} {t : List Int} {i n : Nat} (h : SzI m t i n) (hn : 60 < n) : 61 = szT m t := by
  have h1 := h.2.2 hn
  have h2 := fw_take_le m t i
  unfold szT
  omega
theorem below_self_drewN' {w0 w : World} (h : Below w0.heap.size w0 w) (n : Nat) : Below w0.heap.size w (w.drewN n) := (below_self_drewN w n).mono h.size
end Go.Proofs.Ytldgkidojepdlaa
namespace Go.Proofs.Ytldgkidojepdlaa
open Go Go.RowKit Go.Maps
theorem kno_zero (m : MM) : Kno m #[.int .i64 0, .int .i64 0, .int .i64 0, .int .i64 0, .int .i64 0, .int .i64 0, .int .i64 0, .int .i64 0, .int .i64 0, .int .i64 0, .int .i64 0, .int .i64 0, .int .i64 0, .int .i64 0, .int .i64 0, .int .i64 0, .int .i64 0, .int .i64 0, .int .i64 0, .int .i64 0, .int .i64 0, .int .i64 0, .int .i64 0, .int .i64 0] := by
  refine ⟨rfl, fun v hv => ⟨0, ?_, Or.inl rfl⟩⟩
  show ((List.replicate 24 (Value.int .i64 0)).toArray)[v]? = _
  rw [List.getElem?_toArray, List.getElem?_replicate, if_pos hv]; rfl
end Go.Proofs.Ytldgkidojepdlaa
namespace Go.Proofs.Ytldgkidojepdlaa
theorem unif_of_inst {s : Sg} {a b c : List Int} (ha : IsT s 12 a) (hb : IsT s 12 b) (h0 : Inst s 12 a c) (h1 : Inst s 12 b c) : ∃ σ : Int → List Int, (∀ v, -24 ≤ v → v < 0 → IsT s 12 (σ v)) ∧ subL σ a = c ∧ subL σ (aparL b) = c := by
  obtain ⟨σ0, g0, e0⟩ := h0
  obtain ⟨σ1, g1, e1⟩ := h1
  refine ⟨fun n => if -12 ≤ n then (if n ∈ a then σ0 n else [n]) else (if n + 12 ∈ b then σ1 (n + 12) else [-1]), fun v h1 h2 => ?_, ?_, ?_⟩
  · (try simp only)
    split
    · split
      · rename_i h; exact g0 v h h2
      · exact .var v (by omega) h2
    · split
      · rename_i h; exact g1 _ h (by omega)
      · exact .var _ (by omega) (by omega)
  · rw [← e0]
    refine subL_congr fun n hn hn0 => ?_
    have := ha.vars n hn hn0
    (try simp only)
    rw [if_pos (by omega), if_pos hn]
  · rw [← e1, aparL_sub, subL_comp]
    refine subL_congr fun n hn hn0 => ?_
    (try simp only)
    rw [subL_one, if_pos (by omega), if_neg (by omega), show n - 12 + 12 = n by omega, if_pos hn]
theorem madeB_iff {F : List Int} : madeB F = true ↔ F.length ≤ 60 ∧ (varsF [] F).length ≤ 12 := by simp [madeB]
theorem made_term {s : Sg} {q : Int} {F : List Int} (hs : signB s = true) (hT : IsT s q F) (h : madeB F = true) : termB s (canonL F) = true := by
  obtain ⟨h1, h2⟩ := madeB_iff.1 h
  exact T_termB hs (canonL_T hT h2) (by rw [canonL_len]; exact h1)
theorem bounds_meet {s : Sg} {t0 t1 t2 : List Int} {x : List Int × Int} (h0 : instB s t0 t2 = true) (h1 : instB s t1 t2 = true) (hx : MeetR s t0 t1 x) : (¬ NoU s t0 (aparL t1)) ∧ ((x.2 = 0 ∧ instB s x.1 t2 = true) ∨ x.2 = 4) := by
  obtain ⟨v0, v2, i0⟩ := instB_iff.1 h0
  obtain ⟨v1, _, i1⟩ := instB_iff.1 h1
  have T0 := termB_T v0
  have T1 := termB_T v1
  have T2 := termB_T v2
  obtain ⟨σ, g, e0, e1⟩ := unif_of_inst T0 T1 i0 i1
  have hTS : TS s σ := ⟨12, g⟩
  have hno : ¬ NoU s t0 (aparL t1) := fun h => h σ hTS (e0.trans e1.symm)
  refine ⟨hno, ?_⟩
  unfold MeetR at hx
  rw [v0, v1] at hx
  simp only [Bool.and_self, if_true] at hx
  rcases hx with ⟨h, _⟩ | ⟨m, hm, ⟨hb, rfl⟩ | ⟨hb, rfl⟩⟩
  · exact absurd h hno
  · left
    refine ⟨rfl, ?_⟩
    have hF := fw_T hm.1 (T0.mono (m' := 24) (by omega))
    have hv := made_term (termB_facts v0).1 hF hb
    refine instB_iff.2 ⟨hv, v2, Inst.down (q := 24) (by omega) (termB_T hv) T2 ((inst_canon hF).trans ⟨σ, fun n hn hn0 => (g n (hF.vars n hn hn0) hn0).mono (by omega), ?_⟩)⟩
    rw [hm.gen hTS (e0.trans e1.symm), e0]
  · exact Or.inr rfl
theorem bounds_join {s : Sg} {t0 t1 t2 : List Int} {x : List Int × Int} (h0 : instB s t2 t0 = true) (h1 : instB s t2 t1 = true) (hx : JoinR s t0 t1 x) : (x.2 = 0 ∧ instB s t2 x.1 = true) ∨ x.2 = 4 := by
  obtain ⟨v2, v0, i0⟩ := instB_iff.1 h0
  obtain ⟨_, v1, i1⟩ := instB_iff.1 h1
  have T0 := termB_T v0
  have T1 := termB_T v1
  have T2 := termB_T v2
  have hf := termB_facts v0
  obtain ⟨j1, j2, j3, j4⟩ := join_facts hf.2.2.1 T0 T1 hf.2.2.2
  have hl := (comW_len s t0 t1 []).1
  unfold JoinR at hx
  rw [v0, v1] at hx
  simp only [Bool.and_self, if_true] at hx
  by_cases hv : (varsF [] (comW s t0 t1 []).1).length ≤ 12
  · rw [if_pos hv] at hx
    subst hx
    left
    refine ⟨rfl, ?_⟩
    have hT := canonL_T j1 hv
    have hx := T_termB hf.1 hT (by rw [canonL_len]; omega)
    refine instB_iff.2 ⟨v2, hx, Inst.down (q := 60) (by omega) T2 hT ((j4 t2 i0 i1).trans (canon_inst (hT.mono (by omega)) (canonL_canon _).symm))⟩
  · rw [if_neg hv] at hx
    subst hx
    exact Or.inr rfl
end Go.Proofs.Ytldgkidojepdlaa
namespace Go.Proofs.Ytldgkidojepdlaa
open Go Go.RowKit Go.Maps
def swK (k : KK) : KK := (k.2, k.1)
theorem swK_swK (k : KK) : swK (swK k) = k := rfl
theorem swK_mem {σ : List KK} {k : KK} : swK k ∈ σ.map swK ↔ k ∈ σ := by
  constructor
  · intro h
    obtain ⟨z, h1, h2⟩ := List.mem_map.1 h
    have : z = k := by rw [← swK_swK z, h2, swK_swK]
    exact this ▸ h1
  · exact fun h => List.mem_map.2 ⟨k, h, rfl⟩
theorem swK_ins (σ : List KK) (k : KK) : insK (σ.map swK) (swK k) = (insK σ k).map swK := by
  unfold insK
  by_cases h : k ∈ σ
  · rw [if_pos h, if_pos (swK_mem.2 h)]
  · rw [if_neg h, if_neg (fun hh => h (swK_mem.1 hh))]; simp
theorem swK_idx : ∀ (σ : List KK) (k : KK), (σ.map swK).idxOf (swK k) = σ.idxOf k
  | [], _ => rfl
  | z :: σ, k => by
    rw [List.map_cons, List.idxOf_cons, List.idxOf_cons, swK_idx σ k]
    have : (swK z == swK k) = (z == k) := by
      rw [Bool.eq_iff_iff, beq_iff_eq, beq_iff_eq]
      exact ⟨fun h => by rw [← swK_swK z, h, swK_swK], fun h => by rw [h]⟩
    rw [this]
theorem swK_num (σ : List KK) (k : KK) : numK (σ.map swK) (swK k) = numK σ k := by
  unfold numK
  rw [swK_idx]
theorem com_swap (s : Sg) : ∀ (f : Nat) (a b : List Int) (σ : List KK), com s f b a (σ.map swK) = ((com s f a b σ).1, (com s f a b σ).2.map swK) := by
  intro f
  induction f with
  | zero => intro a b σ; rfl
  | succ f ih =>
    intro a b σ
    cases a with
    | nil => rw [com_nil, com_nil2]
    | cons x a =>
      cases b with
      | nil => rw [com_nil2, com_nil]
      | cons y b =>
        simp only [com]
        by_cases h : x = y ∧ 0 ≤ x
        · obtain ⟨rfl, h0⟩ := h
          rw [if_pos ⟨rfl, h0⟩, if_pos ⟨rfl, h0⟩, ih]
        · rw [if_neg h, if_neg (show ¬ (y = x ∧ 0 ≤ y) from fun hh => h ⟨hh.1.symm, hh.1 ▸ hh.2⟩)]
          have e := swK_num σ (keyL ((x :: a).take (pLen s (x :: a) 1)), keyL ((y :: b).take (pLen s (y :: b) 1)))
          have e2 := swK_ins σ (keyL ((x :: a).take (pLen s (x :: a) 1)), keyL ((y :: b).take (pLen s (y :: b) 1)))
          unfold swK at e e2 ih
          simp only at e e2 ih
          unfold swK
          rw [e, e2, ih]
theorem comW_swap (s : Sg) (a b : List Int) : (comW s b a []).1 = (comW s a b []).1 := by
  have h1 := com_swap s (a.length + b.length) a b []
  have h2 := com_fuel s b.length (a.length + b.length) b a [] (Nat.le_refl _) (by omega)
  have h3 := com_fuel s a.length (a.length + b.length) a b [] (Nat.le_refl _) (by omega)
  unfold comW
  rw [h2, h3]
  rw [List.map_nil] at h1
  rw [h1]
theorem JoinR.swap {s : Sg} {a b : List Int} {x y : List Int × Int} (h : JoinR s a b x) (k : JoinR s b a y) : x = y := by
  unfold JoinR at h k
  rw [h, k, comW_swap, Bool.and_comm]
/-- the names from -1 down. -/
def nmsL (n : Nat) : List Int := (List.range n).map fun (i : Nat) => -(i : Int) - 1
theorem nmsL_mem {n : Nat} {k : Nat} : (-(k : Int) - 1) ∈ nmsL n ↔ k < n := by
  unfold nmsL
  rw [List.mem_map]
  constructor
  · rintro ⟨i, hi, h⟩
    have := List.mem_range.1 hi
    omega
  · exact fun h => ⟨k, List.mem_range.2 h, rfl⟩
theorem nmsL_succ (n : Nat) : nmsL (n + 1) = nmsL n ++ [-(n : Int) - 1] := by
  unfold nmsL
  rw [List.range_succ, List.map_append]; rfl
theorem nmsL_idx : ∀ {n k : Nat}, k < n → (nmsL n).idxOf (-(k : Int) - 1) = k
  | 0, k, h => by omega
  | n + 1, k, h => by
    rw [nmsL_succ, List.idxOf_append]
    by_cases hk : k < n
    · rw [if_pos (nmsL_mem.2 hk), nmsL_idx hk]
    · have : k = n := by omega
      subst this
      rw [if_neg (fun hh => hk (nmsL_mem.1 hh))]
      have hl : (nmsL k).length = k := by simp [nmsL]
      rw [hl]
      simp
theorem com_vars (s : Sg) : ∀ (f : Nat) (a b : List Int) (σ : List KK), varsF (nmsL σ.length) (com s f a b σ).1 = nmsL (com s f a b σ).2.length ∧ ∀ x ∈ (com s f a b σ).1, x < 0 → x ∈ nmsL (com s f a b σ).2.length := by
  intro f
  induction f with
  | zero => intro a b σ; exact ⟨rfl, by simp [com]⟩
  | succ f ih =>
    intro a b σ
    cases a with
    | nil => rw [com_nil]; exact ⟨rfl, by simp⟩
    | cons x a =>
      cases b with
      | nil => rw [com_nil2]; exact ⟨rfl, by simp⟩
      | cons y b =>
        simp only [com]
        by_cases h : x = y ∧ 0 ≤ x
        · rw [if_pos h]
          obtain ⟨h1, h2⟩ := ih a b σ
          refine ⟨?_, ?_⟩
          · simp only [varsF]
            rw [if_neg (by omega)]
            exact h1
          · intro z hz hz0
            simp only [List.mem_cons] at hz
            rcases hz with rfl | hz
            · omega
            · exact h2 z hz hz0
        · rw [if_neg h]
          obtain ⟨k, hk⟩ : ∃ k : KK, (keyL ((x :: a).take (pLen s (x :: a) 1)), keyL ((y :: b).take (pLen s (y :: b) 1))) = k := ⟨_, rfl⟩
          simp only [hk]
          obtain ⟨h1, h2⟩ := ih ((x :: a).drop (pLen s (x :: a) 1)) ((y :: b).drop (pLen s (y :: b) 1)) (insK σ k)
          have hv : varsF (nmsL σ.length) (numK σ k :: (com s f ((x :: a).drop (pLen s (x :: a) 1)) ((y :: b).drop (pLen s (y :: b) 1)) (insK σ k)).1) = nmsL (com s f ((x :: a).drop (pLen s (x :: a) 1)) ((y :: b).drop (pLen s (y :: b) 1)) (insK σ k)).2.length := by
            simp only [varsF]
            by_cases hm : k ∈ σ
            · have hi := List.idxOf_lt_length_of_mem hm
              have hin : insK σ k = σ := by unfold insK; rw [if_pos hm]
              rw [if_neg (fun hh => hh.2 (nmsL_mem.2 hi))]
              rw [hin] at h1 ⊢
              exact h1
            · have hi : σ.idxOf k = σ.length := List.idxOf_eq_length hm
              have hin : insK σ k = σ ++ [k] := by unfold insK; rw [if_neg hm]
              have hn : numK σ k = -(σ.length : Int) - 1 := by unfold numK; rw [hi]
              rw [hn, if_pos ⟨by omega, fun hh => by have := nmsL_mem.1 hh; omega⟩, ← nmsL_succ]
              rw [hin] at h1 ⊢
              rw [List.length_append, List.length_singleton] at h1
              exact h1
          refine ⟨hv, fun z hz hz0 => ?_⟩
          rw [← hv]
          exact (varsF_mem _ _ z).2 (Or.inr ⟨hz, hz0⟩)
theorem com_canon (s : Sg) (a b : List Int) : canonL (comW s a b []).1 = (comW s a b []).1 := by
  obtain ⟨h1, h2⟩ := com_vars s a.length a b []
  unfold comW canonL
  rw [show varsF [] (com s a.length a b []).1 = nmsL (com s a.length a b []).2.length from h1]
  refine (List.map_congr_left fun z hz => ?_).trans (List.map_id' _)
  unfold numV
  split
  · rename_i hz0
    have hm := h2 z hz hz0
    obtain ⟨i, hi, rfl⟩ := List.mem_map.1 hm
    rw [nmsL_idx (List.mem_range.1 hi)]
  · rfl
theorem join_both {s : Sg} {a b : List Int} {x : List Int × Int} (h : JoinR s a b x) (h0 : x.2 = 0) : instB s x.1 a = true ∧ instB s x.1 b = true ∧ x.1.length ≤ a.length ∧ x.1.length ≤ b.length ∧ alikeB s x.1 x.1 = true ∧ instB s a b = alikeB s x.1 a := by
  unfold JoinR at h
  split at h
  · rename_i hv
    simp only [Bool.and_eq_true] at hv
    have ha := termB_T hv.1
    have hb := termB_T hv.2
    have hf := termB_facts hv.1
    have hfb := termB_facts hv.2
    obtain ⟨j1, j2, j3, j4⟩ := join_facts hf.2.2.1 ha hb hf.2.2.2
    have hl1 := (comW_len s a b []).1
    have hl2 := (comW_len s b a []).1
    rw [comW_swap] at hl2
    split at h
    · rename_i hvl
      subst h
      simp only
      have hT := canonL_T j1 hvl
      have hx := T_termB hf.1 hT (by rw [canonL_len]; omega)
      have i1 : Inst s 60 (canonL (comW s a b []).1) (comW s a b []).1 := inst_canon j1
      have ia : instB s (canonL (comW s a b []).1) a = true := instB_iff.2 ⟨hx, hv.1, Inst.down (q := 60) (by omega) hT ha (i1.trans j2)⟩
      have ib : instB s (canonL (comW s a b []).1) b = true := instB_iff.2 ⟨hx, hv.2, Inst.down (q := 60) (by omega) hT hb (i1.trans j3)⟩
      refine ⟨ia, ib, by rw [canonL_len]; omega, by rw [canonL_len]; omega, alikeB_iff.2 ⟨by rw [instB_refl, hx], by rw [instB_refl, hx]⟩, ?_⟩
      rw [Bool.eq_iff_iff, alikeB_iff]
      constructor
      · intro hi
        obtain ⟨_, _, hi⟩ := instB_iff.1 hi
        have := j4 a (Inst.refl ha) hi
        exact ⟨ia, instB_iff.2 ⟨hv.1, hx, Inst.down (q := 60) (by omega) ha hT (this.trans (canon_inst (hT.mono (by omega)) (canonL_canon _).symm))⟩⟩
      · intro hal
        exact instB_trans hal.2 ib
    · subst h; simp at h0
  · subst h; simp at h0
end Go.Proofs.Ytldgkidojepdlaa
