/-
  WHAT IT HOLDS: contracts of solved, Meets, Meet, Unifiable, Unified, Detached of package unify and of made of its solver: what they answer, by most general binds. Conditions: the arguments read as data; small signs.
  WHAT IT HOLDS: contracts of Apart and Whole and Few of the reference (layer 2). Conditions: the arguments read as data.
  WHAT IT HOLDS: contracts of Meets, Join of package unify, and of the helper awake of the laws of layer 2. Conditions: the arguments read as data; small signs.
-/
import Derived.Test.YtpflkjldapmgdaaGreatZRCarryConverse27
import Derived.Test.YtpflkjldapmgdaaGreatZRCarryConverse18
import Derived.Test.YtpflkjldapmgdaaGreatZRCarryConverse11
import Derived.Test.YtpflkjldapmgdaaGreatZRCarryConverse15
namespace Go.Proofs.YtpflkjldapmgdaaGreat
open Go Go.RowKit Go.Maps
def madeB (F : List Int) : Bool := decide (F.length ≤ 60) && decide ((varsF [] F).length ≤ 12)
/-- what is made of t where a and b are unified. -/
def UR (s : Sg) (a b t : List Int) (x : List Int × Int) : Prop :=
  (NoU s a b ∧ x = ([], 8)) ∨ ∃ m, Mgu s a b m ∧ ((madeB (fw m t) = true ∧ x = (canonL (fw m t), 0)) ∨ (madeB (fw m t) = false ∧ x = ([], 4)))
theorem varsF_canon_len (t : List Int) : (varsF [] (canonL t)).length = (varsF [] t).length := by
  have h := varsF_map (ρ := numV (varsF [] t)) t [] (fun n _ h => numV_neg.2 h) (fun n _ h => by unfold numV; rw [if_neg (by omega)]) (fun n hn m _ h1 h2 e => numV_inj h1 h2 ((varsF_mem t [] n).2 (Or.inr ⟨by simpa using hn, h1⟩)) e) (by simp)
  rw [List.map_nil] at h
  unfold canonL
  rw [h, List.length_map]
theorem madeB_canon {F G : List Int} (h : canonL F = canonL G) : madeB F = madeB G := by
  have h1 : F.length = G.length := by have := congrArg List.length h; simpa [canonL_len] using this
  have h2 : (varsF [] F).length = (varsF [] G).length := by rw [← varsF_canon_len F, ← varsF_canon_len G, h]
  unfold madeB
  rw [h1, h2]
theorem UR.unique {s : Sg} {a b t : List Int} (ht : IsT s 24 t) {x y : List Int × Int} (h : UR s a b t x) (k : UR s a b t y) : x = y := by
  rcases h with ⟨h1, rfl⟩ | ⟨m, hm, h⟩
  · rcases k with ⟨_, rfl⟩ | ⟨m', hm', _⟩
    · rfl
    · exact (hm'.not_no h1).elim
  · rcases k with ⟨k1, _⟩ | ⟨m', hm', k⟩
    · exact (hm.not_no k1).elim
    · have hc := hm.canon hm' ht
      have hb := madeB_canon hc
      rcases h with ⟨h1, rfl⟩ | ⟨h1, rfl⟩ <;> rcases k with ⟨k1, rfl⟩ | ⟨k1, rfl⟩
      · rw [hc]
      · rw [hb, k1] at h1; cases h1
      · rw [hb, k1] at h1; cases h1
      · rfl
theorem aparL_sub (t : List Int) : aparL t = subL (fun n => [n - 12]) t := by
  induction t with
  | nil => rfl
  | cons n t ih =>
    by_cases h : n < 0
    · rw [subL_cons_var _ h, ← ih]; simp [aparL, h]
    · rw [subL_cons_app _ (by omega), ← ih]; simp [aparL, h]
theorem aparL_T {s : Sg} {t : List Int} (h : IsT s 12 t) : IsT s 24 (aparL t) := by
  rw [aparL_sub]
  exact h.sub fun n hn hn0 => .var _ (by have := h.vars n hn hn0; omega) (by omega)
theorem aparL_len (t : List Int) : (aparL t).length = t.length := by simp [aparL]
def MeetR (s : Sg) (a b : List Int) (x : List Int × Int) : Prop := if termB s a && termB s b then UR s a (aparL b) a x else x = ([], 1)
def UnifR (s : Sg) (a b : List Int) (x : List Int × Int) : Prop := if termB s a && termB s b then UR s a b a x else x = ([], 1)
/-- whether two terms have a unifier. -/
def HasU (s : Sg) (a b : List Int) : Prop := ∃ m, Mgu s a b m
theorem T_small12 {s : Sg} {t : List Int} (h : IsT s 12 t) (hs : s.length ≤ 12) : ∀ x ∈ t, -1000000 ≤ x ∧ x ≤ 1000000 := by
  intro x hx
  rcases h.range x hx with h | h <;> omega
/-- whether two terms meet. -/
def MeetsQ (s : Sg) (a b : List Int) : Prop := termB s a = true ∧ termB s b = true ∧ ¬ NoU s a (aparL b)
def MeetsA (s : Sg) (a b : List Int) (z : Bool) : Prop := z = true ↔ MeetsQ s a b
def JoinR (s : Sg) (a b : List Int) (x : List Int × Int) : Prop :=
  x = if termB s a && termB s b then (if (varsF [] (comW s a b []).1).length ≤ 12 then (canonL (comW s a b []).1, 0) else ([], 4)) else ([], 1)
theorem comW_range {s : Sg} (hs : s.length ≤ 12) {a : List Int} (ha : IsT s 12 a) (hl : a.length ≤ 60) (b : List Int) : ∀ x ∈ (comW s a b []).1, -1000000 ≤ x ∧ x ≤ 1000000 := by
  have key : ∀ (f : Nat) (a b : List Int) (σ : List KK), (∀ x ∈ a, x ≤ 12) → ∀ x ∈ (com s f a b σ).1, -((σ.length + a.length : Nat) : Int) - 1 ≤ x ∧ x ≤ 12 := by
    intro f
    induction f with
    | zero => intro a b σ _ x hx; simp [com] at hx
    | succ f ih =>
      intro a b σ ha x hx
      cases a with
      | nil => rw [com_nil] at hx; cases hx
      | cons y a =>
        cases b with
        | nil => rw [com_nil2] at hx; cases hx
        | cons z b =>
          unfold com at hx
          split at hx
          · simp only [List.mem_cons] at hx
            rcases hx with rfl | hx
            · have := ha x (by simp)
              rename_i hh
              refine ⟨?_, this⟩
              omega
            · have := ih a b σ (fun w hw => ha w (by simp [hw])) x hx
              simp at this ⊢; omega
          · simp only [List.mem_cons] at hx
            rcases hx with rfl | hx
            · unfold numK
              have := List.idxOf_le_length (a := (keyL ((y :: a).take (pLen s (y :: a) 1)), keyL ((z :: b).take (pLen s (z :: b) 1)))) (l := σ)
              simp only [List.length_cons]
              first | omega | (constructor <;> omega)
            · have h1 := ih _ _ _ (fun w hw => ha w (List.mem_of_mem_drop hw)) x hx
              have h2 := insK_len σ (keyL ((y :: a).take (pLen s (y :: a) 1)), keyL ((z :: b).take (pLen s (z :: b) 1)))
              have h3 := pLen_pos s y a
              simp only [List.length_drop, List.length_cons] at h1 ⊢
              omega
  intro x hx
  have := key a.length a b [] (fun y hy => by rcases ha.range y hy with h | h <;> omega) x hx
  simp at this
  omega
set_option maxHeartbeats 1000000 in
set_option maxRecDepth 100000 in
theorem unify_solved (vs va vb : Value) (s : Sg) (a b : List Int) (w : World) (hsg : signB s = true) (hT : IsT s 24 a) (hU : IsT s 24 b) (hla : a.length ≤ 60) (hlb : b.length ≤ 60) (hs : SignAt w vs s) (ra : Ints w va a) (rb : Ints w vb b) :
    Calls Tryz.prog 130 #[vs, va, vb] w fun e w' => Below w.heap.size w w' ∧ ∃ px, ((e = .returned (.tuple #[.pointer (some ⟨px, 0, none⟩), .bool false]) ∧ NoU s a b) ∨
      (e = .returned (.tuple #[.pointer (some ⟨px, 0, none⟩), .bool true]) ∧ ∃ bm M, SolvW w' px bm vs s M ∧ Mgu s a b (mOf M))) := by
  obtain ⟨sa, sc, hse, -⟩ := hs.open
  subst hse
  obtain ⟨aa, ac, hae, -⟩ := ra.open
  subst hae
  obtain ⟨ba, bc, hbe, -⟩ := rb.open
  subst hbe
  have hmm := @run_makeMap Tryz.prog
  have HS := hid hs
  have HA := hid ra
  have HB := hid rb
  clear hs ra rb
  go_enter Tryz.func130, Tryz.ntmps130
  go_wp2_with fail
  clear hmm
  have hb1 : Below w.heap.size w ((w.alloc (.map #[] 0)).alloc (.cells #[.slice sa s.length sc, .map (some w.heap.size)] 179)) := ((Below.refl _ _).alloc (Nat.le_refl _) _).alloc (by simp) _
  have c0 : ((w.alloc (.map #[] 0)).alloc (.cells #[.slice sa s.length sc, .map (some w.heap.size)] 179)).cell? ⟨w.heap.size + 1, 0, none⟩ = some (.slice sa s.length sc) := by
    have := World.cell?_alloc_new (w := w.alloc (.map #[] 0)) #[.slice sa s.length sc, .map (some w.heap.size)] 179 0
    rw [World.size_alloc] at this
    rw [this]; rfl
  have c1 : ((w.alloc (.map #[] 0)).alloc (.cells #[.slice sa s.length sc, .map (some w.heap.size)] 179)).cell? ⟨w.heap.size + 1, 1, none⟩ = some (.map (some w.heap.size)) := by
    have := World.cell?_alloc_new (w := w.alloc (.map #[] 0)) #[.slice sa s.length sc, .map (some w.heap.size)] 179 1
    rw [World.size_alloc] at this
    rw [this]; rfl
  have km := (MapK.made Tryz.prog 3 eI eV w).alloc (.cells #[.slice sa s.length sc, .map (some w.heap.size)] 179)
  have hS0 : SolvW ((w.alloc (.map #[] 0)).alloc (.cells #[.slice sa s.length sc, .map (some w.heap.size)] 179)) (w.heap.size + 1) w.heap.size (.slice sa s.length sc) s (fun _ => none) := ⟨c0, c1, HS.out.below hb1, ⟨0, km⟩, fun _ _ _ h => by cases h⟩
  refine Calls.mono (unify_solve (w.heap.size + 1) w.heap.size _ _ _ s _ a b _ hsg hT hU hla hlb (HA.out.below hb1) (HB.out.below hb1) hS0 rfl) ?_
  rintro e w2 ⟨hg, ⟨rfl, hn⟩ | ⟨rfl, M, n, hM, hmgu, hi⟩⟩
  · have HB2 := hid (hb1.grown hg hb1.size (fun q hq => by cases hq; exact Nat.le_refl _))
    have HN := hid hn
    clear hg hn hS0 km c0 c1 hb1
    go_wp2
    go_ret2
    exact ⟨HB2.out, _, Or.inl ⟨rfl, HN.out⟩⟩
  · have HB2 := hid (hb1.grown hg hb1.size (fun q hq => by cases hq; exact Nat.le_refl _))
    have HMG := hid hmgu
    have HS2 : Hid (SolvW w2 (w.heap.size + 1) w.heap.size (.slice sa s.length sc) s M) := hid ⟨km.cell rfl hg c0, km.cell rfl hg c1, km.signAt rfl hg hS0.sgn, ⟨n, hM⟩, fun x v l h => km.ints rfl hg (hi x v l h)⟩
    clear hg hmgu hM hi hS0 km c0 c1 hb1
    go_wp2
    go_ret2
    exact ⟨HB2.out, _, Or.inr ⟨rfl, _, M, HS2.out, HMG.out⟩⟩
theorem fw_small {s : Sg} {m : MM} (hm : MOK s m) {t : List Int} (hT : IsT s 24 t) (hs : s.length ≤ 1000) : ∀ x ∈ fw m t, -1000000 ≤ x ∧ x ≤ 1000000 := by
  intro x hx
  rcases (fw_T hm hT).range x hx with h | h <;> omega
set_option maxHeartbeats 1000000 in
theorem unify_made (px bm : Nat) (vs vt : Value) (s : Sg) (M : Int → Option VT) (t : List Int) (w : World) (hm : MOK s (mOf M)) (hS : SolvW w px bm vs s M) (hT : IsT s 24 t) (hl : t.length ≤ 60) (ra : Ints w vt t) (hsl : s.length ≤ 1000) :
    Calls Tryz.prog 161 #[.pointer (some ⟨px, 0, none⟩), vt] w fun e w' => Below w.heap.size w w' ∧
      ((madeB (fw (mOf M) t) = true ∧ ∃ u, e = .returned (.tuple #[u, .int .i64 0]) ∧ w'.ownsRow w.heap.size 3 1 u (canonL (fw (mOf M) t)).length ((canonL (fw (mOf M) t)).map (Value.int .i64))) ∨
       (madeB (fw (mOf M) t) = false ∧ e = .returned (.tuple #[.slice none 0 0, .int .i64 4]))) := by
  have HF := hid (unify_full px bm vs vt s M t w hm hS hT hl ra hsl)
  have HSM := hid (fw_small hm hT hsl)
  obtain ⟨ta, tc, hte, -⟩ := ra.open
  subst hte
  obtain ⟨F, hFe⟩ : ∃ F, fw (mOf M) t = F := ⟨_, rfl⟩
  rw [hFe] at HF HSM ⊢
  clear hm hS hT ra hFe
  go_enter Tryz.func161, Tryz.ntmps161
  go_wp2_with fail
  refine HF.out.mono ?_
  rintro e w1 ⟨u, hb1, ⟨rfl, hl1, hown⟩ | ⟨rfl, hbig⟩⟩
  · have hI := Ints.of_owns hown (by omega)
    have HN := hid (unify_named u F w1 hI (by omega) HSM.out)
    obtain ⟨ua, uc, hue, -⟩ := hI.open
    subst hue
    have HB1 := hid hb1
    have hsz := hb1.size
    clear hI hown hb1
    cases hv : decide ((varsF [] F).length ≤ 12)
    · have HMB : Hid (madeB F = false) := hid (by unfold madeB; rw [hv]; simp)
      rw [hv] at HN
      clear hv
      go_wp2_with fail
      refine HN.out.mono ?_
      rintro e w2 ⟨u2, rfl, hown2, hb2⟩
      have HB2 := hid (HB1.out.trans (hb2.mono hsz))
      clear hown2 hb2
      go_wp2
      go_ret2
      exact ⟨HB2.out, Or.inr ⟨HMB.out, rfl⟩⟩
    · have HMB : Hid (madeB F = true) := hid (by unfold madeB; rw [hv]; simpa using hl1)
      rw [hv] at HN
      clear hv
      go_wp2_with fail
      refine HN.out.mono ?_
      rintro e w2 ⟨u2, rfl, hown2, hb2⟩
      have HB2 := hid (HB1.out.trans (hb2.mono hsz))
      have HOW := hid (owns_base hown2 hsz)
      clear hown2 hb2
      go_wp2
      go_ret2
      exact ⟨HB2.out, Or.inl ⟨HMB.out, _, rfl, HOW.out⟩⟩
  · have HMB : Hid (madeB F = false) := hid (by unfold madeB; rw [decide_eq_false (by omega)]; rfl)
    have HB1 := hid hb1
    clear hb1
    go_wp2
    go_ret2
    exact ⟨HB1.out, Or.inr ⟨HMB.out, rfl⟩⟩
end Go.Proofs.YtpflkjldapmgdaaGreat
namespace Go.Proofs.YtpflkjldapmgdaaGreat
open Go Go.RowKit Go.Maps
set_option maxHeartbeats 1000000 in
theorem ref2_Apart (v : Value) (t : List Int) (w : World) (ht : Ints w v t) (h0 : 0 < t.length) (hl : t.length ≤ 1000) (hr : ∀ x ∈ t, -1000000 ≤ x ∧ x ≤ 1000000) :
    Calls Tryz.prog 135 #[v] w fun e w' => ∃ u, e = .returned u ∧ w'.ownsRow w.heap.size 3 1 u (aparL t).length ((aparL t).map (Value.int .i64)) ∧ Below w.heap.size w w' := by
  obtain ⟨ta, tcap, rfl, ht1, ht2, -, TC⟩ := ht.open
  obtain ⟨tb, to, rfl, -⟩ := TC 0 h0
  have TC2 : ∀ j (h : j < t.length), ∃ o, to = o ∧ w.cell? ⟨tb, o + j, none⟩ = some (.int .i64 t[j]) := fun j h => by
    obtain ⟨b, o, h1, h2⟩ := TC j h
    simp only [Option.some.injEq, Addr.mk.injEq] at h1
    obtain ⟨rfl, rfl, -⟩ := h1
    exact ⟨_, rfl, h2⟩
  have TC' := hid TC2
  clear TC2
  have HR := hid hr
  have hb0 : Below w.heap.size w (w.alloc (.cells #[] 3)) := (Below.refl _ _).alloc (Nat.le_refl _) _
  have HT := hid (ht.below hb0)
  have HOWN := hid (World.ownsRow_lit (base := w.heap.size) (e := 3) (size := 1) w #[] 0 (Nat.le_refl _) (by simp [maxLen]) rfl)
  have HB0 := hid hb0
  clear TC ht hb0 hr
  go_enter Tryz.func135, Tryz.ntmps135
  go_wp2_with (at_builtin; refine wpList_append_row rfl _ _ 28 rfl w.heap.size 3 el_int Tryz.underlying28 rfl (by decide) _ _ _ rfl HOWN.out _ t.length (t.map (Value.int .i64)) rfl HT.out (ints_one t) (by omega) (by omega) (by simp) ?_; intro v' w4 hown4 hgrow4 _)
  have hown : w4.ownsRow w.heap.size 3 1 v' t.length (t.map (Value.int .i64)) := by simpa using hown4
  obtain ⟨g, cap, rfl, hg, hgc⟩ := owns_some hown h0
  have HB1 : Hid (Below w.heap.size w w4) := hid (HB0.out.grown hgrow4 (by simp) (fun q hq => by cases hq; exact Nat.le_refl _))
  clear HOWN
  have HOWN := hid hown
  clear hown hown4 hgrow4
  go_wp2
  go_loopw [4] (fun kv wr => ∃ k : Nat, k ≤ t.length ∧ kv = .int .i64 k ∧ wr.ownsRow w.heap.size 3 1 (.slice (some ⟨g, 0, none⟩) t.length cap) t.length ((aparK t k).map (Value.int .i64)) ∧ Below w.heap.size w wr) (fun kv _ => t.length - (intOf kv).toNat)
  case atStart => exact ⟨0, by omega, rfl, by simpa [aparK, aparL] using HOWN.out, HB1.out⟩
  case round =>
    clear HOWN HB1
    obtain ⟨k, hk, rfl, hown, hb⟩ := hrel
    by_cases hlt : k < t.length
    · obtain ⟨_, rfl, hc0⟩ := TC'.out k hlt
      have hcell := (hb.cell (World.block_lt_of_cell? _ _ hc0)).trans hc0
      have hrk := HR.out t[k] (List.getElem_mem hlt)
      have hc1 := hown.cellAt k (by omega)
      rw [aparK_get t hlt] at hc1
      by_cases hn : t[k] < 0
      · have hge : decide (t[k] < 0) = true := by simp; omega
        have hst := aparK_step t hlt
        rw [if_pos hn] at hst
        have hf1 := hown.frozenAt k
        have HST := hid (hown.stored k (.int .i64 (t[k] - 12)))
        have HB2 : Hid (Below w.heap.size w (wr.setCell ⟨g, k, none⟩ (.int .i64 (t[k] - 12)))) := hid (hb.setCell (p := ⟨g, k, none⟩) (by show w.heap.size ≤ g; omega) _)
        have HS := hid hst
        clear hst hown hc0
        go_wp2
        go_roundw
        case rel => exact ⟨k + 1, by omega, by go_num, by rw [HS.out, List.map_set]; exact HST.out.1, HB2.out⟩
        case measure => simp [intOf]; omega
      · have hge : decide (t[k] < 0) = false := by simp; omega
        have HS := hid (aparK_same t hlt hn)
        clear hc0
        go_wp2
        go_roundw
        case rel => exact ⟨k + 1, by omega, by go_num, by rw [HS.out]; exact hown, hb⟩
        case measure => simp [intOf]; omega
    · have HE := hid (aparK_all t (k := k) (by omega))
      rw [HE.out] at hown
      have HL : Hid ((aparL t).length = t.length) := hid (by simp [aparL])
      have HOW := hid hown
      clear hown
      go_wp2
      go_ret
      exact ⟨_, rfl, by rw [HL.out]; exact HOW.out, hb⟩
theorem kno_zero (m : MM) : Kno m #[.int .i64 0, .int .i64 0, .int .i64 0, .int .i64 0, .int .i64 0, .int .i64 0, .int .i64 0, .int .i64 0, .int .i64 0, .int .i64 0, .int .i64 0, .int .i64 0, .int .i64 0, .int .i64 0, .int .i64 0, .int .i64 0, .int .i64 0, .int .i64 0, .int .i64 0, .int .i64 0, .int .i64 0, .int .i64 0, .int .i64 0, .int .i64 0] := by
  refine ⟨rfl, fun v hv => ⟨0, ?_, Or.inl rfl⟩⟩
  show ((List.replicate 24 (Value.int .i64 0)).toArray)[v]? = _
  rw [List.getElem?_toArray, List.getElem?_replicate, if_pos hv]; rfl
set_option maxHeartbeats 1000000 in
set_option maxRecDepth 100000 in
theorem ref2_Whole (px : Nat) (vs vt : Value) (s : Sg) (T : TT) (t : List Int) (w : World) (hm : MOK s (mR T)) (hS : RSol w px vs s T) (hT : IsT s 24 t) (hl : t.length ≤ 60) (ra : Ints w vt t) :
    Calls Tryz.prog 211 #[.pointer (some ⟨px, 0, none⟩), vt] w fun e w' => ∃ u, Below w.heap.size w w' ∧
      ((e = .returned (.tuple #[u, .bool true]) ∧ (fw (mR T) t).length ≤ 60 ∧ w'.ownsRow w.heap.size 3 1 u (fw (mR T) t).length ((fw (mR T) t).map (Value.int .i64))) ∨ (e = .returned (.tuple #[u, .bool false]) ∧ 60 < (fw (mR T) t).length)) := by
  obtain ⟨r, hr, hr24⟩ := hm.rank
  have HB : Hid (∀ ob, Below w.heap.size w (w.alloc ob)) := hid (fun ob => (Below.refl _ _).alloc (Nat.le_refl _) _)
  have HC := hid (fun (cs : Array Value) (ty : TypeId) (hk : Kno (mR T) cs) => ref2_size px w.heap.size vs s T w hS hm r hr (Nat.le_refl _) 26 t vt cs (w.alloc (.cells cs ty)) (fun x _ _ => by have := hr24 x; omega) (by omega) hT hl ra (HB.out _) ⟨ty, (MapKept.heap_alloc w (.cells cs ty)).1⟩ hk)
  have HKZ := hid (kno_zero (mR T))
  go_enter Tryz.func211, Tryz.ntmps211
  go_wp2_with fail
  refine (HC.out _ _ HKZ.out).mono ?_
  rintro e w1 ⟨rfl, hB1, -⟩
  by_cases h60 : (fw (mR T) t).length ≤ 60
  · have dd : decide (((szT (mR T) t : Nat) : Int) > 60) = false := by unfold szT; simp; omega
    have HW := hid (ref2_whole px vs s T hm r hr 26 t vt w1 (fun x _ _ => by have := hr24 x; omega) (by omega) hT hl h60 (hS.below hB1) (ra.below hB1))
    have hsz := hB1.size
    have HB1 := hid hB1
    clear hB1 HC HB HKZ hS hm hT ra hr hr24
    go_wp2_with fail
    refine HW.out.mono ?_
    rintro e w2 ⟨u, rfl, hown, hB2⟩
    have HO := hid (owns_base hown hsz)
    have HB2 := hid (HB1.out.trans (hB2.mono hsz))
    clear hown hB2
    go_wp2
    go_ret2
    exact ⟨u, HB2.out, Or.inl ⟨rfl, h60, HO.out⟩⟩
  · have dd : decide (((szT (mR T) t : Nat) : Int) > 60) = true := by unfold szT; simp; omega
    have HB1 := hid hB1
    clear hB1 HC HB HKZ hS hm hT ra hr hr24
    go_wp2
    go_ret2
    exact ⟨_, HB1.out, Or.inr ⟨rfl, by omega⟩⟩
set_option maxHeartbeats 1000000 in
set_option maxRecDepth 100000 in
theorem ref2_Few (px : Nat) (vs vt : Value) (s : Sg) (T : TT) (t : List Int) (w : World) (hm : MOK s (mR T)) (hS : RSol w px vs s T) (hT : IsT s 24 t) (hl : t.length ≤ 60) (ra : Ints w vt t) (hsl : s.length ≤ 1000) :
    Calls Tryz.prog 164 #[.pointer (some ⟨px, 0, none⟩), vt] w fun e w' => ∃ u, Below w.heap.size w w' ∧
      ((madeB (fw (mR T) t) = true ∧ e = .returned (.tuple #[u, .int .i64 0]) ∧ w'.ownsRow w.heap.size 3 1 u (canonL (fw (mR T) t)).length ((canonL (fw (mR T) t)).map (Value.int .i64))) ∨ (madeB (fw (mR T) t) = false ∧ e = .returned (.tuple #[.slice none 0 0, .int .i64 4]))) := by
  have HC := hid (ref2_Whole px vs vt s T t w hm hS hT hl ra)
  have hF := fw_T hm hT
  obtain ⟨F, hFe⟩ : ∃ F, fw (mR T) t = F := ⟨_, rfl⟩
  rw [hFe] at HC hF ⊢
  have hF0 := hF.ne
  have HR : Hid (∀ x ∈ F, -1000000 ≤ x ∧ x ≤ 1000000) := hid (fun x hx => by rcases hF.range x hx with h | h <;> omega)
  clear hm hS hT ra hFe hF
  go_enter Tryz.func164, Tryz.ntmps164
  go_wp2_with fail
  refine HC.out.mono ?_
  rintro e w1 ⟨u, hB1, ⟨rfl, h60, hown⟩ | ⟨rfl, h60⟩⟩
  · have ri := Ints.of_owns hown (by omega)
    have hsz := hB1.size
    have HV := hid (ref1_Variables u F w1 ri (by omega) HR.out)
    have HRI := hid ri
    have HB1 := hid hB1
    clear ri hown hB1 HC
    go_wp2_with fail
    refine HV.out.mono ?_
    rintro e w2 ⟨u2, rfl, hown2, hB2⟩
    obtain ⟨oa, oc, rfl⟩ : ∃ a c, u2 = .slice a (varsF [] F).length c := by
      rcases hown2.2 with ⟨h1, h2⟩ | ⟨g, cap, _, h1, _⟩
      · rw [h2]; exact ⟨none, 0, h1⟩
      · exact ⟨_, _, h1⟩
    have ri2 := HRI.out.below hB2
    have hsz2 := hB2.size
    have HB2 := hid (HB1.out.trans (hB2.mono hsz))
    clear hown2 hB2
    by_cases h12 : (varsF [] F).length ≤ 12
    · have dd : decide (((varsF [] F).length : Int) > 12) = false := by simp; omega
      have HMD : Hid (madeB F = true) := hid (by simp [madeB]; omega)
      have HRN := hid (ref1_Renamed u F w2 ri2 hF0 (by omega) HR.out)
      clear ri2
      go_wp2_with fail
      refine HRN.out.mono ?_
      rintro e w3 ⟨u3, rfl, hown3, hB3⟩
      have HO := hid (owns_base hown3 HB2.out.size)
      have HB3 := hid (HB2.out.trans (hB3.mono HB2.out.size))
      clear hown3 hB3
      go_wp2
      go_ret2
      exact ⟨u3, HB3.out, Or.inl ⟨HMD.out, rfl, HO.out⟩⟩
    · have dd : decide (((varsF [] F).length : Int) > 12) = true := by simp; omega
      have HMD : Hid (madeB F = false) := hid (by simp [madeB]; omega)
      clear ri2
      go_wp2
      go_ret2
      exact ⟨.slice none 0 0, HB2.out, Or.inr ⟨HMD.out, rfl⟩⟩
  · have HMD : Hid (madeB F = false) := hid (by simp [madeB]; omega)
    have HB1 := hid hB1
    clear hB1 HC
    go_wp2
    go_ret2
    exact ⟨.slice none 0 0, HB1.out, Or.inr ⟨HMD.out, rfl⟩⟩
end Go.Proofs.YtpflkjldapmgdaaGreat
namespace Go.Proofs.YtpflkjldapmgdaaGreat
open Go Go.RowKit Go.Maps
set_option maxHeartbeats 1000000 in
theorem unify_Meets (vs va vb : Value) (s : Sg) (a b : List Int) (w : World) (hs : SignAt w vs s) (ra : Ints w va a) (rb : Ints w vb b) (hs1 : s.length ≤ 1000) :
    Calls Tryz.prog 69 #[vs, va, vb] w fun e w' => ∃ z, MeetsA s a b z ∧ e = .returned (.bool z) ∧ Below w.heap.size w w' := by
  cases h1 : termB s a
  · have HR : Hid (MeetsA s a b false) := hid (by unfold MeetsA MeetsQ; rw [h1]; simp)
    go_enter Tryz.func69, Tryz.ntmps69
    go_wp2_with (first | (go_at_call 82; refine (term_Valid' _ _ _ _ _ hs ra hs1).mono ?_; rintro e w1 ⟨rfl, hb1⟩))
    go_ret
    exact ⟨_, HR.out, rfl, hb1⟩
  · cases h2 : termB s b
    · have HR : Hid (MeetsA s a b false) := hid (by unfold MeetsA MeetsQ; rw [h2]; simp)
      have H1 := hid h1
      have H2 := hid h2
      clear h1 h2
      go_enter Tryz.func69, Tryz.ntmps69
      go_wp2_with fail
      refine (term_Valid' _ _ _ _ _ hs ra hs1).mono ?_
      rintro e w1 ⟨rfl, hb1⟩
      rw [H1.out]
      go_wp2_with fail
      refine (term_Valid' _ _ _ _ _ (hs.below hb1) (rb.below hb1) hs1).mono ?_
      rintro e w2 ⟨rfl, hb2⟩
      rw [H2.out]
      have HB := hid (hb1.trans (hb2.mono hb1.size))
      clear hb1 hb2
      go_wp2
      go_ret
      exact ⟨_, HR.out, rfl, HB.out⟩
    · have HR : Hid (¬ NoU s a (aparL b) ↔ MeetsQ s a b) := hid (by unfold MeetsQ; rw [h1, h2]; simp)
      obtain ⟨f1, f2, f3, f4⟩ := termB_facts h1
      obtain ⟨_, _, _, f5⟩ := termB_facts h2
      have ta := termB_T h1
      have tb := termB_T h2
      have hb0 := tb.ne
      have H1 := hid h1
      have H2 := hid h2
      have TA := hid (ta.mono (m' := 24) (by omega))
      have TB := hid (aparL_T tb)
      have TS := hid (T_small12 tb f3)
      have LB := hid (aparL_len b)
      clear h1 h2 ta tb
      go_enter Tryz.func69, Tryz.ntmps69
      go_wp2_with fail
      refine (term_Valid' _ _ _ _ _ hs ra hs1).mono ?_
      rintro e w1 ⟨rfl, hb1⟩
      rw [H1.out]
      go_wp2_with fail
      refine (term_Valid' _ _ _ _ _ (hs.below hb1) (rb.below hb1) hs1).mono ?_
      rintro e w2 ⟨rfl, hb2'⟩
      rw [H2.out]
      have hb2 := hb1.trans (hb2'.mono hb1.size)
      go_wp2_with fail
      refine (unify_apart _ b _ (rb.below hb2) hb0 (by omega) TS.out).mono ?_
      rintro e w3 ⟨ub, rfl, hown, hb3'⟩
      have hb3 := hb2.trans (hb3'.mono hb2.size)
      have rb3 := Ints.of_owns hown (by rw [LB.out]; omega)
      clear hb2' hb3' hb2 hown
      go_wp2_with fail
      refine (unify_solved _ _ _ s a (aparL b) _ f1 TA.out TB.out f4 (by rw [LB.out]; exact f5) (hs.below hb3) (ra.below hb3) rb3).mono ?_
      rintro e w4 ⟨hb4', px, ⟨rfl, hno⟩ | ⟨rfl, bm, M, hS, hmgu⟩⟩
      · have HB := hid (hb3.trans (hb4'.mono hb3.size))
        have HX : Hid (MeetsA s a b false) := hid (by unfold MeetsA; rw [← HR.out]; simpa using hno)
        clear hb4' hb3 hno rb3 hb1
        go_wp2
        go_ret
        exact ⟨_, HX.out, rfl, HB.out⟩
      · have HB := hid (hb3.trans (hb4'.mono hb3.size))
        have HX : Hid (MeetsA s a b true) := hid (by unfold MeetsA; rw [← HR.out]; simpa using fun h => hmgu.not_no h)
        clear hb4' hb3 hmgu hS rb3 hb1
        go_wp2
        go_ret
        exact ⟨true, HX.out, rfl, HB.out⟩
theorem mgu_awake : Mgu sCN [-1] [1, -13] (updM noM (-1) [1, -13]) := by
  have h1 : IsT sCN 24 [-1] := .var _ (by omega) (by omega)
  have h2 : IsT sCN 24 [1, -13] := .app 1 [[-13]] (by simp [sCN]) (by simp [sCN, arOf]) (by simp; exact .var _ (by omega) (by omega))
  have h0 := UInv.start h1 h2 (by simp) (by simp)
  have h3 := (UInv.bind (L := []) (x := [-1]) (y := [1, -13]) (v := -1) (q := [1, -13]) h0 (Or.inl ⟨.refl h1 (by simp), .refl h2 (by simp)⟩) (by omega) rfl (fun H => by
    cases H with
    | here _ _ h _ => simp at h
    | step _ _ n p g1 g2 g3 _ => simp [noM] at g3)).1
  exact h3.done
theorem meet_awake {x : List Int × Int} (h : MeetR sCN [-1] [1, -1] x) : x = ([1, -1], 0) := by
  have hv : (termB sCN [-1] && termB sCN [1, -1]) = true := by decide +kernel
  unfold MeetR at h
  rw [hv] at h
  simp only [if_true] at h
  have ha : aparL [1, -1] = [1, -13] := by decide +kernel
  rw [ha] at h
  have h1 : IsT sCN 24 [-1] := .var _ (by omega) (by omega)
  refine h.unique h1 (Or.inr ⟨_, mgu_awake, Or.inl ⟨?_, ?_⟩⟩)
  · decide +kernel
  · have : canonL (fw (updM noM (-1) [1, -13]) [-1]) = [1, -1] := by decide +kernel
    rw [this]
theorem join_awake {x : List Int × Int} (h : JoinR sCN [0, -1, -1] [0, 1, -1, 1, -2] x) : x = ([0, -1, -2], 0) := by
  unfold JoinR at h
  rw [h]
  decide +kernel
theorem ints_lit (w : World) (l : List Int) (T : TypeId) {arr : Array Value} {n : Nat} (h : arr = (l.map (Value.int .i64)).toArray := by rfl) (hn : n = l.length := by rfl) (hl : l.length ≤ 1000 := by decide) : Ints (w.alloc (.cells arr T)) (.slice (some ⟨w.heap.size, 0, none⟩) n n) l := by
  subst h hn
  have r := World.ownsRow_lit (base := 0) (e := T) (size := 1) w (l.map (Value.int .i64)).toArray l.length (by omega) (by simp [maxLen]; omega) (by simp)
  simp only [List.toList_toArray] at r
  exact Ints.of_owns r (by omega)
theorem sign_lit (w : World) (T : TypeId) : SignAt (w.alloc (.cells #[.string ⟨#[67]⟩, .int .i64 2, .string ⟨#[78]⟩, .int .i64 1] T)) (.slice (some ⟨w.heap.size, 0, none⟩) 2 2) sCN := by
  have r1 := World.ownsRow_lit (base := 0) (e := T) (size := 2) w #[.string ⟨#[67]⟩, .int .i64 2, .string ⟨#[78]⟩, .int .i64 1] 2 (by omega) (by simp [maxLen]) rfl
  refine ⟨RowK.of_owns r1 (by simp [sCN]), ?_⟩
  intro x hx
  simp [sCN] at hx
  rcases hx with rfl | rfl <;> simp [ByteArray.size]
end Go.Proofs.YtpflkjldapmgdaaGreat
