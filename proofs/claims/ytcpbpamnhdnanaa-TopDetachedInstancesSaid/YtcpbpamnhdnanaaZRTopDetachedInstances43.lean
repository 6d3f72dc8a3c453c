/-
  WHAT IT HOLDS: contracts of binds, Match, Apply, Occurs of package unify, and of Match of the reference. Conditions: the arguments read as data; small signs.
  WHAT IT HOLDS: contracts of Apply, Occurs, Match, Unifies, Solved of package unify. Conditions: the arguments read as data; small signs.
-/
import Derived.Test.YtcpbpamnhdnanaaZRTopDetachedInstances36
import Derived.Test.YtcpbpamnhdnanaaZRTopDetachedInstances23
import Derived.Test.YtcpbpamnhdnanaaZRTopDetachedInstances39
import Derived.Test.YtcpbpamnhdnanaaZRTopDetachedInstances20
import Derived.Test.YtcpbpamnhdnanaaZRTopDetachedInstances42
import Derived.Test.YtcpbpamnhdnanaaZRTopDetachedInstances19
namespace Go.Proofs.Ytcpbpamnhdnanaa
open Go Go.RowKit Go.Maps
def bRow (e : TypeId) (u : Value) (bs : List BV) : Rw := ⟨e, 2, u, bs.length, biC bs⟩
def bTos (T : TypeId) (bs : List BV) : List Rw := bs.map fun b => rwT T b.2.1 b.2.2
/-- binds of the call's own memory, rows apart. -/
def BSep (E T : TypeId) (w : World) (base : Nat) (u : Value) (bs : List BV) : Prop := Sep w base (bRow E u bs :: bTos T bs)
theorem BSep.nil (E T : TypeId) (w : World) (base : Nat) : BSep E T w base (.slice none 0 0) [] := (Sep.nil w base).consNil E 2
theorem BSep.below {E T : TypeId} {w w' : World} {base : Nat} {u : Value} {bs : List BV} (h : BSep E T w base u bs) (hb : Below w.heap.size w w') : BSep E T w' base u bs := Sep.below h hb
theorem BSep.row {E T : TypeId} {w : World} {base : Nat} {u : Value} {bs : List BV} (h : BSep E T w base u bs) : w.ownsRow base E 2 u bs.length (biC bs) := h.1 (bRow E u bs) (by simp)
theorem BSep.push {E T : TypeId} {w0 w w1 : World} {base base' : Nat} {u : Value} {bs : List BV} (h : BSep E T w0 base u bs) (hb : Below w0.heap.size w0 w) (hB : w0.heap.size ≤ base') (hbb : base ≤ base') {x : Int} {v : Value} {p : List Int}
    (hv : w.ownsRow base' T 1 v p.length (p.map (Value.int .i64))) {g cap n : Nat} (hn : bs.length = n) (hown : w1.ownsRow base E 2 (.slice (some ⟨g, 0, none⟩) (n + 1) cap) (n + 1) (biC bs ++ [.int .i64 x, v])) (hg : w.grownBy w1 u.ownBlock) {H : Nat} (hH : w.heap.size = H) (hat : u.ownBlock = some g ∨ g = H) :
    BSep E T w1 base (.slice (some ⟨g, 0, none⟩) (n + 1) cap) (bs ++ [(x, v, p)]) := by
  subst hn
  have h1 : Sep w base (rwT T v p :: bRow E u bs :: bTos T bs) := Sep.cons h hb hB hbb hv
  have h2 : Sep w base (bRow E u bs :: rwT T v p :: bTos T bs) := h1.perm (List.Perm.swap _ _ _)
  have h3 := h2.app hg hown hH hat
  have e : (⟨E, 2, .slice (some ⟨g, 0, none⟩) (bs.length + 1) cap, bs.length + 1, biC bs ++ [.int .i64 x, v]⟩ : Rw) = bRow E (.slice (some ⟨g, 0, none⟩) (bs.length + 1) cap) (bs ++ [(x, v, p)]) := by
    unfold bRow; rw [biC_snoc, List.length_append]; rfl
  rw [e] at h3
  refine h3.perm (List.Perm.cons _ ?_)
  unfold bTos
  rw [List.map_append]
  exact (List.perm_append_comm (l₁ := [rwT T v p]) (l₂ := bs.map fun b => rwT T b.2.1 b.2.2))
theorem BSep.at {E T : TypeId} {w : World} {base : Nat} {u : Value} {bs : List BV} (h : BSep E T w base u bs) {l : BL} (hl : biP bs = l) (hn : bs.length ≤ 140737488355328) (hp : ∀ b ∈ l, b.2.length ≤ 140737488355328) : BindsAt w u l := by
  subst hl
  refine BindsAt.of_owns h.row hn fun x hx => ?_
  exact Sep.ints h (List.mem_cons_of_mem _ (List.mem_map.2 ⟨x, hx, rfl⟩)) (hp (x.1, x.2.2) (List.mem_map.2 ⟨x, hx, rfl⟩))
end Go.Proofs.Ytcpbpamnhdnanaa
namespace Go.Proofs.Ytcpbpamnhdnanaa
open Go Go.RowKit Go.Maps
theorem ints_nil (w : World) : Ints w (.slice none 0 0) [] := ⟨by simp, none, 0, rfl, Nat.le_refl _, by simp, fun _ => rfl, by simp⟩
theorem binds_nil (w : World) : BindsAt w (.slice none 0 0) [] := ⟨[], ⟨⟨by simp [biC], none, 0, rfl, Nat.le_refl _, by simp, fun _ => rfl, by simp [biC]⟩, by simp⟩, rfl⟩
theorem bnds_range {s : Sg} {l : BL} (h : bndsB s l = true) : ∀ b ∈ l, -1000 ≤ b.1 ∧ b.1 ≤ 1000 := fun b hb => by
  have := ((bndsB_iff.1 h).2.1 b hb).1
  omega
theorem tab_short {s : Sg} {l : BL} (h : bndsB s l = true) : ∀ x p, tabP l x = some p → p.length ≤ 60 := fun x p hp => (termB_facts (tabP_range h hp).2.1).2.2.2
theorem T_mil {s : Sg} {t : List Int} (h : termB s t = true) : ∀ x ∈ t, -1000000 ≤ x ∧ x ≤ 1000000 := fun x hx => by
  have h1 := T_small (termB_T h) (by have := (termB_facts h).2.2.1; omega) x hx
  omega
theorem bndsB_tabP {s : Sg} {l : BL} (h : bndsB s l = true) : tabP l = tabP l := rfl
set_option maxHeartbeats 1000000 in
set_option maxRecDepth 100000 in
theorem unify_Apply (vs v vt : Value) (s : Sg) (l : BL) (t : List Int) (w : World) (hs : SignAt w vs s) (hv : BindsAt w v l) (ht : Ints w vt t) (hs1 : s.length ≤ 1000) :
    Calls Try.prog 7 #[vs, v, vt] w fun e w' => ∃ u, e = .returned (.tuple #[u, .int .i64 (appR s l t).2]) ∧ Ints w' u (appR s l t).1 ∧ Below w.heap.size w w' := by
  have HVT := hid (term_Valid' vs vt s t w hs ht hs1)
  have HS := hid hs
  have HV := hid hv
  have HT := hid ht
  clear hs hv ht
  cases h1 : termB s t
  · have HA : Hid (appR s l t = ([], 1)) := hid (by unfold appR; rw [h1]; rfl)
    simp only [h1] at HVT
    clear h1
    rw [HA.out]
    go_enter Try.func7, Try.ntmps7
    go_wp2_with fail
    refine HVT.out.mono ?_
    rintro e w1 ⟨rfl, hb1⟩
    go_wp2
    go_ret2
    exact ⟨_, rfl, ints_nil _, hb1⟩
  · cases h2 : bndsB s l
    · have HA : Hid (appR s l t = ([], 1)) := hid (by unfold appR; rw [h1, h2]; rfl)
      have HVB := hid (fun (X : World) (hX : Below w.heap.size w X) => unify_ValidBinds vs v s l X (HS.out.below hX) (HV.out.below hX) hs1)
      simp only [h1] at HVT
      simp only [h2] at HVB
      clear h1 h2
      rw [HA.out]
      go_enter Try.func7, Try.ntmps7
      go_wp2_with fail
      refine HVT.out.mono ?_
      rintro e w1 ⟨rfl, hb1⟩
      go_wp2_with fail
      refine (HVB.out _ hb1).mono ?_
      rintro e w2 ⟨rfl, hb2⟩
      go_wp2
      go_ret2
      exact ⟨_, rfl, ints_nil _, hb1.trans (hb2.mono hb1.size)⟩
    · have HA : Hid (appR s l t = if (subL (ofN l) t).length ≤ 60 then (subL (ofN l) t, 0) else ([], 4)) := hid (by unfold appR; rw [h1, h2]; rfl)
      have HVB := hid (fun (X : World) (hX : Below w.heap.size w X) => unify_ValidBinds vs v s l X (HS.out.below hX) (HV.out.below hX) hs1)
      have HTB := hid (fun (X : World) (hX : Below w.heap.size w X) => unify_table v l X (HV.out.below hX) (bnds_range h2))
      have hPS := putL_sub h2 t
      have hPL := sub_le h2 (termB_T h1)
      have htl := (termB_facts h1).2.2.2
      have HPT := hid (fun (X : World) (bm n : Nat) (M : Int → Option VT) (hX : Below w.heap.size w X) (hM : TMap X bm n M) (hMM : mOf M = tabP l) (hi : ∀ x u p, M x = some (u, p) → Ints X u p) =>
        unify_put bm n M vt t X hM hi (by rw [hMM]; exact tab_short h2) (HT.out.below hX) (by omega) (T_mil h1))
      simp only [h1] at HVT
      simp only [h2] at HVB
      clear h1 h2
      go_enter Try.func7, Try.ntmps7
      go_wp2_with fail
      refine HVT.out.mono ?_
      rintro e w1 ⟨rfl, hb1⟩
      have HB1 := hid hb1
      clear hb1
      go_wp2_with fail
      refine (HVB.out _ HB1.out).mono ?_
      rintro e w2 ⟨rfl, hb2⟩
      have HB2 := hid (HB1.out.trans (hb2.mono HB1.out.size))
      clear hb2
      go_wp2_with fail
      refine (HTB.out _ HB2.out).mono ?_
      rintro e w3 ⟨hb3, M, n, rfl, hM, hMM, hi⟩
      have HB3 := hid (HB2.out.trans (hb3.mono HB2.out.size))
      have hpt := HPT.out _ _ _ _ HB3.out hM hMM hi
      rw [hMM, hPS] at hpt
      have HPT3 := hid hpt
      clear hb3 hM hMM hi hpt hPS
      obtain ⟨r, hr⟩ : ∃ r, subL (ofN l) t = r := ⟨_, rfl⟩
      rw [hr] at HPT3 hPL HA
      clear hr
      go_wp2_with fail
      refine HPT3.out.mono ?_
      rintro e w4 ⟨u, rfl, hown, hb4⟩
      have HI4 := hid (Ints.of_owns hown (by omega) : Ints w4 u r)
      have HB4 := hid (HB3.out.trans (hb4.mono HB3.out.size))
      clear hown hb4
      have hft := unify_fits u r w4 HI4.out (by omega)
      by_cases h60 : r.length ≤ 60
      · rw [if_pos h60] at hft
        have HA2 : Hid (appR s l t = (r, 0)) := hid (by rw [HA.out, if_pos h60])
        have HFT := hid hft
        clear hft
        go_wp2_with fail
        refine HFT.out.mono ?_
        rintro e w5 ⟨rfl, rfl⟩
        go_wp2
        go_ret2
        rw [HA2.out]
        exact ⟨_, rfl, HI4.out, HB4.out⟩
      · rw [if_neg h60] at hft
        have HA2 : Hid (appR s l t = ([], 4)) := hid (by rw [HA.out, if_neg h60])
        have HFT := hid hft
        clear hft
        go_wp2_with fail
        refine HFT.out.mono ?_
        rintro e w5 ⟨rfl, rfl⟩
        go_wp2
        go_ret2
        rw [HA2.out]
        exact ⟨_, rfl, ints_nil _, HB4.out⟩
def mtR (s : Sg) (a b : List Int) : BL × Int := if termB s a && termB s b then (match matL s a b noM with | none => ([], 8) | some m => (bndL m 12, 0)) else ([], 1)
theorem subL_piece_len {σ : Int → List Int} : ∀ {a : List Int} {n : Int}, n ∈ a → n < 0 → (σ n).length ≤ (subL σ a).length
  | x :: a, n, h, h0 => by
    by_cases hx : x < 0
    · rw [subL_cons_var σ hx, List.length_append]
      rcases List.mem_cons.1 h with rfl | h
      · omega
      · have := subL_piece_len (σ := σ) h h0; omega
    · rw [subL_cons_app σ (by omega), List.length_cons]
      rcases List.mem_cons.1 h with rfl | h
      · omega
      · have := subL_piece_len (σ := σ) h h0; omega
theorem matL_terms {s : Sg} {a b : List Int} (ha : termB s a = true) (hb : termB s b = true) {m : MM} (h : matL s a b noM = some m) :
    (∀ x p, m x = some p → x ∈ a ∧ x < 0 ∧ termB s p = true) ∧ (∀ n ∈ a, n < 0 → ∃ p, m n = some p) ∧ subL (fun n => (m n).getD []) a = b := by
  obtain ⟨_, h2, h3, h4⟩ := matL_sound a 1 b noM m (termB_T ha).fo (termB_T hb).fo h
  refine ⟨fun x p hx => ?_, h2, h3⟩
  rcases h4 x p hx with h5 | ⟨h5, h6, h7⟩
  · cases h5
  · refine ⟨h5, h6, T_termB (termB_facts ha).1 h7 ?_⟩
    have := subL_piece_len (σ := fun n => (m n).getD []) h5 h6
    rw [h3, hx] at this
    have := (termB_facts hb).2.2.2
    simp at *; omega
theorem matL_sizes {s : Sg} {a b : List Int} (ha : termB s a = true) (hb : termB s b = true) {m : MM} (h : matL s a b noM = some m) : ∀ x p, m x = some p → 0 < p.length ∧ p.length ≤ 1000 := fun x p hp => by
  have h1 := ((matL_terms ha hb h).1 x p hp).2.2
  have h2 := (termB_facts h1).2.2.2
  have h3 := (termB_T h1).ne
  omega
def unifB (s : Sg) (l : BL) (a b : List Int) : Bool := bndsB s l && termB s a && termB s b && decide (subL (ofN l) a = subL (ofN l) b)
end Go.Proofs.Ytcpbpamnhdnanaa
