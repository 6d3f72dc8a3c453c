/-
  WHAT IT HOLDS: contracts of binds, Match, Apply, Occurs of package unify, and of Match of the reference. Conditions: the arguments read as data; small signs.
  WHAT IT HOLDS: contracts of Apply, Occurs, Match, Unifies, Solved of package unify. Conditions: the arguments read as data; small signs.
-/
import Derived.Test.YtidigpfiagjeiaaZRUnifyUnifies35
import Derived.Test.YtidigpfiagjeiaaZRUnifyUnifies18
import Derived.Test.YtidigpfiagjeiaaZRUnifyUnifies30
import Derived.Test.YtidigpfiagjeiaaZRUnifyUnifies15
import Derived.Test.YtidigpfiagjeiaaZRUnifyUnifies36
import Derived.Test.YtidigpfiagjeiaaZRUnifyUnifies14
namespace Go.Proofs.Ytidigpfiagjeiaa
open Go Go.RowKit Go.Maps
def bRow (e : TypeId) (u : Value) (bs : List BV) : Rw := ⟨e, 2, u, bs.length, biC bs⟩
def bTos (T : TypeId) (bs : List BV) : List Rw := bs.map fun b => rwT T b.2.1 b.2.2
/-- binds of the call's own memory, rows apart. -/
def BSep (E T : TypeId) (w : World) (base : Nat) (u : Value) (bs : List BV) : Prop := Sep w base (bRow E u bs :: bTos T bs)
theorem BSep.nil (E T : TypeId) (w : World) (base : Nat) : BSep E T w base (.slice none 0 0) [] := (Sep.nil w base).consNil E 2
theorem BSep.below {E T : TypeId} {w w' : World} {base : Nat} {u : Value} {bs : List BV} (h : BSep E T w base u bs) (hb : Below w.heap.size w w') : BSep E T w' base u bs := Sep.below h hb
theorem BSep.row {E T : TypeId} {w : World} {base : Nat} {u : Value} {bs : List BV} (h : BSep E T w base u bs) : w.ownsRow base E 2 u bs.length (biC bs) := h.1 (bRow E u bs) (by simp)
theorem BSep.push {E T : TypeId} {w0 w w1 : World} {base base' : Nat} {u : Value} {bs : List BV} (h : BSep E T w0 base u bs) (hb : Below w0.heap.size w0 w) (hB : w0.heap.size ≤ base') (hbb : base ≤ base') {x : Int} {v : Value} {p : List Int}
    (hv : w.ownsRow base' T 1 v p.length (p.map (Value.int .i64))) {g cap n : Nat} (hn : bs.length = n) (hown : w1.ownsRow base E 2 (.slice (some ⟨g, 0, none⟩) (n + 1) cap) (n + 1) (biC bs ++ [.int .i64 x, v])) (hg : w.grownBy w1 u.ownBlock) {H : Nat} (hH : w.heap.size = H) (hat : u.ownBlock = some g ∨ g = H) :
    BSep E T w1 base (.slice (some ⟨g, 0, none⟩) (n + 1) cap) (bs ++ [(x, v, p)]) := by
  subst hn
  have h1 : Sep w base (rwT T v p :: bRow E u bs :: bTos T bs) := Sep.cons h hb hB hbb hv
  have h2 : Sep w base (bRow E u bs :: rwT T v p :: bTos T bs) := h1.perm (List.Perm.swap _ _ _)
  have h3 := h2.app hg hown hH hat
  have e : (⟨E, 2, .slice (some ⟨g, 0, none⟩) (bs.length + 1) cap, bs.length + 1, biC bs ++ [.int .i64 x, v]⟩ : Rw) = bRow E (.slice (some ⟨g, 0, none⟩) (bs.length + 1) cap) (bs ++ [(x, v, p)]) := by
    unfold bRow; rw [biC_snoc, List.length_append]; rfl
  rw [e] at h3
  refine h3.perm (List.Perm.cons _ ?_)
  unfold bTos
  rw [List.map_append]
  exact (List.perm_append_comm (l₁ := [rwT T v p]) (l₂ := bs.map fun b => rwT T b.2.1 b.2.2))
theorem BSep.at {E T : TypeId} {w : World} {base : Nat} {u : Value} {bs : List BV} (h : BSep E T w base u bs) {l : BL} (hl : biP bs = l) (hn : bs.length ≤ 140737488355328) (hp : ∀ b ∈ l, b.2.length ≤ 140737488355328) : BindsAt w u l := by
  subst hl
  refine BindsAt.of_owns h.row hn fun x hx => ?_
  exact Sep.ints h (List.mem_cons_of_mem _ (List.mem_map.2 ⟨x, hx, rfl⟩)) (hp (x.1, x.2.2) (List.mem_map.2 ⟨x, hx, rfl⟩))
set_option maxHeartbeats 4000000 in
set_option maxRecDepth 100000 in
theorem unify_binds (bm n : Nat) (M : Int → Option VT) (w : World) (hM : TMap w bm n M) (hi : ∀ x u p, M x = some (u, p) → Ints w u p) (hm : ∀ x p, mOf M x = some p → 0 < p.length ∧ p.length ≤ 1000) :
    Calls Try.prog 91 #[.map (some bm)] w fun e w' => ∃ u, e = .returned u ∧ BindsAt w' u (bndL (mOf M) 12) ∧ Below w.heap.size w w' := by
  have HM := hid hM
  have HI := hid hi
  have HPL := hid hm
  clear hM hi hm
  go_enter Try.func91, Try.ntmps91
  go_wp2
  go_loopw [3, 7] (fun u kv wr => ∃ (k : Nat) (bs : List BV), k ≤ 12 ∧ kv = .int .i64 k ∧ BSep 61 3 wr w.heap.size u bs ∧ biP bs = bndL (mOf M) k ∧ Below w.heap.size w wr) (fun _ kv _ => 12 - (intOf kv).toNat)
  case atStart => exact ⟨0, [], by omega, rfl, BSep.nil _ _ _ _, rfl, Below.refl _ _⟩
  case round =>
    obtain ⟨k, bs, hk, rfl, hown, hbp, hb⟩ := hrel
    have hsz := hb.size
    by_cases hlt : k < 12
    · have HKEY := hid (int_key (-(k : Int) - 1) (wf_small (by omega) (by omega)))
      have HMB := hid (HM.out.belowS hb)
      have hl12 := bndL_len (mOf M) k
      rw [← hbp, biP_len] at hl12
      have hsucc := bndL_succ (mOf M) k
      have HOWN := hid hown
      have HBP := hid hbp
      clear hown hbp
      cases hMk : M (-(k : Int) - 1) with
      | none =>
        have HSU : Hid (bndL (mOf M) (k + 1) = bndL (mOf M) k) := hid (by rw [hsucc]; unfold mOf; rw [hMk]; simp)
        have HMX := hid hMk
        clear hsucc hMk
        go_wp2_with (first
          | (go_at_call 83; refine (unify_code _ _ (by omega) (by omega)).mono ?_; rintro e w4 ⟨rfl, rfl⟩)
          | (at_lookup; refine wpList_lookup_mapK rfl _ _ 65 true rfl (int_keyed Try.underlying3) eI_inj Try.underlying65 (zero_term _) rfl HMB.out (-(k : Int) - 1) rfl HKEY.out (.tuple #[.slice none 0 0, .bool false]) (by rw [HMX.out]; rfl) ?_))
        go_roundw
        case rel => exact ⟨k + 1, bs, by omega, by go_num, HOWN.out, by rw [HSU.out, HBP.out], hb⟩
        case measure => simp [intOf]; omega
      | some up =>
        obtain ⟨u, p⟩ := up
        have hp60 := HPL.out _ p (by unfold mOf; rw [hMk]; rfl)
        have hip := (HI.out _ _ _ hMk).below hb
        obtain ⟨ua, uc, rfl, -⟩ := hip.open
        have HIP := hid hip
        have HMX := hid hMk
        have hmk : mOf M (-(k : Int) - 1) = some p := by unfold mOf; rw [hMk]; rfl
        rw [hmk] at hsucc
        have HSU0 := hid hsucc
        clear hip hMk hsucc hmk
        have hbA : Below wr.heap.size wr (wr.alloc (.cells #[.int .i64 (-(k : Int) - 1)] 3)) := (Below.refl _ _).alloc (Nat.le_refl _) _
        have HBA := hid hbA
        have HLIT := hid (ints_lit1 wr (-(k : Int) - 1) 3)
        clear hbA
        go_wp2_with (first
          | (go_at_call 83; refine (unify_code _ _ (by omega) (by omega)).mono ?_; rintro e w4 ⟨rfl, rfl⟩)
          | (at_lookup; refine wpList_lookup_mapK rfl _ _ 65 true rfl (int_keyed Try.underlying3) eI_inj Try.underlying65 (zero_term _) rfl HMB.out (-(k : Int) - 1) rfl HKEY.out (.tuple #[.slice ua p.length uc, .bool true]) (by rw [HMX.out]; rfl) ?_))
        refine (sl_EqualT _ _ p [-(k : Int) - 1] _ (HIP.out.below HBA.out) HLIT.out).mono ?_
        rintro e w5 ⟨rfl, nq, rfl⟩
        have HB5 := hid (below_drewN HBA.out nq)
        obtain ⟨w5, hw5⟩ : ∃ w5, (wr.alloc (.cells #[.int .i64 (-(k : Int) - 1)] 3)).drewN nq = w5 := ⟨_, rfl⟩
        rw [hw5] at HB5 ⊢
        clear HBA HLIT hw5
        have hb05 := hb.trans (HB5.out.mono hsz)
        have hsz5 := hb05.size
        by_cases heq : p = [-(k : Int) - 1]
        · have HD : Hid (decide (p = [-(k : Int) - 1]) = true) := hid (by simp [heq])
          have HSU : Hid (bndL (mOf M) (k + 1) = bndL (mOf M) k) := hid (by rw [HSU0.out]; simp [heq])
          clear heq HSU0
          rw [HD.out]
          go_wp2
          go_roundw
          case rel => exact ⟨k + 1, bs, by omega, by go_num, HOWN.out.below HB5.out, by rw [HSU.out, HBP.out], hb05⟩
          case measure => simp [intOf]; omega
        · have HD : Hid (decide (p = [-(k : Int) - 1]) = false) := hid (by simp [heq])
          have HSU : Hid (bndL (mOf M) (k + 1) = bndL (mOf M) k ++ [((k : Int), p)]) := hid (by rw [HSU0.out]; simp [heq])
          clear heq HSU0
          rw [HD.out]
          go_wp2_with fail
          refine (sl_CloneT _ p _ (HIP.out.below HB5.out) hp60.1 hp60.2).mono ?_
          rintro e w6 ⟨uc6, rfl, o6, hb6⟩
          have HI6 := hid (Ints.of_owns o6 (by omega) : Ints w6 uc6 p)
          obtain ⟨ua6, ucc6, rfl, -⟩ := HI6.out.open
          have hb06 := hb05.trans (hb6.mono hsz5)
          have hsz6 := hb06.size
          have hbA6 : Below w6.heap.size w6 (w6.alloc (.cells #[.int .i64 k, .slice ua6 p.length ucc6] 61)) := (Below.refl _ _).alloc (Nat.le_refl _) _
          have HBZ := hid (hb6.trans (hbA6.mono hb6.size))
          have HO6 := hid (owns_below o6 hbA6)
          have HZ := hid (HOWN.out.below HB5.out)
          have hbZ := HB5.out.trans (HBZ.out.mono HB5.out.size)
          have HRW := hid (HZ.out.row)
          have HRA := hid (owns_below (owns_below HRW.out hb6) hbA6)
          have hsrc : RowK (w6.alloc (.cells #[.int .i64 k, .slice ua6 p.length ucc6] 61)) (.slice (some ⟨w6.heap.size, 0, none⟩) 1 1) 2 1 [.int .i64 k, .slice ua6 p.length ucc6] := row_two_new _ _ _ _
          have HSRC := hid hsrc
          have HBA6 := hid hbA6
          have hszA : w.heap.size ≤ (w6.alloc (.cells #[.int .i64 k, .slice ua6 p.length ucc6] 61)).heap.size := Nat.le_trans hsz6 hbA6.size
          clear o6 hb6 HB5 hsrc hbA6 hbZ HI6
          go_wp2_with (at_builtin; refine wpList_append_lie rfl _ _ 39 rfl w.heap.size 61 el_bind Try.underlying39 rfl (by decide) _ _ _ rfl HRA.out _ 1 [.int .i64 k, .slice ua6 p.length ucc6] rfl HSRC.out (by simp; exact ⟨rfl, rfl⟩) (by decide) (by omega) (by omega) hszA _ rfl ?_; intro g1 c1 w7 hown7 hgrow7 hat7 hlt7)
          have HPUSH := hid (HZ.out.push HBZ.out (Nat.le_refl _) hsz5 HO6.out rfl hown7 hgrow7 rfl hat7)
          have hb7 : Below w.heap.size w w7 := (hb06.trans (HBA6.out.mono hsz6)).grown hgrow7 hszA (fun q hq => (HRW.out.lt q hq).1)
          have HB7 := hid hb7
          clear hb7 hown7 hgrow7 hat7 hlt7
          go_roundw
          case rel => exact ⟨k + 1, bs ++ [((k : Int), .slice ua6 p.length ucc6, p)], by omega, by go_num, HPUSH.out, by rw [biP_snoc, HSU.out, HBP.out], HB7.out⟩
          case measure => simp [intOf]; omega
    · have hk12 : k = 12 := by omega
      subst hk12
      have hl12 := bndL_len (mOf M) 12
      rw [← hbp, biP_len] at hl12
      have HAT := hid (hown.at hbp (by omega) (fun b hb' => by
        obtain ⟨v, _, _, h3, _⟩ := bndL_mem hb'
        have := HPL.out _ _ h3
        omega))
      clear hown hbp
      go_wp2
      go_ret
      exact ⟨_, rfl, HAT.out, hb⟩
end Go.Proofs.Ytidigpfiagjeiaa
namespace Go.Proofs.Ytidigpfiagjeiaa
open Go Go.RowKit Go.Maps
theorem ints_nil (w : World) : Ints w (.slice none 0 0) [] := ⟨by simp, none, 0, rfl, Nat.le_refl _, by simp, fun _ => rfl, by simp⟩
theorem binds_nil (w : World) : BindsAt w (.slice none 0 0) [] := ⟨[], ⟨⟨by simp [biC], none, 0, rfl, Nat.le_refl _, by simp, fun _ => rfl, by simp [biC]⟩, by simp⟩, rfl⟩
theorem bnds_range {s : Sg} {l : BL} (h : bndsB s l = true) : ∀ b ∈ l, -1000 ≤ b.1 ∧ b.1 ≤ 1000 := fun b hb => by
  have := ((bndsB_iff.1 h).2.1 b hb).1
  omega
theorem tab_short {s : Sg} {l : BL} (h : bndsB s l = true) : ∀ x p, tabP l x = some p → p.length ≤ 60 := fun x p hp => (termB_facts (tabP_range h hp).2.1).2.2.2
theorem T_mil {s : Sg} {t : List Int} (h : termB s t = true) : ∀ x ∈ t, -1000000 ≤ x ∧ x ≤ 1000000 := fun x hx => by
  have h1 := T_small (termB_T h) (by have := (termB_facts h).2.2.1; omega) x hx
  omega
theorem bndsB_tabP {s : Sg} {l : BL} (h : bndsB s l = true) : tabP l = tabP l := rfl
set_option maxHeartbeats 1000000 in
set_option maxRecDepth 100000 in
theorem unify_Apply (vs v vt : Value) (s : Sg) (l : BL) (t : List Int) (w : World) (hs : SignAt w vs s) (hv : BindsAt w v l) (ht : Ints w vt t) (hs1 : s.length ≤ 1000) :
    Calls Try.prog 32 #[vs, v, vt] w fun e w' => ∃ u, e = .returned (.tuple #[u, .int .i64 (appR s l t).2]) ∧ Ints w' u (appR s l t).1 ∧ Below w.heap.size w w' := by
  have HVT := hid (term_Valid' vs vt s t w hs ht hs1)
  have HS := hid hs
  have HV := hid hv
  have HT := hid ht
  clear hs hv ht
  cases h1 : termB s t
  · have HA : Hid (appR s l t = ([], 1)) := hid (by unfold appR; rw [h1]; rfl)
    simp only [h1] at HVT
    clear h1
    rw [HA.out]
    go_enter Try.func32, Try.ntmps32
    go_wp2_with fail
    refine HVT.out.mono ?_
    rintro e w1 ⟨rfl, hb1⟩
    go_wp2
    go_ret2
    exact ⟨_, rfl, ints_nil _, hb1⟩
  · cases h2 : bndsB s l
    · have HA : Hid (appR s l t = ([], 1)) := hid (by unfold appR; rw [h1, h2]; rfl)
      have HVB := hid (fun (X : World) (hX : Below w.heap.size w X) => unify_ValidBinds vs v s l X (HS.out.below hX) (HV.out.below hX) hs1)
      simp only [h1] at HVT
      simp only [h2] at HVB
      clear h1 h2
      rw [HA.out]
      go_enter Try.func32, Try.ntmps32
      go_wp2_with fail
      refine HVT.out.mono ?_
      rintro e w1 ⟨rfl, hb1⟩
      go_wp2_with fail
      refine (HVB.out _ hb1).mono ?_
      rintro e w2 ⟨rfl, hb2⟩
      go_wp2
      go_ret2
      exact ⟨_, rfl, ints_nil _, hb1.trans (hb2.mono hb1.size)⟩
    · have HA : Hid (appR s l t = if (subL (ofN l) t).length ≤ 60 then (subL (ofN l) t, 0) else ([], 4)) := hid (by unfold appR; rw [h1, h2]; rfl)
      have HVB := hid (fun (X : World) (hX : Below w.heap.size w X) => unify_ValidBinds vs v s l X (HS.out.below hX) (HV.out.below hX) hs1)
      have HTB := hid (fun (X : World) (hX : Below w.heap.size w X) => unify_table v l X (HV.out.below hX) (bnds_range h2))
      have hPS := putL_sub h2 t
      have hPL := sub_le h2 (termB_T h1)
      have htl := (termB_facts h1).2.2.2
      have HPT := hid (fun (X : World) (bm n : Nat) (M : Int → Option VT) (hX : Below w.heap.size w X) (hM : TMap X bm n M) (hMM : mOf M = tabP l) (hi : ∀ x u p, M x = some (u, p) → Ints X u p) =>
        unify_put bm n M vt t X hM hi (by rw [hMM]; exact tab_short h2) (HT.out.below hX) (by omega) (T_mil h1))
      simp only [h1] at HVT
      simp only [h2] at HVB
      clear h1 h2
      go_enter Try.func32, Try.ntmps32
      go_wp2_with fail
      refine HVT.out.mono ?_
      rintro e w1 ⟨rfl, hb1⟩
      have HB1 := hid hb1
      clear hb1
      go_wp2_with fail
      refine (HVB.out _ HB1.out).mono ?_
      rintro e w2 ⟨rfl, hb2⟩
      have HB2 := hid (HB1.out.trans (hb2.mono HB1.out.size))
      clear hb2
      go_wp2_with fail
      refine (HTB.out _ HB2.out).mono ?_
      rintro e w3 ⟨hb3, M, n, rfl, hM, hMM, hi⟩
      have HB3 := hid (HB2.out.trans (hb3.mono HB2.out.size))
      have hpt := HPT.out _ _ _ _ HB3.out hM hMM hi
      rw [hMM, hPS] at hpt
      have HPT3 := hid hpt
      clear hb3 hM hMM hi hpt hPS
      obtain ⟨r, hr⟩ : ∃ r, subL (ofN l) t = r := ⟨_, rfl⟩
      rw [hr] at HPT3 hPL HA
      clear hr
      go_wp2_with fail
      refine HPT3.out.mono ?_
      rintro e w4 ⟨u, rfl, hown, hb4⟩
      have HI4 := hid (Ints.of_owns hown (by omega) : Ints w4 u r)
      have HB4 := hid (HB3.out.trans (hb4.mono HB3.out.size))
      clear hown hb4
      have hft := unify_fits u r w4 HI4.out (by omega)
      by_cases h60 : r.length ≤ 60
      · rw [if_pos h60] at hft
        have HA2 : Hid (appR s l t = (r, 0)) := hid (by rw [HA.out, if_pos h60])
        have HFT := hid hft
        clear hft
        go_wp2_with fail
        refine HFT.out.mono ?_
        rintro e w5 ⟨rfl, rfl⟩
        go_wp2
        go_ret2
        rw [HA2.out]
        exact ⟨_, rfl, HI4.out, HB4.out⟩
      · rw [if_neg h60] at hft
        have HA2 : Hid (appR s l t = ([], 4)) := hid (by rw [HA.out, if_neg h60])
        have HFT := hid hft
        clear hft
        go_wp2_with fail
        refine HFT.out.mono ?_
        rintro e w5 ⟨rfl, rfl⟩
        go_wp2
        go_ret2
        rw [HA2.out]
        exact ⟨_, rfl, ints_nil _, HB4.out⟩
set_option maxRecDepth 100000 in
theorem unify_Occurs (vs vt : Value) (s : Sg) (v : Int) (t : List Int) (w : World) (hs : SignAt w vs s) (ht : Ints w vt t) (hs1 : s.length ≤ 1000) :
    Calls Try.prog 34 #[vs, .int .i64 v, vt] w fun e w' => e = .returned (.tuple #[.bool (occR s v t).1, .int .i64 (occR s v t).2]) ∧ Below w.heap.size w w' := by
  have HVT := hid (term_Valid' vs vt s t w hs ht hs1)
  have HT := hid ht
  clear hs ht
  cases h1 : termB s t
  · have HA : Hid (occR s v t = (false, 1)) := hid (by unfold occR; rw [h1]; rfl)
    simp only [h1] at HVT
    clear h1
    rw [HA.out]
    go_enter Try.func34, Try.ntmps34
    go_wp2_with fail
    refine HVT.out.mono ?_
    rintro e w1 ⟨rfl, hb1⟩
    go_wp2
    go_ret2
    exact ⟨rfl, hb1⟩
  · simp only [h1] at HVT
    cases h2 : inB v 0 11
    · have HA : Hid (occR s v t = (false, 7)) := hid (by unfold occR; rw [h1, h2]; rfl)
      have HW := hid (fun X => unify_within v 0 11 X)
      simp only [h2] at HW
      clear h1 h2
      rw [HA.out]
      go_enter Try.func34, Try.ntmps34
      go_wp2_with fail
      refine HVT.out.mono ?_
      rintro e w1 ⟨rfl, hb1⟩
      go_wp2_with fail
      refine (HW.out _).mono ?_
      rintro e w2 ⟨rfl, rfl⟩
      go_wp2
      go_ret2
      exact ⟨rfl, hb1⟩
    · have HA : Hid (occR s v t = (decide (-v - 1 ∈ t), 0)) := hid (by unfold occR; rw [h1, h2]; rfl)
      have HW := hid (fun X => unify_within v 0 11 X)
      have hv := inB_true.1 h2
      simp only [h2] at HW
      clear h1 h2
      rw [HA.out]
      go_enter Try.func34, Try.ntmps34
      go_wp2_with fail
      refine HVT.out.mono ?_
      rintro e w1 ⟨rfl, hb1⟩
      have HC := hid (sl_Contains_term vt t (-v - 1) w1 (HT.out.below hb1))
      go_wp2_with fail
      refine (HW.out _).mono ?_
      rintro e w2 ⟨rfl, rfl⟩
      go_wp2_with (first | (go_at_call 83; refine (unify_code _ _ (by omega) (by omega)).mono ?_; rintro e w4 ⟨rfl, rfl⟩))
      refine HC.out.mono ?_
      rintro e w5 ⟨rfl, rfl⟩
      go_wp2
      go_ret2
      exact ⟨rfl, hb1⟩
def mtR (s : Sg) (a b : List Int) : BL × Int := if termB s a && termB s b then (match matL s a b noM with | none => ([], 8) | some m => (bndL m 12, 0)) else ([], 1)
theorem subL_piece_len {σ : Int → List Int} : ∀ {a : List Int} {n : Int}, n ∈ a → n < 0 → (σ n).length ≤ (subL σ a).length
  | x :: a, n, h, h0 => by
    by_cases hx : x < 0
    · rw [subL_cons_var σ hx, List.length_append]
      rcases List.mem_cons.1 h with rfl | h
      · omega
      · have := subL_piece_len (σ := σ) h h0; omega
    · rw [subL_cons_app σ (by omega), List.length_cons]
      rcases List.mem_cons.1 h with rfl | h
      · omega
      · have := subL_piece_len (σ := σ) h h0; omega
theorem matL_terms {s : Sg} {a b : List Int} (ha : termB s a = true) (hb : termB s b = true) {m : MM} (h : matL s a b noM = some m) :
    (∀ x p, m x = some p → x ∈ a ∧ x < 0 ∧ termB s p = true) ∧ (∀ n ∈ a, n < 0 → ∃ p, m n = some p) ∧ subL (fun n => (m n).getD []) a = b := by
  obtain ⟨_, h2, h3, h4⟩ := matL_sound a 1 b noM m (termB_T ha).fo (termB_T hb).fo h
  refine ⟨fun x p hx => ?_, h2, h3⟩
  rcases h4 x p hx with h5 | ⟨h5, h6, h7⟩
  · cases h5
  · refine ⟨h5, h6, T_termB (termB_facts ha).1 h7 ?_⟩
    have := subL_piece_len (σ := fun n => (m n).getD []) h5 h6
    rw [h3, hx] at this
    have := (termB_facts hb).2.2.2
    simp at *; omega
theorem matL_sizes {s : Sg} {a b : List Int} (ha : termB s a = true) (hb : termB s b = true) {m : MM} (h : matL s a b noM = some m) : ∀ x p, m x = some p → 0 < p.length ∧ p.length ≤ 1000 := fun x p hp => by
  have h1 := ((matL_terms ha hb h).1 x p hp).2.2
  have h2 := (termB_facts h1).2.2.2
  have h3 := (termB_T h1).ne
  omega
set_option maxHeartbeats 1000000 in
set_option maxRecDepth 100000 in
theorem unify_Match (vs va vb : Value) (s : Sg) (a b : List Int) (w : World) (hs : SignAt w vs s) (ra : Ints w va a) (rb : Ints w vb b) (hs1 : s.length ≤ 1000) :
    Calls Try.prog 45 #[vs, va, vb] w fun e w' => ∃ u, e = .returned (.tuple #[u, .int .i64 (mtR s a b).2]) ∧ BindsAt w' u (mtR s a b).1 ∧ Below w.heap.size w w' := by
  have HVA := hid (term_Valid' vs va s a w hs ra hs1)
  have HVB := hid (fun (X : World) (hX : Below w.heap.size w X) => term_Valid' vs vb s b X (hs.below hX) (rb.below hX) hs1)
  have HS := hid hs
  have RA := hid ra
  have RB := hid rb
  clear hs ra rb
  cases h1 : termB s a
  · have HA : Hid (mtR s a b = ([], 1)) := hid (by unfold mtR; rw [h1]; rfl)
    simp only [h1] at HVA
    clear h1
    rw [HA.out]
    go_enter Try.func45, Try.ntmps45
    go_wp2_with fail
    refine HVA.out.mono ?_
    rintro e w1 ⟨rfl, hb1⟩
    go_wp2
    go_ret2
    exact ⟨_, rfl, binds_nil _, hb1⟩
  · simp only [h1] at HVA
    cases h2 : termB s b
    · have HA : Hid (mtR s a b = ([], 1)) := hid (by unfold mtR; rw [h1, h2]; rfl)
      simp only [h2] at HVB
      clear h1 h2
      rw [HA.out]
      go_enter Try.func45, Try.ntmps45
      go_wp2_with fail
      refine HVA.out.mono ?_
      rintro e w1 ⟨rfl, hb1⟩
      go_wp2_with fail
      refine (HVB.out _ hb1).mono ?_
      rintro e w2 ⟨rfl, hb2⟩
      go_wp2
      go_ret2
      exact ⟨_, rfl, binds_nil _, hb1.trans (hb2.mono hb1.size)⟩
    · obtain ⟨_, f1, f2, f3⟩ := termB_facts h1
      have f4 := (termB_facts h2).2.2.2
      have HA : Hid (mtR s a b = match matL s a b noM with | none => ([], 8) | some m => (bndL m 12, 0)) := hid (by unfold mtR; rw [h1, h2]; rfl)
      have HM := hid (fun (X : World) (hX : Below w.heap.size w X) => unify_match vs va vb s a b X f1 f2 (termB_T h1) (termB_T h2) (HS.out.below hX) (RA.out.below hX) (RB.out.below hX) (by omega) (by omega))
      have HSZ := hid (fun m => matL_sizes (m := m) h1 h2)
      simp only [h2] at HVB
      clear h1 h2
      go_enter Try.func45, Try.ntmps45
      go_wp2_with fail
      refine HVA.out.mono ?_
      rintro e w1 ⟨rfl, hb1⟩
      have HB1 := hid hb1
      clear hb1
      go_wp2_with fail
      refine (HVB.out _ HB1.out).mono ?_
      rintro e w2 ⟨rfl, hb2⟩
      have HB2 := hid (HB1.out.trans (hb2.mono HB1.out.size))
      clear hb2
      go_wp2_with fail
      refine (HM.out _ HB2.out).mono ?_
      rintro e w3 ⟨hb3, ⟨h3, rfl⟩ | ⟨M, n, h3, rfl, hM, hi⟩⟩
      · have HB3 := hid (HB2.out.trans (hb3.mono HB2.out.size))
        have HA2 : Hid (mtR s a b = ([], 8)) := hid (by rw [HA.out, h3])
        clear h3 hb3
        go_wp2
        go_ret2
        rw [HA2.out]
        exact ⟨_, rfl, binds_nil _, HB3.out⟩
      · have HB3 := hid (HB2.out.trans (hb3.mono HB2.out.size))
        have HA2 : Hid (mtR s a b = (bndL (mOf M) 12, 0)) := hid (by rw [HA.out, h3])
        have HBD := hid (unify_binds w2.heap.size n M w3 hM hi (HSZ.out _ h3))
        clear h3 hb3 hM hi
        go_wp2_with fail
        refine HBD.out.mono ?_
        rintro e w4 ⟨u, rfl, hu, hb4⟩
        have HB4 := hid (HB3.out.trans (hb4.mono HB3.out.size))
        have HU := hid hu
        clear hb4 hu
        go_wp2
        go_ret2
        rw [HA2.out]
        exact ⟨_, rfl, HU.out, HB4.out⟩
def unifB (s : Sg) (l : BL) (a b : List Int) : Bool := bndsB s l && termB s a && termB s b && decide (subL (ofN l) a = subL (ofN l) b)
set_option maxHeartbeats 1000000 in
set_option maxRecDepth 100000 in
theorem unify_Unifies (vs v va vb : Value) (s : Sg) (l : BL) (a b : List Int) (w : World) (hs : SignAt w vs s) (hv : BindsAt w v l) (ra : Ints w va a) (rb : Ints w vb b) (hs1 : s.length ≤ 1000) :
    Calls Try.prog 48 #[vs, v, va, vb] w fun e w' => e = .returned (.bool (unifB s l a b)) ∧ Below w.heap.size w w' := by
  have HVL := hid (unify_ValidBinds vs v s l w hs hv hs1)
  have HVA := hid (fun (X : World) (hX : Below w.heap.size w X) => term_Valid' vs va s a X (hs.below hX) (ra.below hX) hs1)
  have HVB := hid (fun (X : World) (hX : Below w.heap.size w X) => term_Valid' vs vb s b X (hs.below hX) (rb.below hX) hs1)
  have HV := hid hv
  have RA := hid ra
  have RB := hid rb
  clear hs hv ra rb
  cases h1 : bndsB s l
  · have HA : Hid (unifB s l a b = false) := hid (by unfold unifB; rw [h1]; rfl)
    simp only [h1] at HVL
    clear h1
    go_enter Try.func48, Try.ntmps48
    go_wp2_with fail
    refine HVL.out.mono ?_
    rintro e w1 ⟨rfl, hb1⟩
    go_wp2
    go_ret
    exact ⟨ret_bool HA.out.symm, hb1⟩
  · simp only [h1] at HVL
    cases h2 : termB s a
    · have HA : Hid (unifB s l a b = false) := hid (by unfold unifB; rw [h1, h2]; rfl)
      simp only [h2] at HVA
      clear h1 h2
      go_enter Try.func48, Try.ntmps48
      go_wp2_with fail
      refine HVL.out.mono ?_
      rintro e w1 ⟨rfl, hb1⟩
      go_wp2_with fail
      refine (HVA.out _ hb1).mono ?_
      rintro e w2 ⟨rfl, hb2⟩
      go_wp2
      go_ret
      exact ⟨ret_bool HA.out.symm, hb1.trans (hb2.mono hb1.size)⟩
    · simp only [h2] at HVA
      cases h3 : termB s b
      · have HA : Hid (unifB s l a b = false) := hid (by unfold unifB; rw [h1, h2, h3]; rfl)
        simp only [h3] at HVB
        clear h1 h2 h3
        go_enter Try.func48, Try.ntmps48
        go_wp2_with fail
        refine HVL.out.mono ?_
        rintro e w1 ⟨rfl, hb1⟩
        go_wp2_with fail
        refine (HVA.out _ hb1).mono ?_
        rintro e w2 ⟨rfl, hb2⟩
        have hb12 := hb1.trans (hb2.mono hb1.size)
        go_wp2_with fail
        refine (HVB.out _ hb12).mono ?_
        rintro e w3 ⟨rfl, hb3⟩
        go_wp2
        go_ret
        exact ⟨ret_bool HA.out.symm, hb12.trans (hb3.mono hb12.size)⟩
      · have HA : Hid (unifB s l a b = decide (subL (ofN l) a = subL (ofN l) b)) := hid (by unfold unifB; rw [h1, h2, h3]; rfl)
        have HTB := hid (fun (X : World) (hX : Below w.heap.size w X) => unify_table v l X (HV.out.below hX) (bnds_range h1))
        have hPA := putL_sub h1 a
        have hPB := putL_sub h1 b
        have hla := sub_le h1 (termB_T h2)
        have hlb := sub_le h1 (termB_T h3)
        have hal := (termB_facts h2).2.2.2
        have hbl := (termB_facts h3).2.2.2
        have HPT := hid (fun (X : World) (bm n : Nat) (M : Int → Option VT) (vt : Value) (t : List Int) (hM : TMap X bm n M) (hMM : mOf M = tabP l) (hi : ∀ x u p, M x = some (u, p) → Ints X u p) (ht : Ints X vt t) (h4 : termB s t = true) =>
          unify_put bm n M vt t X hM hi (by rw [hMM]; exact tab_short h1) ht (by have := (termB_facts h4).2.2.2; omega) (T_mil h4))
        have HT2 := hid h2
        have HT3 := hid h3
        simp only [h3] at HVB
        clear h1 h2 h3
        go_enter Try.func48, Try.ntmps48
        go_wp2_with fail
        refine HVL.out.mono ?_
        rintro e w1 ⟨rfl, hb1⟩
        have HB1 := hid hb1
        clear hb1
        go_wp2_with fail
        refine (HVA.out _ HB1.out).mono ?_
        rintro e w2 ⟨rfl, hb2⟩
        have HB2 := hid (HB1.out.trans (hb2.mono HB1.out.size))
        clear hb2
        go_wp2_with fail
        refine (HVB.out _ HB2.out).mono ?_
        rintro e w3 ⟨rfl, hb3⟩
        have HB3 := hid (HB2.out.trans (hb3.mono HB2.out.size))
        clear hb3
        go_wp2_with fail
        refine (HTB.out _ HB3.out).mono ?_
        rintro e w4 ⟨hb4, M, n, rfl, hM, hMM, hi⟩
        have HB4 := hid (HB3.out.trans (hb4.mono HB3.out.size))
        have hp1 := HPT.out _ _ _ _ _ _ hM hMM hi (RA.out.below HB4.out) HT2.out
        rw [hMM, hPA] at hp1
        have HP1 := hid hp1
        have HM := hid hM
        have HMM := hid hMM
        have HI := hid hi
        clear hb4 hM hMM hi hp1
        obtain ⟨ra', hra⟩ : ∃ r, subL (ofN l) a = r := ⟨_, rfl⟩
        rw [hra] at HP1 hla HA hPA
        obtain ⟨rb', hrb⟩ : ∃ r, subL (ofN l) b = r := ⟨_, rfl⟩
        rw [hrb] at hlb HA hPB
        have HPB := hid hPB
        clear hra hrb hPA hPB
        go_wp2_with fail
        refine HP1.out.mono ?_
        rintro e w5 ⟨u1, rfl, hown, hb5⟩
        have HI5 := hid (Ints.of_owns hown (by omega) : Ints w5 u1 ra')
        have HB5 := hid (HB4.out.trans (hb5.mono HB4.out.size))
        have hp2 := HPT.out _ _ _ _ _ _ (HM.out.belowS hb5) HMM.out (fun x u p h => (HI.out x u p h).below hb5) (RB.out.below HB5.out) HT3.out
        rw [HMM.out, HPB.out] at hp2
        have HP2 := hid hp2
        clear hown hb5 hp2
        go_wp2_with fail
        refine HP2.out.mono ?_
        rintro e w6 ⟨u2, rfl, hown, hb6⟩
        have HI6 := hid (Ints.of_owns hown (by omega) : Ints w6 u2 rb')
        have HB6 := hid (HB5.out.trans (hb6.mono HB5.out.size))
        have HI5' := hid (HI5.out.below hb6)
        clear hown hb6
        go_wp2_with fail
        refine (sl_EqualT u1 u2 ra' rb' w6 HI5'.out HI6.out).mono ?_
        rintro e w7 ⟨rfl, nq, rfl⟩
        go_wp2
        go_ret
        exact ⟨ret_bool HA.out.symm, below_drewN HB6.out nq⟩
end Go.Proofs.Ytidigpfiagjeiaa
