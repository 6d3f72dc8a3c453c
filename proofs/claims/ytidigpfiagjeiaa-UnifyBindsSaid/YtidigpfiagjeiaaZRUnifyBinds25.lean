/-
  WHAT IT HOLDS: contracts of binds, Match, Apply, Occurs of package unify, and of Match of the reference. Conditions: the arguments read as data; small signs.
-/
import Derived.Test.YtidigpfiagjeiaaZRUnifyBinds22
import Derived.Test.YtidigpfiagjeiaaZRUnifyBinds19
import Derived.Test.YtidigpfiagjeiaaZRUnifyBinds24
import Derived.Test.YtidigpfiagjeiaaZRUnifyBinds18
import Derived.Test.YtidigpfiagjeiaaZRUnifyBinds8
namespace Go.Proofs.Ytidigpfiagjeiaa
open Go Go.RowKit Go.Maps
def bRow (e : TypeId) (u : Value) (bs : List BV) : Rw := ⟨e, 2, u, bs.length, biC bs⟩
def bTos (T : TypeId) (bs : List BV) : List Rw := bs.map fun b => rwT T b.2.1 b.2.2
/-- binds of the call's own memory, rows apart. -/
def BSep (E T : TypeId) (w : World) (base : Nat) (u : Value) (bs : List BV) : Prop := Sep w base (bRow E u bs :: bTos T bs)
theorem BSep.nil (E T : TypeId) (w : World) (base : Nat) : BSep E T w base (.slice none 0 0) [] := (Sep.nil w base).consNil E 2
theorem BSep.below {E T : TypeId} {w w' : World} {base : Nat} {u : Value} {bs : List BV} (h : BSep E T w base u bs) (hb : Below w.heap.size w w') : BSep E T w' base u bs := Sep.below h hb
theorem BSep.row {E T : TypeId} {w : World} {base : Nat} {u : Value} {bs : List BV} (h : BSep E T w base u bs) : w.ownsRow base E 2 u bs.length (biC bs) := h.1 (bRow E u bs) (by simp)
theorem BSep.push {E T : TypeId} {w0 w w1 : World} {base base' : Nat} {u : Value} {bs : List BV} (h : BSep E T w0 base u bs) (hb : Below w0.heap.size w0 w) (hB : w0.heap.size ≤ base') (hbb : base ≤ base') {x : Int} {v : Value} {p : List Int}
    (hv : w.ownsRow base' T 1 v p.length (p.map (Value.int .i64))) {g cap n : Nat} (hn : bs.length = n) (hown : w1.ownsRow base E 2 (.slice (some ⟨g, 0, none⟩) (n + 1) cap) (n + 1) (biC bs ++ [.int .i64 x, v])) (hg : w.grownBy w1 u.ownBlock) {H : Nat} (hH : w.heap.size = H) (hat : u.ownBlock = some g ∨ g = H) :
    BSep E T w1 base (.slice (some ⟨g, 0, none⟩) (n + 1) cap) (bs ++ [(x, v, p)]) := by
  subst hn
  have h1 : Sep w base (rwT T v p :: bRow E u bs :: bTos T bs) := Sep.cons h hb hB hbb hv
  have h2 : Sep w base (bRow E u bs :: rwT T v p :: bTos T bs) := h1.perm (List.Perm.swap _ _ _)
  have h3 := h2.app hg hown hH hat
  have e : (⟨E, 2, .slice (some ⟨g, 0, none⟩) (bs.length + 1) cap, bs.length + 1, biC bs ++ [.int .i64 x, v]⟩ : Rw) = bRow E (.slice (some ⟨g, 0, none⟩) (bs.length + 1) cap) (bs ++ [(x, v, p)]) := by
    unfold bRow; rw [biC_snoc, List.length_append]; rfl
  rw [e] at h3
  refine h3.perm (List.Perm.cons _ ?_)
  unfold bTos
  rw [List.map_append]
  exact (List.perm_append_comm (l₁ := [rwT T v p]) (l₂ := bs.map fun b => rwT T b.2.1 b.2.2))
theorem BSep.at {E T : TypeId} {w : World} {base : Nat} {u : Value} {bs : List BV} (h : BSep E T w base u bs) {l : BL} (hl : biP bs = l) (hn : bs.length ≤ 140737488355328) (hp : ∀ b ∈ l, b.2.length ≤ 140737488355328) : BindsAt w u l := by
  subst hl
  refine BindsAt.of_owns h.row hn fun x hx => ?_
  exact Sep.ints h (List.mem_cons_of_mem _ (List.mem_map.2 ⟨x, hx, rfl⟩)) (hp (x.1, x.2.2) (List.mem_map.2 ⟨x, hx, rfl⟩))
set_option maxHeartbeats 4000000 in
set_option maxRecDepth 100000 in
theorem unify_binds (bm n : Nat) (M : Int → Option VT) (w : World) (hM : TMap w bm n M) (hi : ∀ x u p, M x = some (u, p) → Ints w u p) (hm : ∀ x p, mOf M x = some p → 0 < p.length ∧ p.length ≤ 1000) :
    Calls Try.prog 91 #[.map (some bm)] w fun e w' => ∃ u, e = .returned u ∧ BindsAt w' u (bndL (mOf M) 12) ∧ Below w.heap.size w w' := by
  have HM := hid hM
  have HI := hid hi
  have HPL := hid hm
  clear hM hi hm
  go_enter Try.func91, Try.ntmps91
  go_wp2
  go_loopw [3, 7] (fun u kv wr => ∃ (k : Nat) (bs : List BV), k ≤ 12 ∧ kv = .int .i64 k ∧ BSep 61 3 wr w.heap.size u bs ∧ biP bs = bndL (mOf M) k ∧ Below w.heap.size w wr) (fun _ kv _ => 12 - (intOf kv).toNat)
  case atStart => exact ⟨0, [], by omega, rfl, BSep.nil _ _ _ _, rfl, Below.refl _ _⟩
  case round =>
    obtain ⟨k, bs, hk, rfl, hown, hbp, hb⟩ := hrel
    have hsz := hb.size
    by_cases hlt : k < 12
    · have HKEY := hid (int_key (-(k : Int) - 1) (wf_small (by omega) (by omega)))
      have HMB := hid (HM.out.belowS hb)
      have hl12 := bndL_len (mOf M) k
      rw [← hbp, biP_len] at hl12
      have hsucc := bndL_succ (mOf M) k
      have HOWN := hid hown
      have HBP := hid hbp
      clear hown hbp
      cases hMk : M (-(k : Int) - 1) with
      | none =>
        have HSU : Hid (bndL (mOf M) (k + 1) = bndL (mOf M) k) := hid (by rw [hsucc]; unfold mOf; rw [hMk]; simp)
        have HMX := hid hMk
        clear hsucc hMk
        go_wp2_with (first
          | (go_at_call 83; refine (unify_code _ _ (by omega) (by omega)).mono ?_; rintro e w4 ⟨rfl, rfl⟩)
          | (at_lookup; refine wpList_lookup_mapK rfl _ _ 65 true rfl (int_keyed Try.underlying3) eI_inj Try.underlying65 (zero_term _) rfl HMB.out (-(k : Int) - 1) rfl HKEY.out (.tuple #[.slice none 0 0, .bool false]) (by rw [HMX.out]; rfl) ?_))
        go_roundw
        case rel => exact ⟨k + 1, bs, by omega, by go_num, HOWN.out, by rw [HSU.out, HBP.out], hb⟩
        case measure => simp [intOf]; omega
      | some up =>
        obtain ⟨u, p⟩ := up
        have hp60 := HPL.out _ p (by unfold mOf; rw [hMk]; rfl)
        have hip := (HI.out _ _ _ hMk).below hb
        obtain ⟨ua, uc, rfl, -⟩ := hip.open
        have HIP := hid hip
        have HMX := hid hMk
        have hmk : mOf M (-(k : Int) - 1) = some p := by unfold mOf; rw [hMk]; rfl
        rw [hmk] at hsucc
        have HSU0 := hid hsucc
        clear hip hMk hsucc hmk
        have hbA : Below wr.heap.size wr (wr.alloc (.cells #[.int .i64 (-(k : Int) - 1)] 3)) := (Below.refl _ _).alloc (Nat.le_refl _) _
        have HBA := hid hbA
        have HLIT := hid (ints_lit1 wr (-(k : Int) - 1) 3)
        clear hbA
        go_wp2_with (first
          | (go_at_call 83; refine (unify_code _ _ (by omega) (by omega)).mono ?_; rintro e w4 ⟨rfl, rfl⟩)
          | (at_lookup; refine wpList_lookup_mapK rfl _ _ 65 true rfl (int_keyed Try.underlying3) eI_inj Try.underlying65 (zero_term _) rfl HMB.out (-(k : Int) - 1) rfl HKEY.out (.tuple #[.slice ua p.length uc, .bool true]) (by rw [HMX.out]; rfl) ?_))
        refine (sl_EqualT _ _ p [-(k : Int) - 1] _ (HIP.out.below HBA.out) HLIT.out).mono ?_
        rintro e w5 ⟨rfl, nq, rfl⟩
        have HB5 := hid (below_drewN HBA.out nq)
        obtain ⟨w5, hw5⟩ : ∃ w5, (wr.alloc (.cells #[.int .i64 (-(k : Int) - 1)] 3)).drewN nq = w5 := ⟨_, rfl⟩
        rw [hw5] at HB5 ⊢
        clear HBA HLIT hw5
        have hb05 := hb.trans (HB5.out.mono hsz)
        have hsz5 := hb05.size
        by_cases heq : p = [-(k : Int) - 1]
        · have HD : Hid (decide (p = [-(k : Int) - 1]) = true) := hid (by simp [heq])
          have HSU : Hid (bndL (mOf M) (k + 1) = bndL (mOf M) k) := hid (by rw [HSU0.out]; simp [heq])
          clear heq HSU0
          rw [HD.out]
          go_wp2
          go_roundw
          case rel => exact ⟨k + 1, bs, by omega, by go_num, HOWN.out.below HB5.out, by rw [HSU.out, HBP.out], hb05⟩
          case measure => simp [intOf]; omega
        · have HD : Hid (decide (p = [-(k : Int) - 1]) = false) := hid (by simp [heq])
          have HSU : Hid (bndL (mOf M) (k + 1) = bndL (mOf M) k ++ [((k : Int), p)]) := hid (by rw [HSU0.out]; simp [heq])
          clear heq HSU0
          rw [HD.out]
          go_wp2_with fail
          refine (sl_CloneT _ p _ (HIP.out.below HB5.out) hp60.1 hp60.2).mono ?_
          rintro e w6 ⟨uc6, rfl, o6, hb6⟩
          have HI6 := hid (Ints.of_owns o6 (by omega) : Ints w6 uc6 p)
          obtain ⟨ua6, ucc6, rfl, -⟩ := HI6.out.open
          have hb06 := hb05.trans (hb6.mono hsz5)
          have hsz6 := hb06.size
          have hbA6 : Below w6.heap.size w6 (w6.alloc (.cells #[.int .i64 k, .slice ua6 p.length ucc6] 61)) := (Below.refl _ _).alloc (Nat.le_refl _) _
          have HBZ := hid (hb6.trans (hbA6.mono hb6.size))
          have HO6 := hid (owns_below o6 hbA6)
          have HZ := hid (HOWN.out.below HB5.out)
          have hbZ := HB5.out.trans (HBZ.out.mono HB5.out.size)
          have HRW := hid (HZ.out.row)
          have HRA := hid (owns_below (owns_below HRW.out hb6) hbA6)
          have hsrc : RowK (w6.alloc (.cells #[.int .i64 k, .slice ua6 p.length ucc6] 61)) (.slice (some ⟨w6.heap.size, 0, none⟩) 1 1) 2 1 [.int .i64 k, .slice ua6 p.length ucc6] := row_two_new _ _ _ _
          have HSRC := hid hsrc
          have HBA6 := hid hbA6
          have hszA : w.heap.size ≤ (w6.alloc (.cells #[.int .i64 k, .slice ua6 p.length ucc6] 61)).heap.size := Nat.le_trans hsz6 hbA6.size
          clear o6 hb6 HB5 hsrc hbA6 hbZ HI6
          go_wp2_with (at_builtin; refine wpList_append_lie rfl _ _ 39 rfl w.heap.size 61 el_bind Try.underlying39 rfl (by decide) _ _ _ rfl HRA.out _ 1 [.int .i64 k, .slice ua6 p.length ucc6] rfl HSRC.out (by simp; exact ⟨rfl, rfl⟩) (by decide) (by omega) (by omega) hszA _ rfl ?_; intro g1 c1 w7 hown7 hgrow7 hat7 hlt7)
          have HPUSH := hid (HZ.out.push HBZ.out (Nat.le_refl _) hsz5 HO6.out rfl hown7 hgrow7 rfl hat7)
          have hb7 : Below w.heap.size w w7 := (hb06.trans (HBA6.out.mono hsz6)).grown hgrow7 hszA (fun q hq => (HRW.out.lt q hq).1)
          have HB7 := hid hb7
          clear hb7 hown7 hgrow7 hat7 hlt7
          go_roundw
          case rel => exact ⟨k + 1, bs ++ [((k : Int), .slice ua6 p.length ucc6, p)], by omega, by go_num, HPUSH.out, by rw [biP_snoc, HSU.out, HBP.out], HB7.out⟩
          case measure => simp [intOf]; omega
    · have hk12 : k = 12 := by omega
      subst hk12
      have hl12 := bndL_len (mOf M) 12
      rw [← hbp, biP_len] at hl12
      have HAT := hid (hown.at hbp (by omega) (fun b hb' => by
        obtain ⟨v, _, _, h3, _⟩ := bndL_mem hb'
        have := HPL.out _ _ h3
        omega))
      clear hown hbp
      go_wp2
      go_ret
      exact ⟨_, rfl, HAT.out, hb⟩
end Go.Proofs.Ytidigpfiagjeiaa
