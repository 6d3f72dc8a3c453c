/-
  WHAT IT HOLDS: contracts of slices.Max at ints and of Times of package short. Conditions: the arguments read as data.
  WHAT IT HOLDS: plain words on how often the steps of a proof come and how many steps their trees have: the machine's sums are the numbers' own; the times of the steps that cite add up to half of the count of the last step, rounded up. No program in sight.
-/
import Derived.Lib.Slices
import Derived.Lib.MinMax
import Derived.Test.YtmpjaakkjhmpmaaGreatDoorZRShortTrims36
namespace Go.Proofs.YtmpjaakkjhmpmaaGreatDoor
open Go Go.RowKit Go.Maps
set_option maxHeartbeats 1000000 in
theorem sl_MaxI (b n c : Nat) (zs : List Int) (w : World) (hn : 0 < n) (hz : zs.length = n) (hbig : n ≤ 1000) (hc : ∀ j, j < n → w.cell? ⟨b, j, none⟩ = some (.int .i64 (tmA zs j))) :
    Calls Tryz.prog 80 #[.slice (some ⟨b, 0, none⟩) n c] w fun e w' => e = .returned (.int .i64 (Lib.maxOf zs)) ∧ w' = w := by
  have h0 := hc 0 hn
  have HC := hid hc
  have HZ := hid hz
  obtain ⟨z0, hz0⟩ : ∃ z, tmA zs 0 = z := ⟨_, rfl⟩
  have HZ0 := hid hz0
  rw [hz0] at h0
  have nlt : ((n : Int) < 1) = False := by simp; omega
  clear hz hc hz0
  go_enter Tryz.func80, Tryz.ntmps80
  go_wp2
  go_loopw [3, 4] (fun m i wr => ∃ k : Nat, 0 < k ∧ k ≤ n ∧ i = .int .i64 k ∧ m = .int .i64 (Lib.maxOf (zs.take k)) ∧ wr = w) (fun _ i _ => n - (intOf i).toNat)
  case atStart => exact ⟨1, by omega, by omega, rfl, by rw [Lib.maxOf_one, ← HZ0.out]; rfl, rfl⟩
  case round =>
    obtain ⟨k, hk0, hk, rfl, rfl, rfl⟩ := hrel
    by_cases hlt : k < n
    · have ck := HC.out k hlt
      obtain ⟨z, hzz⟩ : ∃ z, tmA zs k = z := ⟨_, rfl⟩
      have HS : Hid (Lib.maxOf (zs.take (k + 1)) = max (Lib.maxOf (zs.take k)) z) := hid (by rw [Lib.maxOf_step zs k hk0 (by rw [HZ.out]; omega), ← hzz]; rfl)
      rw [hzz] at ck
      have q1 : IntKind.i64.wrap ((k : Int) + 1) = ((k + 1 : Nat) : Int) := by rw [IntWalk.i64_in _ (by omega)]; omega
      obtain ⟨M, hM⟩ : ∃ M, Lib.maxOf (zs.take k) = M := ⟨_, rfl⟩
      rw [hM] at HS ⊢
      clear hzz hM h0
      go_wp2
      go_roundw
      case rel => exact ⟨k + 1, by omega, by omega, by simp, by rw [HS.out], by first | rfl | trivial⟩
      case measure => simp [intOf]; omega
    · obtain rfl : k = n := by omega
      have HM : Hid (zs.take k = zs) := hid (List.take_of_length_le (by rw [HZ.out]; omega))
      clear h0
      go_wp2
      go_ret
      exact ⟨by rw [HM.out]; rfl, rfl⟩
theorem mkT_len (x : St) (i : Nat) (b : List Int) : (mkT x i b).length = b.length := by
  unfold mkT
  split
  · simp
  · rfl
theorem tmF_len (p : List St) : ∀ (i : Nat) (b : List Int), (tmF p i b).length = b.length
  | 0, _ => rfl
  | i + 1, b => by rw [tmF, tmF_len p i, mkT_len]
theorem timL_len (p : List St) : (timL p).length = p.length := by unfold timL tm0; rw [tmF_len]; simp
theorem ints_nil7 (w : World) : Ints w (.slice none 0 0) [] := ⟨by simp, none, 0, rfl, Nat.le_refl _, by simp, fun _ => rfl, by simp⟩
def timE (g : Int) (p : List St) : Int := if vldB g p = true then (if 1000000000000000 < Lib.maxOf (timL p) then 4 else 0) else 1
def TimesQ (g : Int) (p : List St) (w : World) (e : Ending) (w' : World) : Prop := ∃ u, e = .returned (.tuple #[u, .int .i64 (timE g p)]) ∧ Ints w' u (if timE g p = 0 then timL p else []) ∧ Below w.heap.size w w'
set_option maxHeartbeats 2000000 in
theorem short_Times (g : Int) (v : Value) (p : List St) (w : World) (hv : StepsAt w v p) :
    Calls Tryz.prog 34 #[.int .i64 g, v] w fun e w' => TimesQ g p w e w' := by
  have HV := hid (short_valid g v p w hv)
  have HP := hid hv
  obtain ⟨pa, pc, rfl, -⟩ := hv.open
  clear hv
  unfold TimesQ
  cases hb : vldB g p
  · have hE : vldE g p = 1 := by unfold vldE; rw [hb]; rfl
    have hE2 : timE g p = 1 := by unfold timE; rw [hb]; rfl
    rw [hE] at HV
    rw [hE2]
    clear hb hE HP hE2
    go_enter Tryz.func34, Tryz.ntmps34
    go_wp2_with fail
    refine HV.out.mono ?_
    rintro e w1 ⟨rfl, hb1⟩
    go_wp2
    go_ret2
    exact ⟨_, rfl, ints_nil7 _, hb1⟩
  · have hE : vldE g p = 0 := by unfold vldE; rw [hb]; rfl
    have hp : proofB g p = true := by unfold vldB at hb; rw [Bool.and_eq_true] at hb; exact hb.2
    have hE2 : timE g p = if 1000000000000000 < Lib.maxOf (timL p) then 4 else 0 := by unfold timE; rw [hb]; rfl
    have h60 := proof60 hp
    have h1 := proof1 hp
    have hlen := timL_len p
    have HT := hid (fun (X : World) (hX : Below w.heap.size w X) => short_times g (.slice pa p.length pc) p X (HP.out.below hX) hp)
    rw [hE] at HV
    rw [hE2]
    obtain ⟨M, hM⟩ : ∃ M, Lib.maxOf (timL p) = M := ⟨_, rfl⟩
    rw [hM]
    have HMM := hid hM
    clear hb hE HP hE2 hp hM
    have hq : (1000000000000000 < M ∧ (if 1000000000000000 < M then (4 : Int) else 0) = 4) ∨ (¬ 1000000000000000 < M ∧ (if 1000000000000000 < M then (4 : Int) else 0) = 0) := by
      by_cases h : 1000000000000000 < M
      · exact Or.inl ⟨h, if_pos h⟩
      · exact Or.inr ⟨h, if_neg h⟩
    rcases hq with ⟨hlt, e1⟩ | ⟨hlt, e1⟩
    all_goals
      rw [e1]
      clear e1
      go_enter Tryz.func34, Tryz.ntmps34
      go_wp2_with fail
      refine HV.out.mono ?_
      rintro e w1 ⟨rfl, hb1⟩
      have HB1 := hid hb1
      have K := hid (HT.out w1 hb1)
      clear hb1
      go_wp2_with fail
      refine K.out.mono ?_
      rintro e w2 ⟨q, rfl, hq, hown, hb2⟩
      have HB2 := hid (HB1.out.trans (hb2.mono HB1.out.size))
      have HMX := hid (sl_MaxI q p.length p.length (timL p) w2 (by omega) hlen (by omega) (fun j hj => by
        have hc := hown.cellAt j (by omega)
        rwa [tms_at (by omega)] at hc))
      rw [HMM.out] at HMX
      rw [← hlen] at hown
      have HO := hid (Ints.of_owns hown (by omega))
      rw [hlen] at HO
      clear hown hb2 hlen K
      go_wp2_with fail
      refine HMX.out.mono ?_
      rintro e w3 ⟨rfl, rfl⟩
      clear HMX
      go_wp2
      go_ret2
      first | exact ⟨_, rfl, ints_nil7 _, HB2.out⟩ | exact ⟨_, rfl, HO.out, HB2.out⟩
end Go.Proofs.YtmpjaakkjhmpmaaGreatDoor
namespace Go.Proofs.YtmpjaakkjhmpmaaGreatDoor
open Go Go.RowKit
def upd7 (b : Nat → Int) (A : Nat) (v : Int) : Nat → Int := fun j => if j = A then v else b j
theorem tmA_set {b : List Int} {A : Nat} (h : A < b.length) (v : Int) : tmA (b.set A v) = upd7 (tmA b) A v := by
  funext j
  unfold tmA upd7
  rw [List.getD_eq_getElem?_getD, List.getElem?_set]
  by_cases e : A = j
  · subst e; rw [if_pos rfl, if_pos h, if_pos rfl]; rfl
  · rw [if_neg e, if_neg (fun h => e h.symm)]
    show _ = b.getD j 0
    rw [List.getD_eq_getElem?_getD]
end Go.Proofs.YtmpjaakkjhmpmaaGreatDoor
