/-
  WHAT IT HOLDS: contracts of Edition of the reference of layer 9 and of the helper awake9 of the law TopUndone. Conditions: the arguments read as data; small signs, small libraries.
-/
import Derived.BigQuiet
import Derived.Test.YtlbjbmpkaniojaaGreatZRBlameDiffers36
import Derived.Test.YtlbjbmpkaniojaaGreatZRBlameDiffers33
import Derived.Test.YtlbjbmpkaniojaaGreatZRBlameDiffers24
import Derived.Test.YtlbjbmpkaniojaaGreatZRBlameDiffers39
namespace Go.Proofs.YtlbjbmpkaniojaaGreat
open Go Go.RowKit Go.Maps
set_option maxHeartbeats 4000000 in
set_option maxRecDepth 100000 in
theorem ref9_Edition (vs vl : Value) (s : Sg) (l : List En) (w : World) (hs : SignAt w vs s) (hl : EntsAt w vl l) (hs1 : s.length ≤ 1000) (hl1 : l.length ≤ 1000) :
    Calls Tryz.prog 25 #[vs, vl] w fun e w' => e = .returned (.bool (edB s l)) ∧ Below w.heap.size w w' := by
  have HS := hid hs
  have HL := hid hl
  obtain ⟨la, lc, rfl, -, ll, -, HC⟩ := hl.open
  have HC' := hid HC
  clear HC hl hs
  go_enter Tryz.func25, Tryz.ntmps25
  go_wp2
  go_loopw [5] (fun i wr => ∃ k q : Nat, i = .int .i64 ((k : Int) + 1) ∧ wr = w.drewN q ∧ (k + 1 ≤ l.length ∨ k = 0) ∧ ∀ j (h : j + 1 < l.length), j < k → ltN (l[j]'(by omega)).name l[j + 1].name) (fun i _ => l.length - (intOf i).toNat)
  case atStart => exact ⟨0, 0, rfl, rfl, Or.inr rfl, fun j h h2 => absurd h2 (by omega)⟩
  case round =>
    obtain ⟨k, q, rfl, hw, hk, hrel⟩ := hrel
    have HW := hid hw
    have HR := hid hrel
    have hbq : Below w.heap.size w wr := hw ▸ below_self_drewN _ _
    clear hrel
    by_cases hlt : k + 1 < l.length
    · obtain ⟨b, o, vS, vu, vp, rfl, c0, -⟩ := HC'.out (k + 1) hlt
      obtain ⟨b', o', uS, uu, up, e', d0, -⟩ := HC'.out k (by omega)
      cases e'
      have f0 := (hbq.cell (World.block_lt_of_cell? _ _ c0)).trans c0
      have g0 := (hbq.cell (World.block_lt_of_cell? _ _ d0)).trans d0
      have HNO := hid (fun h => edB_no (s := s) hlt h)
      have HYES := hid (show ltN (l[k]'(by omega)).name l[k + 1].name → ltN (l[k]'(by omega)).name l[k + 1].name from id)
      obtain ⟨x, hx⟩ : ∃ x, l[k + 1].name = x := ⟨_, rfl⟩
      obtain ⟨y, hy⟩ : ∃ y, (l[k]'(by omega)).name = y := ⟨_, rfl⟩
      have HX := hid hx
      have HY := hid hy
      rw [hx] at f0 HNO
      rw [hy] at g0 HNO
      have q1 : (k : Int) + 1 - 1 = (k : Int) := by omega
      have q2 : IntKind.i64.wrap ((k : Int) + 1 - 1) = (k : Int) := by rw [IntWalk.i64_in _ (by omega)]; omega
      have q7 : IntKind.i64.wrap (k : Int) = (k : Int) := by rw [IntWalk.i64_in _ (by omega)]
      have q3 : ((k : Int) + 1).toNat = k + 1 := by omega
      have q4 : (0 : Int) ≤ (k : Int) + 1 := by omega
      have q5 : (k : Int) + 1 < (l.length : Int) := by omega
      have q6 : (k : Int) < (l.length : Int) := by omega
      clear c0 d0 hx hy hw
      by_cases h2 : ltN y x
      · have q0 := ble' h2
        have H2 := hid h2
        clear h2 HNO
        go_wp2
        go_quiet (fail)
        go_wp2
        go_roundw
        case rel =>
          refine ⟨k + 1, _, by go_num, by rw [HW.out, World.drewN_drewN], Or.inl (by omega), fun j hj hjk => ?_⟩
          by_cases e : j = k
          · subst e; rw [HX.out, HY.out]; exact H2.out
          · exact HR.out j hj (by omega)
        case measure => simp [intOf]; omega
      · have q0 := ble h2
        have HF := hid (HNO.out h2)
        clear h2 HNO
        go_wp2
        go_quiet (fail)
        go_wp2
        go_ret
        exact ⟨ret_bool HF.out.symm, hbq.trans ((below_self_drewN _ _).mono hbq.size)⟩
    · have HF : Hid (edB s l = libB s l) := hid (edB_asc (asc_adj fun i hi => HR.out i hi (by omega)))
      have HV := hid (ref6_Valid _ _ s l wr (HS.out.below hbq) (HL.out.below hbq) hs1 hl1)
      clear hw
      go_wp2_with fail
      refine HV.out.mono ?_
      rintro e w2 ⟨rfl, hb2⟩
      go_wp2
      go_ret
      exact ⟨ret_bool HF.out.symm, hbq.trans (hb2.mono hbq.size)⟩
def sg1 : Sg := [(⟨#[67]⟩, 2)]
theorem sign9 (w : World) (T : TypeId) : SignAt (w.alloc (.cells #[.string ⟨#[67]⟩, .int .i64 2] T)) (.slice (some ⟨w.heap.size, 0, none⟩) 1 1) sg1 := by
  have r1 := World.ownsRow_lit (base := 0) (e := T) (size := 2) w #[.string ⟨#[67]⟩, .int .i64 2] 1 (by omega) (by simp [maxLen]) rfl
  refine ⟨RowK.of_owns r1 (by simp [sg1]), ?_⟩
  intro x hx
  simp [sg1] at hx
  subst hx; simp [ByteArray.size]
end Go.Proofs.YtlbjbmpkaniojaaGreat
