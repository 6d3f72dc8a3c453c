/-
  WHAT IT HOLDS: contracts of open, named, Find of package deps, and how an opened library lies. Conditions: the arguments read as data; small signs, small libraries.
  WHAT IT HOLDS: contracts of Has, Index, ValidEntry, Valid of the reference of layer 6, of ValidProof of the reference of layer 4 and IsCanonical of the reference of layer 1. Conditions: the arguments read as data; small signs, small libraries.
  WHAT IT HOLDS: contracts of ValidEntry and Valid of the reference of layer 6. Conditions: the arguments read as data; small signs, small libraries.
  WHAT IT HOLDS: the contract of Valid of the reference of layer 6. Conditions: the arguments read as data; small signs, small libraries.
-/
import Derived.Deep.RegionHeld3
import Derived.BigQuiet
import Derived.Test.YtmpjaakkjhmpmaaGreatDoorZRShortCites21
import Derived.Test.YtmpjaakkjhmpmaaGreatDoorZRShortCites16
namespace Go.Proofs.YtmpjaakkjhmpmaaGreatDoor
open Go Go.RowKit Go.Maps
abbrev LMap (w : World) (b n : Nat) (m : Nm → Option Nat) : Prop := MapK Tryz.prog 9 Value.string (fun i : Nat => Value.int .i64 i) w b n m
/-- an opened library: its sign, its entries, and where each name is. -/
def LibAt (w : World) (p : Nat) (vs vl : Value) (l : List En) : Prop :=
  w.cell? ⟨p, 0, none⟩ = some vs ∧ w.cell? ⟨p, 1, none⟩ = some vl ∧ ∃ b, w.cell? ⟨p, 2, none⟩ = some (.map (some b)) ∧ LMap w b l.length (idxN l)
theorem LibAt.below {w w' : World} {p : Nat} {vs vl : Value} {l : List En} (h : LibAt w p vs vl l) (hb : Below w.heap.size w w') : LibAt w' p vs vl l := by
  obtain ⟨c0, c1, b, c2, hm⟩ := h
  exact ⟨(hb.cell (World.block_lt_of_cell? _ _ c0)).trans c0, (hb.cell (World.block_lt_of_cell? _ _ c1)).trans c1, b, (hb.cell (World.block_lt_of_cell? _ _ c2)).trans c2, hm.belowS hb⟩
theorem zero_intD (w : World) : (zeroValue 3).run Tryz.prog w = .ok (.int .i64 0) w := by kernel_rfl
end Go.Proofs.YtmpjaakkjhmpmaaGreatDoor
namespace Go.Proofs.YtmpjaakkjhmpmaaGreatDoor
open Go Go.RowKit Go.Maps
theorem TxtsAt.take {w : World} {a : Option Addr} {n cap : Nat} {l : List Nm} (h : TxtsAt w (.slice a n cap) l) (k : Nat) (hk : k ≤ l.length) : TxtsAt w (.slice a k cap) (l.take k) := by
  obtain ⟨⟨h1, a', cap', h2, h3, h4, h5, h6⟩, hs⟩ := h
  simp only [Value.slice.injEq] at h2
  obtain ⟨rfl, rfl, rfl⟩ := h2
  have hlk : (l.take k).length = k := by rw [List.length_take]; omega
  refine ⟨⟨by simp, a, cap, by rw [hlk], by omega, by omega, h5, fun j u hj => ?_⟩, fun x hx => hs x (List.mem_of_mem_take hx)⟩
  refine h6 j u ?_
  rw [List.map_take, List.getElem?_take] at hj
  split at hj
  · exact hj
  · cases hj
theorem ref4_within (n lo hi : Int) (w : World) :
    Calls Tryz.prog 141 #[.int .i64 n, .int .i64 lo, .int .i64 hi] w fun e w' => e = .returned (.bool (inB n lo hi)) ∧ w = w' := by
  unfold inB
  by_cases h1 : lo ≤ n
  · by_cases h2 : n ≤ hi
    · go_enter Tryz.func141, Tryz.ntmps141
      go_wp2
      go_ret
      exact ⟨by simp [h1, h2], rfl⟩
    · go_enter Tryz.func141, Tryz.ntmps141
      go_wp2
      go_ret
      exact ⟨by simp [h1, h2], rfl⟩
  · go_enter Tryz.func141, Tryz.ntmps141
    go_wp2
    go_ret
    exact ⟨ret_bool (by simp; omega), rfl⟩
theorem ref4_isCount (n : Int) (w : World) :
    Calls Tryz.prog 139 #[.int .i64 n] w fun e w' => e = .returned (.bool (inB n 0 60)) ∧ w = w' := by
  go_enter Tryz.func139, Tryz.ntmps139
  go_wp2_with (go_at_call 141; refine (ref4_within _ _ _ _).mono ?_; rintro e w' ⟨rfl, rfl⟩)
  go_ret
  exact ⟨rfl, rfl⟩
set_option maxHeartbeats 1000000 in
theorem ref4_stepRight (g k : Int) (x : St) (w : World) (hg : 0 ≤ g ∧ g ≤ 140737488355328) (hk : 0 ≤ k ∧ k ≤ 140737488355328) :
    Calls Tryz.prog 142 #[.int .i64 g, .agg #[.int .i64 x.1, .int .i64 x.2.1, .int .i64 x.2.2], .int .i64 k] w fun e w' => e = .returned (.bool (rightB g k x)) ∧ Below w.heap.size w w' := by
  obtain ⟨x0, x1, x2⟩ := x
  have hw1 : IntKind.i64.wrap (g - 1) = g - 1 := by rw [IntWalk.i64_in _ (by omega)]
  have hw2 : IntKind.i64.wrap (k - 1) = k - 1 := by rw [IntWalk.i64_in _ (by omega)]
  have hb1 : Below w.heap.size w (w.alloc (.cells #[.int .i64 x0, .int .i64 x1, .int .i64 x2] 57)) := (Below.refl _ _).alloc (Nat.le_refl _) _
  by_cases h1 : x0 = 1
  · subst h1
    cases hi : inB x1 0 (g - 1)
    · have hi' := hi
      go_enter Tryz.func142, Tryz.ntmps142
      go_wp2_with (go_at_call 141; refine (ref4_within _ _ _ _).mono ?_; rintro e w' ⟨rfl, rfl⟩)
      go_ret
      exact ⟨ret_bool (by simp [rightB, hi']), hb1⟩
    · have hi' := hi
      by_cases h2 : x2 = 0
      · subst h2
        go_enter Tryz.func142, Tryz.ntmps142
        go_wp2_with (go_at_call 141; refine (ref4_within _ _ _ _).mono ?_; rintro e w' ⟨rfl, rfl⟩)
        go_ret
        exact ⟨ret_bool (by simp [rightB, hi']), hb1⟩
      · have n2 : (x2 == 0) = false := by simpa using h2
        go_enter Tryz.func142, Tryz.ntmps142
        go_wp2_with (go_at_call 141; refine (ref4_within _ _ _ _).mono ?_; rintro e w' ⟨rfl, rfl⟩)
        go_ret
        exact ⟨ret_bool (by simp [rightB, hi', h2]), hb1⟩
  · have n1 : (x0 == 1) = false := by simpa using h1
    by_cases h3 : x0 = 2
    · subst h3
      cases hi : inB x1 0 (k - 1)
      · have hi' := hi
        go_enter Tryz.func142, Tryz.ntmps142
        go_wp2_with (go_at_call 141; refine (ref4_within _ _ _ _).mono ?_; rintro e w' ⟨rfl, rfl⟩)
        go_ret
        exact ⟨ret_bool (by simp [rightB, hi']), hb1⟩
      · have hi' := hi
        cases hj : inB x2 0 (k - 1)
        · have hj' := hj
          go_enter Tryz.func142, Tryz.ntmps142
          go_wp2_with (go_at_call 141; refine (ref4_within _ _ _ _).mono ?_; rintro e w' ⟨rfl, rfl⟩)
          go_ret
          exact ⟨ret_bool (by simp [rightB, hi', hj']), hb1⟩
        · have hj' := hj
          go_enter Tryz.func142, Tryz.ntmps142
          go_wp2_with (go_at_call 141; refine (ref4_within _ _ _ _).mono ?_; rintro e w' ⟨rfl, rfl⟩)
          go_ret
          exact ⟨ret_bool (by simp [rightB, hi', hj']), hb1⟩
    · have n3 : (x0 == 2) = false := by simpa using h3
      go_enter Tryz.func142, Tryz.ntmps142
      go_wp2_with (go_at_call 141; refine (ref4_within _ _ _ _).mono ?_; rintro e w' ⟨rfl, rfl⟩)
      go_ret
      exact ⟨ret_bool (by simp [rightB, h1, h3]), hb1⟩
set_option maxHeartbeats 2000000 in
theorem ref4_ValidProof (g : Int) (v : Value) (l : List St) (w : World) (hg : 0 ≤ g ∧ g ≤ 60) (hv : StepsAt w v l) :
    Calls Tryz.prog 100 #[.int .i64 g, v] w fun e w' => e = .returned (.bool (proofB g l)) ∧ Below w.heap.size w w' := by
  obtain ⟨a, cap, rfl, h1, h2, -, HC⟩ := hv.open
  have HC' := hid HC
  clear HC hv
  have hi : inB g 0 60 = true := inB_true.2 ⟨by omega, by omega⟩
  cases hl : inB l.length 1 60
  · have HF : Hid (proofB g l = false) := hid (by unfold proofB; rw [hl, Bool.and_false])
    go_enter Tryz.func100, Tryz.ntmps100
    go_wp2_with (first | (go_at_call 139; refine (ref4_isCount _ _).mono ?_; rintro e w' ⟨rfl, rfl⟩; rw [hi]) | (go_at_call 141; refine (ref4_within _ _ _ _).mono ?_; rintro e w' ⟨rfl, rfl⟩; rw [hl]))
    go_ret
    exact ⟨ret_bool HF.out.symm, Below.refl _ _⟩
  have HL := hid hl
  go_enter Tryz.func100, Tryz.ntmps100
  go_wp2_with (first | (go_at_call 139; refine (ref4_isCount _ _).mono ?_; rintro e w' ⟨rfl, rfl⟩; rw [hi]) | (go_at_call 141; refine (ref4_within _ _ _ _).mono ?_; rintro e w' ⟨rfl, rfl⟩; rw [hl]))
  clear hl
  go_loopw [5] (fun kv wr => ∃ k : Nat, k ≤ l.length ∧ kv = .int .i64 k ∧ Below w.heap.size w wr ∧ ∀ j (hj : j < l.length), j < k → rightB g j l[j] = true) (fun kv _ => l.length - (intOf kv).toNat)
  case atStart => exact ⟨0, by omega, rfl, Below.refl _ _, by simp⟩
  case round =>
    obtain ⟨k, hk, rfl, hb, hrel⟩ := hrel
    have HR := hid hrel
    have hsz := hb.size
    clear hrel
    by_cases hlt : k < l.length
    · obtain ⟨cb, co, rfl, c10, c20, c30⟩ := HC'.out k hlt
      have c1' := (hb.cell (World.block_lt_of_cell? _ _ c10)).trans c10
      have c2' := (hb.cell (World.block_lt_of_cell? _ _ c20)).trans c20
      have c3' := (hb.cell (World.block_lt_of_cell? _ _ c30)).trans c30
      have HNO := hid (fun hn => proofB_no (g := g) hlt hn)
      have HYES := hid (fun (h : rightB g k l[k] = true) => h)
      obtain ⟨x, hx⟩ : ∃ x, l[k] = x := ⟨_, rfl⟩
      rw [hx] at c1' c2' c3' HNO HYES
      have HX := hid hx
      obtain ⟨x0, x1, x2⟩ := x
      simp only at c1' c2' c3'
      clear c10 c20 c30 hx
      have HRT := hid (ref4_stepRight g k (x0, x1, x2) wr (by omega) (by omega))
      have HBS := hid hb
      cases hr : rightB g k (x0, x1, x2)
      · rw [hr] at HRT
        have HF := hid (HNO.out hr)
        clear hr hb
        go_wp2_with (go_at_call 142; refine HRT.out.mono ?_; rintro e w5 ⟨rfl, hb5⟩)
        go_ret
        exact ⟨ret_bool HF.out.symm, HBS.out.trans (hb5.mono HBS.out.size)⟩
      · rw [hr] at HRT
        have HRK := hid (HYES.out hr)
        clear hr hb
        go_wp2_with (go_at_call 142; refine HRT.out.mono ?_; rintro e w5 ⟨rfl, hb5⟩)
        go_roundw
        case rel =>
          refine ⟨k + 1, by omega, by go_num, HBS.out.trans (hb5.mono HBS.out.size), fun q hq hqk => ?_⟩
          by_cases hqq : q = k
          · subst hqq
            rw [HX.out]; exact HRK.out
          · exact HR.out q hq (by omega)
        case measure => simp [intOf]; omega
    · have hkl : k = l.length := by omega
      have HA : Hid (proofB g l = true) := hid (by rw [proofB_all fun q hq => HR.out q hq (by omega)]; exact HL.out)
      go_wp2
      go_ret
      exact ⟨ret_bool HA.out.symm, hb⟩
end Go.Proofs.YtmpjaakkjhmpmaaGreatDoor
namespace Go.Proofs.YtmpjaakkjhmpmaaGreatDoor
open Go Go.RowKit Go.Maps
end Go.Proofs.YtmpjaakkjhmpmaaGreatDoor
namespace Go.Proofs.YtmpjaakkjhmpmaaGreatDoor
open Go Go.RowKit Go.Maps
end Go.Proofs.YtmpjaakkjhmpmaaGreatDoor
