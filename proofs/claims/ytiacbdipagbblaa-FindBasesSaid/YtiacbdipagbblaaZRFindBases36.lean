/-
  WHAT IT HOLDS: contract of IsBase of the reference of layer 5. Conditions: the arguments read as data; the shelf and the sign are small.
-/
import Derived.Deep.RegionHeld3
import Derived.Test.YtiacbdipagbblaaZRFindBases33
import Derived.Test.YtiacbdipagbblaaZRFindBases34
namespace Go.Proofs.Ytiacbdipagbblaa
open Go Go.RowKit Go.Maps
def anyM (s : Sg) (l : List (List Int)) (b : List Int) (t : List Int) (k : Nat) : Bool := (b.take k).any fun x => instB s (l.getD x.toNat []) t
theorem anyM_succ (s : Sg) (l : List (List Int)) (b : List Int) (t : List Int) {k : Nat} (h : k < b.length) : anyM s l b t (k + 1) = (anyM s l b t k || instB s (l.getD b[k].toNat []) t) := by
  unfold anyM; rw [List.take_succ_eq_append_getElem h, List.any_append]; simp
theorem anyM_all (s : Sg) (l : List (List Int)) (b : List Int) (t : List Int) : anyM s l b t b.length = anyI s l b t := by
  unfold anyM anyI; rw [List.take_of_length_le (Nat.le_refl _)]
set_option maxHeartbeats 4000000 in
set_option maxRecDepth 100000 in
theorem ref5_IsBase (vs vl vb : Value) (s : Sg) (l : List (List Int)) (b : List Int) (w : World) (hs : SignAt w vs s) (hv : Terms w vl l) (hb : Ints w vb b) (hs1 : s.length ≤ 1000) (hl1 : l.length ≤ 1000) (hb1 : b.length ≤ 1000) :
    Calls Try.prog 35 #[vs, vl, vb] w fun e w' => e = .returned (.bool (isbB s l b)) ∧ Below w.heap.size w w' := by
  have HVV := hid (ref5_Valid vs vl s l w hs hv)
  obtain ⟨la, lcap, hle, -, hl2, -, HC⟩ := hv.open
  obtain ⟨ba, bcap, hbe, hbl, hbl2, -, HBC⟩ := hb.open
  subst hle hbe
  have HC' := hid HC
  have HBC' := hid HBC
  have HS := hid hs
  clear HC HBC hs hv hb
  cases h1 : shelfB s l
  · have HA : Hid (isbB s l b = false) := hid (by unfold isbB; rw [h1]; rfl)
    simp only [h1] at HVV
    clear h1
    go_enter Try.func35, Try.ntmps35
    go_wp2_with fail
    refine HVV.out.mono ?_
    rintro e w1 ⟨rfl, n1, rfl⟩
    go_wp2
    go_ret
    exact ⟨ret_bool HA.out.symm, below_self_drewN w n1⟩
  · simp only [h1] at HVV
    have HSH := hid h1
    have hl0 : 1 ≤ l.length := (shelfB_facts h1).2.1
    clear h1
    obtain ⟨n, hn⟩ : ∃ n, l.length = n := ⟨_, rfl⟩
    have HN := hid hn
    obtain ⟨m, hm⟩ : ∃ m, b.length = m := ⟨_, rfl⟩
    have HM := hid hm
    have HWN := hid (fun (z : Int) (X : World) => ref5_within z 0 ((l.length : Int) - 1) X)
    simp only [hn] at hl0 hl1 hl2 HVV HWN ⊢
    simp only [hm] at hbl hbl2 hb1 HVV ⊢
    have hsub : IntKind.i64.wrap ((n : Int) - 1) = (n : Int) - 1 := IntWalk.i64_in _ ⟨by omega, by omega⟩
    clear hn hm
    go_enter Try.func35, Try.ntmps35
    go_wp2_with fail
    refine HVV.out.mono ?_
    rintro e w1 ⟨rfl, n1, rfl⟩
    go_wp2
    go_loopw [7] (fun kv wr => ∃ k q : Nat, k ≤ m ∧ kv = .int .i64 k ∧ wr = w.drewN q ∧ ∀ j, j < k → idxB n b j = true) (fun kv _ => m - (intOf kv).toNat)
    case atStart => exact ⟨0, n1, by omega, rfl, rfl, fun j hj => by omega⟩
    case round =>
      obtain ⟨k, q, hk, rfl, rfl, hrel⟩ := hrel
      have HR := hid hrel
      clear hrel
      by_cases hlt : k < m
      · have hkb : k < b.length := by rw [HM.out]; exact hlt
        obtain ⟨bb, oo, rfl, ck⟩ := HBC'.out k hkb
        have hix := idxB_at (n := n) hkb
        obtain ⟨x, hx⟩ : ∃ x, b[k] = x := ⟨_, rfl⟩
        rw [hx] at hix ck
        clear hx
        have y0 : (0 : Int) ≤ (k : Int) := by omega
        have y1 : (k : Int) < (m : Int) := by omega
        cases hin : inB x 0 ((n : Int) - 1)
        · have HNO : Hid (isbB s l b = false) := hid (isbB_no hkb (by rw [HN.out, hix, hin]; rfl))
          have HW1 := hid (fun X => HWN.out x X)
          simp only [hin] at HW1
          clear hin hix
          go_wp2
          go_quiet ((go_at_call 67; exact (HW1.out _).mono (by rintro e w' ⟨h1, h2⟩; exact ⟨h1, _, h2.symm⟩)))
          go_wp2
          go_ret
          exact ⟨ret_bool HNO.out.symm, by first | exact below_drewN (below_self_drewN w _) _ | exact below_self_drewN w _⟩
        · rw [hin, Bool.true_and] at hix
          have HW1 := hid (fun X => HWN.out x X)
          simp only [hin] at HW1
          clear hin
          by_cases hk0 : k = 0
          · subst hk0
            rw [Nat.add_zero] at ck
            have HIX : Hid (idxB n b 0 = true) := hid (by rw [hix]; rfl)
            clear hix
            go_wp2
            go_quiet ((go_at_call 67; exact (HW1.out _).mono (by rintro e w' ⟨h1, h2⟩; exact ⟨h1, _, h2.symm⟩)))
            go_wp2
            go_roundw
            case rel => exact ⟨1, _, by omega, rfl, (by first | rfl | exact World.drewN_drewN _ _ _), fun j hj => by rw [show j = 0 by omega]; exact HIX.out⟩
            case measure => simp [intOf]; omega
          · obtain ⟨j, rfl⟩ : ∃ j, k = j + 1 := ⟨k - 1, by omega⟩
            have hjb : j < b.length := by omega
            obtain ⟨bb', oo', he, cj⟩ := HBC'.out j hjb
            obtain ⟨rfl, rfl⟩ : bb = bb' ∧ oo = oo' := by simpa using he
            have e1 : b.getD (j + 1 - 1) 0 = b[j] := by simp [List.getD, hjb]
            obtain ⟨y, hy⟩ : ∃ y, b[j] = y := ⟨_, rfl⟩
            rw [e1, hy] at hix
            rw [hy] at cj
            have s1 : IntKind.i64.wrap ((j : Int) + 1 - 1) = (j : Int) := by rw [show (j : Int) + 1 - 1 = (j : Int) by omega]; exact IntWalk.i64_in _ ⟨by omega, by omega⟩
            have s2 : (0 : Int) ≤ (j : Int) := by omega
            have s3 : (j : Int) < (m : Int) := by omega
            have s4 : decide ((0 : Int) < (j : Int) + 1) = true := by rw [decide_eq_true_eq]; omega
            clear e1 hy he
            by_cases hxy : y < x
            · have HIX : Hid (idxB n b (j + 1) = true) := hid (by rw [hix]; simp [hxy])
              have hle : decide (x ≤ y) = false := by simpa using hxy
              clear hix hk0
              go_wp2
              go_quiet ((go_at_call 67; exact (HW1.out _).mono (by rintro e w' ⟨h1, h2⟩; exact ⟨h1, _, h2.symm⟩)))
              go_wp2
              go_roundw
              case rel => exact ⟨j + 1 + 1, _, by omega, by go_num, (by first | rfl | exact World.drewN_drewN _ _ _), fun i hi => by
                by_cases e : i = j + 1
                · rw [e]; exact HIX.out
                · exact HR.out i (by omega)⟩
              case measure => simp [intOf]; omega
            · have HNO : Hid (isbB s l b = false) := hid (isbB_no hkb (by rw [HN.out, hix]; simp [hxy]))
              have hle : decide (x ≤ y) = true := by simpa using hxy
              clear hix hk0
              go_wp2
              go_quiet ((go_at_call 67; exact (HW1.out _).mono (by rintro e w' ⟨h1, h2⟩; exact ⟨h1, _, h2.symm⟩)))
              go_wp2
              go_ret
              exact ⟨ret_bool HNO.out.symm, by first | exact below_drewN (below_self_drewN w _) _ | exact below_self_drewN w _⟩
      · obtain rfl : m = k := by omega
        have hidx : (List.range b.length).all (idxB l.length b) = true := by
          rw [List.all_eq_true]
          intro j hj
          rw [HN.out]
          exact HR.out j (by have := HM.out; have := List.mem_range.1 hj; omega)
        have HF := hid (isbB_form HSH.out hidx)
        have hrb : ∀ x ∈ b, 0 ≤ x ∧ x < (n : Int) := by
          intro x hx
          obtain ⟨j, hj, rfl⟩ := List.getElem_of_mem hx
          have h1 := HR.out j (by have := HM.out; omega)
          rw [idxB_at hj, Bool.and_eq_true, inB_true] at h1
          omega
        have HRB := hid hrb
        clear hidx hrb hsub
        go_wp2
        go_loopw [8] (fun kv wr => ∃ i : Nat, i ≤ n ∧ kv = .int .i64 i ∧ Below w.heap.size w wr ∧ ∀ j (h : j < l.length), j < i → anyI s l b l[j] = true) (fun kv _ => n - (intOf kv).toNat)
        case atStart => exact ⟨0, by omega, rfl, below_self_drewN w q, fun j _ hj => by omega⟩
        case round =>
          obtain ⟨i, hi, rfl, hb, hrel⟩ := hrel
          have HA := hid hrel
          clear hrel
          have HB := hid hb
          clear hb
          by_cases hlti : i < n
          · have hil : i < l.length := by rw [HN.out]; exact hlti
            go_wp2
            go_loopw [9, 10] (fun fv kv wr => ∃ k : Nat, k ≤ m ∧ kv = .int .i64 k ∧ fv = .bool (anyM s l b l[i] k) ∧ Below w.heap.size w wr) (fun _ kv _ => m - (intOf kv).toNat)
            case atStart => exact ⟨0, by omega, rfl, rfl, HB.out⟩
            case round =>
              obtain ⟨k, hk, rfl, rfl, hb⟩ := hrel
              have hsz := hb.size
              by_cases hlt : k < m
              · have hkb : k < b.length := by rw [HM.out]; exact hlt
                have hsu := anyM_succ s l b l[i] hkb
                cases hc : anyM s l b l[i] k
                · obtain ⟨bb, oo, rfl, ck0⟩ := HBC'.out k hkb
                  have hr := HRB.out b[k] (List.getElem_mem hkb)
                  obtain ⟨qx, hqx⟩ := Int.eq_ofNat_of_zero_le hr.1
                  have hql : qx < l.length := by have := HN.out; omega
                  rw [hqx] at ck0 hr
                  rw [hc, hqx, Int.toNat_natCast, show l.getD qx [] = l[qx] by simp [List.getD, hql], Bool.false_or] at hsu
                  obtain ⟨lb, lo, xq, rfl, c20, hxq⟩ := HC'.out qx hql
                  obtain ⟨lb', lo', xi, hae, c30, hxi⟩ := HC'.out i hil
                  obtain ⟨rfl, rfl⟩ : lb = lb' ∧ lo = lo' := by simpa using hae
                  have c1 := (hb.cell (World.block_lt_of_cell? _ _ ck0)).trans ck0
                  have c2 := (hb.cell (World.block_lt_of_cell? _ _ c20)).trans c20
                  have c3 := (hb.cell (World.block_lt_of_cell? _ _ c30)).trans c30
                  have HI := hid (ref2_Instance vs xq xi s l[qx] l[i] (wr.drewN 1) ((HS.out.below hb).drewN 1) ((hxq.below hb).drewN 1) ((hxi.below hb).drewN 1) hs1)
                  obtain ⟨z, hz⟩ : ∃ z, instB s l[qx] l[i] = z := ⟨_, rfl⟩
                  rw [hz] at HI hsu
                  have HSU := hid hsu
                  have HBr := hid hb
                  have y0 : (0 : Int) ≤ (k : Int) := by omega
                  have y1 : (k : Int) < (m : Int) := by omega
                  have y2 : (0 : Int) ≤ (qx : Int) := by omega
                  have y3 : (qx : Int) < (n : Int) := by omega
                  have y4 : (0 : Int) ≤ (i : Int) := by omega
                  have y5 : (i : Int) < (n : Int) := by omega
                  clear hsu hz hc hae hxq hxi ck0 c20 c30 hqx hb
                  go_wp2
                  go_region_held3 (fun w' => w'.cell? ⟨bb, oo + k, none⟩ = some (.int .i64 qx) ∧ w'.cell? ⟨lb, lo + qx, none⟩ = some xq ∧ w'.cell? ⟨lb, lo + i, none⟩ = some xi)
                    (first | exact ⟨by assumption, by assumption, by assumption⟩ | go_keep)
                    (first
                    | (go_at_call 92; refine HI.out.mono ?_; rintro e w3 ⟨rfl, hb3'⟩
                       have hb3 : Below wr.heap.size wr w3 := (below_self_drewN wr 1).trans hb3'
                       have d1 := (hb3.cell (World.block_lt_of_cell? _ _ c1)).trans c1
                       have d2 := (hb3.cell (World.block_lt_of_cell? _ _ c2)).trans c2
                       have d3 := (hb3.cell (World.block_lt_of_cell? _ _ c3)).trans c3))
                  go_wp2
                  go_roundw
                  case rel => exact ⟨k + 1, by omega, by go_num, by rw [HSU.out], HBr.out.trans (hb3.mono hsz)⟩
                  case measure => simp [intOf]; omega
                · have HSU : Hid (anyM s l b l[i] (k + 1) = true) := hid (by rw [hsu, hc]; rfl)
                  have HBr := hid hb
                  clear hsu hc hb
                  go_wp2
                  go_quiet (fail)
                  go_wp2
                  go_roundw
                  case rel => exact ⟨k + 1, by omega, by go_num, by rw [HSU.out], below_drewN HBr.out _⟩
                  case measure => simp [intOf]; omega
              · obtain rfl : m = k := by omega
                have hall : anyM s l b l[i] m = anyI s l b l[i] := by rw [← anyM_all, HM.out]
                rw [hall]
                have HBr := hid hb
                clear hb
                cases hc : anyI s l b l[i]
                · have HNO : Hid (isbB s l b = false) := hid (by
                    rw [HF.out, List.all_eq_false]
                    exact ⟨l[i], List.getElem_mem hil, by rw [hc]; simp⟩)
                  clear hall hc
                  go_wp2
                  go_ret
                  exact ⟨ret_bool HNO.out.symm, HBr.out⟩
                · have HC1 := hid hc
                  clear hall hc
                  go_wp2
                  go_roundw
                  case rel => exact ⟨i + 1, by omega, by go_num, HBr.out, fun j hj hji => by
                    by_cases e : j = i
                    · subst e; exact HC1.out
                    · exact HA.out j hj (by omega)⟩
                  case measure => simp [intOf]; omega
          · obtain rfl : n = i := by omega
            have HYES : Hid (isbB s l b = true) := hid (by
              rw [HF.out, List.all_eq_true]
              intro t ht
              obtain ⟨j, hj, rfl⟩ := List.getElem_of_mem ht
              exact HA.out j hj (by have := HN.out; omega))
            go_wp2
            go_ret
            exact ⟨ret_bool HYES.out.symm, HB.out⟩
end Go.Proofs.Ytiacbdipagbblaa
