/-
  WHAT IT HOLDS: the walk of the law FindBases.
-/
import Derived.Test.YtiacbdipagbblaaZRFindBases35
import Derived.Test.YtiacbdipagbblaaZRFindBases36
import Derived.Test.YtiacbdipagbblaaZRFindBases38
import Derived.Test.YtiacbdipagbblaaZRFindBases46
import Derived.Test.YtiacbdipagbblaaZRFindBases34
import Derived.Test.YtiacbdipagbblaaZRFindBases25
import Derived.Test.YtiacbdipagbblaaZRFindBases20
namespace Go.Proofs.Ytiacbdipagbblaa
open Go Go.RowKit Go.Maps
def likeL (s : Sg) (l : List (List Int)) (q : List Int) : List Int := chosenL 0 (l.map fun t => alikeB s t q)
def thereM (b c : List Int) (k : Nat) : Bool := (b.take k).any fun x => decide (x ∈ c)
theorem thereM_succ (b c : List Int) {k : Nat} (h : k < b.length) : thereM b c (k + 1) = (thereM b c k || decide (b[k] ∈ c)) := by
  unfold thereM; rw [List.take_succ_eq_append_getElem h, List.any_append]; simp
theorem there_all {s : Sg} {l : List (List Int)} {b : List Int} {q : Nat} (h : isbB s l b = true) (hq : q < l.length) (hb : basOne s l q = true) : thereM b (likeL s l l[q]) b.length = true := by
  obtain ⟨x, hx, k, rfl, hk, ha⟩ := bas_there h hq hb
  unfold thereM
  rw [List.take_of_length_le (Nat.le_refl _), List.any_eq_true]
  refine ⟨_, hx, ?_⟩
  rw [decide_eq_true_eq]
  unfold likeL
  rw [chosenL_memB]
  refine ⟨Nat.zero_le _, ?_⟩
  simp only [Nat.sub_zero, List.getElem?_map, List.getElem?_eq_getElem hk, Option.map_some, Option.some.injEq]
  simpa [List.getD, hk, hq] using ha
theorem overB_base {s : Sg} {l : List (List Int)} {q : Nat} (hs : shelfB s l = true) (hq : q < l.length) (hb : basOne s l q = true) : overB s l q = ([], 0) := by
  have hin : inB (q : Int) 0 ((l.length : Int) - 1) = true := inB_true.2 ⟨by omega, by omega⟩
  unfold overB
  rw [hs, if_pos rfl, hin, if_pos rfl, Int.toNat_natCast, over_none hb]
theorem searchB_ok {s : Sg} {l : List (List Int)} {q : List Int} (bs : List Bool) (h1 : shelfB s l = true) (h2 : termB s q = true) : searchB s l q bs = (chosenL 0 bs, 0) := by unfold searchB; rw [h1, h2]; rfl
set_option maxHeartbeats 4000000 in
set_option maxRecDepth 100000 in
theorem walk_FindBases (vs vl vb : Value) (s : Sg) (l : List (List Int)) (b : List Int) (w : World) (hs : SignAt w vs s) (hl : Terms w vl l) (hb : Ints w vb b) :
    Calls Try.prog 7 #[vs, vl, vb] w fun e w' => e = .returned (.bool true) ∧ Below w.heap.size w w' := by
  have HF := hid (law5_Few vs vl s l 70 w hs hl)
  have HS := hid hs
  have HL := hid hl
  have HBI := hid hb
  obtain ⟨la, lcap, hle, -, hl2, -, HC⟩ := hl.open
  obtain ⟨ba, bcap, hbe, hbl1, hbl2, -, HBC⟩ := hb.open
  subst hle hbe
  have HC' := hid HC
  have HBC' := hid HBC
  have HW := hid (fun (X : World) (hX : Below w.heap.size w X) => chainL hX (law5_awake X))
  clear hs hl hb HC HBC
  have hws := Below.refl w.heap.size w
  have HB := hid hws
  clear hws
  cases hf : (decide ((l.length : Int) ≤ 70) && smallB s l)
  · rw [hf] at HF
    clear hf
    go_enter Try.func7, Try.ntmps7
    go_wp2_with fail
    refine HF.out.mono ?_
    rintro e w1 ⟨rfl, rfl⟩
    go_wp2_with fail
    refine (HW.out _ HB.out).mono ?_
    rintro e w2 ⟨rfl, hb3⟩
    go_wp2
    go_ret
    exact ⟨rfl, hb3⟩
  · have hsm : s.length ≤ 40 ∧ l.length ≤ 70 := by
      simp only [Bool.and_eq_true, decide_eq_true_eq, smallB] at hf
      omega
    rw [hf] at HF
    clear hf
    by_cases h100 : 100 < b.length
    · go_enter Try.func7, Try.ntmps7
      go_wp2_with fail
      refine HF.out.mono ?_
      rintro e w1 ⟨rfl, rfl⟩
      go_wp2_with fail
      refine (HW.out _ HB.out).mono ?_
      rintro e w2 ⟨rfl, hb3⟩
      go_wp2
      go_ret
      exact ⟨rfl, hb3⟩
    · have hb100 : b.length ≤ 100 := by omega
      obtain ⟨hs40, hl70⟩ := hsm
      clear h100
      have HBA := hid (fun (X : World) (hX : Below w.heap.size w X) => find_Base vs _ s l X (HS.out.below hX) (HL.out.below hX) (by omega) (by omega))
      have HRB := hid (fun (X : World) (hX : Below w.heap.size w X) => ref5_Base vs _ s l X (HS.out.below hX) (HL.out.below hX) (by omega) (by omega))
      have HIS := hid (fun (X : World) (hX : Below w.heap.size w X) (u : Value) (c : List Int) (hu : Ints X u c) => find_IsBase vs _ u s l c X (HS.out.below hX) (HL.out.below hX) hu (by omega) (by omega))
      have HRI := hid (fun (X : World) (hX : Below w.heap.size w X) => ref5_IsBase vs _ _ s l b X (HS.out.below hX) (HL.out.below hX) (HBI.out.below hX) (by omega) (by omega) (by omega))
      have HOV := hid (fun (X : World) (hX : Below w.heap.size w X) (q : Nat) => find_Over vs _ s l q X (HS.out.below hX) (HL.out.below hX) (by omega) (by omega))
      have HAL := hid (fun (X : World) (hX : Below w.heap.size w X) (u : Value) (q : List Int) (hu : Ints X u q) => find_Alike vs _ u s l q (fun t => alikeB s t q) (fun _ => rfl) X (HS.out.below hX) (HL.out.below hX) hu (by omega) (by omega))
      obtain ⟨x, hx⟩ : ∃ x, basQ s l = x := ⟨_, rfl⟩
      have HX := hid hx
      obtain ⟨x1, x2⟩ := x
      simp only [hx] at HBA HRB
      obtain ⟨ok, hok⟩ : ∃ ok, isbB s l b = ok := ⟨_, rfl⟩
      have HOK := hid hok
      have HISb := hid (fun X hX => HIS.out X hX _ b (HBI.out.below hX))
      simp only [hok] at HISb HRI
      have n1 : (x2 != x2) = false := by simp
      have n2 : (ok != ok) = false := by simp
      obtain ⟨n, hn⟩ : ∃ n, l.length = n := ⟨_, rfl⟩
      have HN := hid hn
      obtain ⟨m, hm⟩ : ∃ m, b.length = m := ⟨_, rfl⟩
      have HM := hid hm
      simp only [hn] at hl2 hl70 HF HBA HRB HIS HRI HOV HAL HISb ⊢
      simp only [hm] at hbl1 hbl2 hb100 HRI HISb ⊢
      clear hx hok hn hm
      go_enter Try.func7, Try.ntmps7
      go_wp2_with fail
      refine HF.out.mono ?_
      rintro e w1 ⟨rfl, rfl⟩
      go_wp2_with fail
      refine (HBA.out _ HB.out).mono ?_
      rintro e w1 ⟨u1, rfl, hu1, hb1⟩
      have HB1 := hid (HB.out.trans (hb1.mono HB.out.size))
      have HU1 := hid hu1
      clear hu1 hb1
      go_wp2_with fail
      refine (HRB.out _ HB1.out).mono ?_
      rintro e w2 ⟨u2, rfl, hu2, hb2⟩
      have HB2 := hid (HB1.out.trans (hb2.mono HB1.out.size))
      have HU2 := hid hu2
      have HV2 := hid (HU1.out.below hb2)
      clear hu2 hb2 HU1
      go_wp2_with fail
      refine (HISb.out _ HB2.out).mono ?_
      rintro e w3 ⟨rfl, hb3⟩
      have HB3 := hid (HB2.out.trans (hb3.mono HB2.out.size))
      have HU3 := hid (HU2.out.below hb3)
      have HV3 := hid (HV2.out.below hb3)
      clear hb3 HU2 HV2
      go_wp2_with fail
      refine (chainD (Below.refl _ _) (ref1_SameInts _ _ _ _ _ HV3.out HU3.out)).mono ?_
      rintro e w4 ⟨rfl, hb4⟩
      rw [show decide (x1 = x1) = true from by simp]
      have HB4 := hid (HB3.out.trans (hb4.mono HB3.out.size))
      have HV4 := hid (HV3.out.below hb4)
      clear hb4 HU3 HV3
      go_wp2_with fail
      refine (HRI.out _ HB4.out).mono ?_
      rintro e w5 ⟨rfl, hb5⟩
      have HB5 := hid (HB4.out.trans (hb5.mono HB4.out.size))
      have HV5 := hid (HV4.out.below hb5)
      clear hb5 HV4
      by_cases h0 : x2 = 0
      · subst h0
        have hsh : shelfB s l = true := by
          have := HX.out
          unfold basQ at this
          cases h : shelfB s l
          · rw [h] at this; simp at this
          · rfl
        have hx1 : x1 = chosenL 0 (basB s l) := by
          have := HX.out
          unfold basQ at this
          rw [hsh] at this
          simpa using this.symm
        have HSH := hid hsh
        have HX1 := hid hx1
        have his := bas_isb hsh
        rw [← hx1] at his
        have HIS1 := hid (HIS.out _ HB5.out _ _ HV5.out)
        rw [his] at HIS1
        have hT : ∀ k (hk : k < l.length), termB s l[k] = true := fun k hk => allB_get (shelfB_facts hsh).2.2.2.1 hk
        have HT := hid hT
        obtain ⟨ua, uc, rfl, ul1, ul2, -, UC⟩ := HV5.out.open
        have UC' := hid UC
        obtain ⟨p, hp⟩ : ∃ p, x1.length = p := ⟨_, rfl⟩
        have HP := hid hp
        simp only [hp] at ul1 ul2 HIS1 ⊢
        clear hsh hx1 his UC hp hT
        go_wp2_with fail
        refine HIS1.out.mono ?_
        rintro e w6 ⟨rfl, hb6⟩
        have HB6 := hid (HB5.out.trans (hb6.mono HB5.out.size))
        have UC6 := hid (fun j (hj : j < x1.length) => (show ∃ bb oo, ua = some ⟨bb, oo, none⟩ ∧ w6.cell? ⟨bb, oo + j, none⟩ = some (.int .i64 x1[j]) from by
          obtain ⟨bb, oo, e1, e2⟩ := UC'.out j hj
          exact ⟨bb, oo, e1, (hb6.cell (World.block_lt_of_cell? _ _ e2)).trans e2⟩))
        clear hb6 UC'
        go_wp2
        go_loopw [12] (fun kv wr => ∃ i : Nat, i ≤ p ∧ kv = .int .i64 i ∧ Below w6.heap.size w6 wr) (fun kv _ => p - (intOf kv).toNat)
        case atStart => exact ⟨0, by omega, rfl, Below.refl _ _⟩
        case round =>
          obtain ⟨i, hi, rfl, hb⟩ := hrel
          have HBr := hid hb
          have HBw := hid (HB6.out.trans (hb.mono HB6.out.size))
          by_cases hlti : i < p
          · have hix : i < x1.length := by rw [HP.out]; exact hlti
            obtain ⟨bb, oo, rfl, c0⟩ := UC6.out i hix
            have c1 := (hb.cell (World.block_lt_of_cell? _ _ c0)).trans c0
            have hmem : x1[i] ∈ chosenL 0 (basB s l) := by have := List.getElem_mem hix; rw [← HX1.out]; exact this
            obtain ⟨q, hq, hql, hqb⟩ := bas_get hmem
            rw [hq] at c1
            have HQB := hid hqb
            have hov := HOV.out _ HBw.out q
            rw [overB_base HSH.out hql hqb] at hov
            have HOVq := hid hov
            obtain ⟨lb, lo, xq, rfl, d0, hxq⟩ := HC'.out q hql
            have HDX := hid (fun (X : World) (hX : Below w.heap.size w X) => (show X.cell? ⟨lb, lo + q, none⟩ = some xq ∧ Ints X xq l[q] from ⟨(hX.cell (World.block_lt_of_cell? _ _ d0)).trans d0, hxq.below hX⟩))
            have HSQ := hid (searchB_ok (l.map fun t => alikeB s t l[q]) HSH.out (HT.out q hql))
            have HTH := hid (fun (h : isbB s l b = true) => there_all h hql HQB.out)
            have y0 : (0 : Int) ≤ (q : Int) := by omega
            have y1 : (q : Int) < (n : Int) := by have := HN.out; omega
            have y2 : q < n := by have := HN.out; omega
            have HC1 := hid c1
            clear c0 hmem hq hqb hov d0 hxq hb
            go_wp2_with fail
            refine HOVq.out.mono ?_
            rintro e w7 ⟨u7, rfl, ho7, hb7⟩
            have hu7 : ∃ a c, u7 = .slice a 0 c := by
              rcases ho7.2 with ⟨z1, z2⟩ | ⟨g', c', cur, z1, _⟩
              · exact ⟨none, 0, z1⟩
              · exact ⟨_, _, z1⟩
            obtain ⟨a7, c7, rfl⟩ := hu7
            have HB7 := hid (HBw.out.trans (hb7.mono HBw.out.size))
            have HBr7 := hid (HBr.out.trans (hb7.mono HBr.out.size))
            have c17 := (hb7.cell (World.block_lt_of_cell? _ _ c1)).trans c1
            obtain ⟨dx, ix⟩ := HDX.out _ HB7.out
            have hal := HAL.out _ HB7.out xq l[q] ix
            rw [HSQ.out] at hal
            have HALq := hid hal
            clear c1 ho7 hb7 hal ix
            go_wp2_with fail
            refine HALq.out.mono ?_
            rintro e w8 ⟨u8, rfl, ho8, hb8⟩
            have hcl := chosenL_le (l.map fun t => alikeB s t l[q]) 0
            have HU8 : Hid (Ints w8 u8 (likeL s l l[q])) := hid (Ints.of_owns ho8 (by have := HN.out; simp only [List.length_map] at hcl; show (chosenL 0 (l.map fun t => alikeB s t l[q])).length ≤ _; omega))
            have HB8 := hid (HB7.out.trans (hb8.mono HB7.out.size))
            have HBr8 := hid (HBr7.out.trans (hb8.mono HBr7.out.size))
            clear ho8 hb8 hcl c17 dx
            go_wp2
            go_loopw [17, 18] (fun tv kv wr => ∃ k : Nat, k ≤ m ∧ kv = .int .i64 k ∧ tv = .bool (thereM b (likeL s l l[q]) k) ∧ wr = w8) (fun _ kv _ => m - (intOf kv).toNat)
            case atStart => exact ⟨0, by omega, rfl, rfl, rfl⟩
            case round =>
              obtain ⟨k, hk, rfl, rfl, rfl⟩ := hrel
              by_cases hlt : k < m
              · have hkb : k < b.length := by rw [HM.out]; exact hlt
                have hsu := thereM_succ b (likeL s l l[q]) hkb
                obtain ⟨bb2, oo2, rfl, e0⟩ := HBC'.out k hkb
                have e1 := (HB8.out.cell (World.block_lt_of_cell? _ _ e0)).trans e0
                obtain ⟨y, hy⟩ : ∃ y, b[k] = y := ⟨_, rfl⟩
                rw [hy] at hsu e1
                have HH := hid (ref1_Has u8 (likeL s l l[q]) y _ HU8.out)
                obtain ⟨z, hz⟩ : ∃ z, decide (y ∈ likeL s l l[q]) = z := ⟨_, rfl⟩
                rw [hz] at hsu HH
                cases hc : thereM b (likeL s l l[q]) k
                · rw [hc, Bool.false_or] at hsu
                  have HSU := hid hsu
                  clear hsu hy hz hc e0
                  go_wp2_with fail
                  refine HH.out.mono ?_
                  rintro e w9 ⟨rfl, rfl⟩
                  go_wp2
                  go_roundw
                  case rel => exact ⟨k + 1, by omega, by go_num, by rw [HSU.out], by first | trivial | rfl⟩
                  case measure => simp [intOf]; omega
                · have HSU : Hid (thereM b (likeL s l l[q]) (k + 1) = true) := hid (by rw [hsu, hc]; rfl)
                  clear hsu hy hz hc e0
                  go_wp2
                  go_roundw
                  case rel => exact ⟨k + 1, by omega, by go_num, by rw [HSU.out], by first | trivial | rfl⟩
                  case measure => simp [intOf]; omega
              · obtain rfl : m = k := by omega
                cases ok
                · go_wp2
                  go_roundw
                  case rel => exact ⟨i + 1, by omega, by go_num, HBr8.out⟩
                  case measure => simp [intOf]; omega
                · have hth := HTH.out HOK.out
                  rw [HM.out] at hth
                  rw [hth]
                  clear hth
                  go_wp2
                  go_roundw
                  case rel => exact ⟨i + 1, by omega, by go_num, HBr8.out⟩
                  case measure => simp [intOf]; omega
          · obtain rfl : p = i := by omega
            clear hb
            go_wp2_with fail
            refine (HW.out _ HBw.out).mono ?_
            rintro e w7 ⟨rfl, hb7⟩
            go_wp2
            go_ret
            exact ⟨rfl, hb7⟩
      · have n3 : (x2 != 0) = true := by simpa using h0
        clear h0
        go_wp2_with fail
        refine (HW.out _ HB5.out).mono ?_
        rintro e w7 ⟨rfl, hb7⟩
        go_wp2
        go_ret
        exact ⟨rfl, hb7⟩
end Go.Proofs.Ytiacbdipagbblaa
