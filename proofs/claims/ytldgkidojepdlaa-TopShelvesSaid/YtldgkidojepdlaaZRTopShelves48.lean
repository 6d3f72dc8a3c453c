/-
  WHAT IT HOLDS: the plain law of TopShelves: what a proof says is a shelf; where it cites it has what is alike the given; its base has for each statement one that is more general. No program in sight.
  WHAT IT HOLDS: the walk of the law TopShelves.
-/
import Derived.Test.YtldgkidojepdlaaZRTopShelves38
import Derived.Test.YtldgkidojepdlaaZRTopShelves44
import Derived.Test.YtldgkidojepdlaaZRTopShelves45
import Derived.Test.YtldgkidojepdlaaZRTopShelves34
import Derived.Test.YtldgkidojepdlaaZRTopShelves47
import Derived.Test.YtldgkidojepdlaaZRTopShelves46
import Derived.Test.YtldgkidojepdlaaZRTopShelves0
import Derived.Test.YtldgkidojepdlaaZRTopShelves14
import Derived.Test.YtldgkidojepdlaaZRTopShelves20
namespace Go.Proofs.Ytldgkidojepdlaa
open Go Go.RowKit Go.Maps
theorem canon_termK {s : Sg} {t : List Int} (h : termB s t = true) : termB s (canonL t) = true := by
  have f := termB_facts h
  exact T_termB f.1 (canonL_T (termB_T h) (vars_le_m (termB_T h))) (by rw [canonL_len]; exact f.2.2.2)
theorem say_term {s : Sg} {g l : List (List Int)} {k : Int} {st : St} {t : List Int} (ha : givensB s g = true) (hr : rightB g.length k st = true) (h : sayR s g l st (t, 0)) : termB s t = true := by
  unfold sayR at h
  by_cases h1 : st.1 = 1
  · rw [if_pos h1] at h
    simp only [Prod.mk.injEq, and_true] at h
    subst h
    refine canon_termK ?_
    unfold rightB at hr
    rw [if_pos h1] at hr
    simp only [Bool.and_eq_true] at hr
    have h2 := inB_true.1 hr.1
    have hi : st.2.1.toNat < g.length := by omega
    rw [List.getD_eq_getElem?_getD, List.getElem?_eq_getElem hi]
    unfold givensB at ha
    simp only [Bool.and_eq_true] at ha
    have h3 := ha.2
    unfold allB at h3
    rw [List.all_eq_true] at h3
    exact h3 _ (List.getElem_mem hi)
  · rw [if_neg h1] at h
    rcases h with ⟨-, h⟩ | ⟨hv, -, ⟨-, h⟩ | ⟨A, B, -, -, tB, ⟨-, h⟩ | ⟨m, hm, ⟨hb, h⟩ | ⟨-, h⟩⟩⟩⟩
    · simp at h
    · simp at h
    · simp at h
    · simp only [Prod.mk.injEq, and_true] at h
      subst h
      exact made_term (termB_facts hv).1 (fw_T hm.1 (tB.mono (by omega))) hb
    · simp at h
theorem run_terms {s : Sg} {g : List (List Int)} {p : List St} {l : List (List Int)} {e : Int} (ha : askedB s g p = true) (hr : RunR s g p l e) : ∀ t ∈ l, termB s t = true := by
  intro t ht
  obtain ⟨i, hi, rfl⟩ := List.getElem_of_mem ht
  obtain ⟨st, h1, h2⟩ := hr.1 i _ (List.getElem?_eq_getElem hi)
  obtain ⟨hp, rfl⟩ := List.getElem?_eq_some_iff.1 h1
  exact say_term (asked_parts ha).1 (proofB_at (asked_parts ha).2 hp) h2
theorem run_shelf {s : Sg} {g : List (List Int)} {p : List St} {l : List (List Int)} (ha : askedB s g p = true) (hr : RunR s g p l 0) : l.length = p.length ∧ shelfB s l = true := by
  have hl : l.length = p.length := by
    rcases hr.2 with h | h
    · exact h.2
    · exact absurd rfl h.1
  refine ⟨hl, ?_⟩
  have h1 := asked_parts ha
  have hs : signB s = true := by have := h1.1; unfold givensB at this; simp only [Bool.and_eq_true] at this; exact this.1.1
  have hp : inB p.length 1 60 = true := by have := h1.2; unfold proofB at this; simp only [Bool.and_eq_true] at this; exact this.2
  unfold shelfB
  rw [hs, hl, hp]
  unfold allB
  rw [Bool.true_and, Bool.true_and, List.all_eq_true]
  exact run_terms ha hr
theorem run_cite {s : Sg} {g : List (List Int)} {p : List St} {l : List (List Int)} (ha : askedB s g p = true) (hr : RunR s g p l 0) {i : Nat} (hi : i < p.length) (hc : p[i].1 = 1) :
    ∃ a : Nat, p[i].2.1 = (a : Int) ∧ ∃ h : a < g.length, termB s g[a] = true ∧ ∃ h2 : i < l.length, alikeB s l[i] g[a] = true := by
  have hl := (run_shelf ha hr).1
  have hrt := proofB_at (asked_parts ha).2 hi
  unfold rightB at hrt
  rw [if_pos hc] at hrt
  simp only [Bool.and_eq_true] at hrt
  have h2 := inB_true.1 hrt.1
  refine ⟨p[i].2.1.toNat, by omega, by omega, ?_⟩
  have hlt : p[i].2.1.toNat < g.length := by omega
  have hv : termB s g[p[i].2.1.toNat] = true := by
    have h3 := (asked_parts ha).1
    unfold givensB at h3
    simp only [Bool.and_eq_true] at h3
    have h4 := h3.2
    unfold allB at h4
    rw [List.all_eq_true] at h4
    exact h4 _ (List.getElem_mem hlt)
  refine ⟨hv, by omega, ?_⟩
  obtain ⟨st, h5, h6⟩ := hr.1 i _ (List.getElem?_eq_getElem (by omega))
  rw [List.getElem?_eq_getElem hi] at h5
  cases h5
  unfold sayR at h6
  rw [if_pos hc] at h6
  simp only [Prod.mk.injEq, and_true] at h6
  rw [h6, List.getD_eq_getElem?_getD, List.getElem?_eq_getElem hlt]
  unfold alikeB
  simp [canon_termK hv, hv, canonL_canon]
theorem base_over {s : Sg} {l : List (List Int)} (h : shelfB s l = true) {i : Nat} (hi : i < l.length) : ∃ k : Nat, (k : Int) ∈ chosenL 0 (basB s l) ∧ (k : Int) ∈ chosenL 0 (l.map fun t => instB s t l[i]) := by
  have h1 := bas_isb h
  unfold isbB at h1
  simp only [Bool.and_eq_true, List.all_eq_true] at h1
  have h2 := h1.2.2 l[i] (List.getElem_mem hi)
  rw [List.any_eq_true] at h2
  obtain ⟨x, hx, hin⟩ := h2
  obtain ⟨k, rfl, hk, -⟩ := bas_get hx
  refine ⟨k, hx, ?_⟩
  rw [chosenL_memB]
  refine ⟨by omega, ?_⟩
  simp only [Int.toNat_natCast] at hin
  rw [Nat.sub_zero, List.getElem?_map, List.getElem?_eq_getElem hk]
  rw [show l.getD k [] = l[k] by simp [List.getD, hk]] at hin
  simp [hin]
theorem like_has {s : Sg} {l : List (List Int)} {q : List Int} {i : Nat} (hi : i < l.length) (h : alikeB s l[i] q = true) : (i : Int) ∈ chosenL 0 (l.map fun t => alikeB s t q) := by
  rw [chosenL_memB]
  refine ⟨by omega, ?_⟩
  rw [Nat.sub_zero, List.getElem?_map, List.getElem?_eq_getElem hi]
  simp [h]
end Go.Proofs.Ytldgkidojepdlaa
namespace Go.Proofs.Ytldgkidojepdlaa
open Go Go.RowKit Go.Maps
theorem law4_Light (v : Value) (p : List St) (w : World) (hp : StepsAt w v p) :
    Calls Try.prog 7 #[v] w fun e w' => e = .returned (.bool (decide (p.length ≤ 100))) ∧ w = w' := by
  obtain ⟨a, c, rfl, -⟩ := hp.open
  by_cases h : p.length ≤ 100
  · have h1 : (p.length : Int) ≤ 100 := by omega
    go_enter Try.func7, Try.ntmps7
    go_wp2
    go_ret
    exact ⟨ret_bool (by simp [h]), rfl⟩
  · have h1 : ¬ (p.length : Int) ≤ 100 := by omega
    go_enter Try.func7, Try.ntmps7
    go_wp2
    go_ret
    exact ⟨ret_bool (by simp [h]), rfl⟩
theorem searchB_K {s : Sg} {l : List (List Int)} {q : List Int} (bs : List Bool) (h1 : shelfB s l = true) (h2 : termB s q = true) : searchB s l q bs = (chosenL 0 bs, 0) := by unfold searchB; rw [h1, h2]; rfl
theorem basQ_K {s : Sg} {l : List (List Int)} (h1 : shelfB s l = true) : basQ s l = (chosenL 0 (basB s l), 0) := by unfold basQ; rw [h1]; rfl
set_option maxHeartbeats 4000000 in
set_option maxRecDepth 100000 in
theorem walk_TopShelves (vs vg vp : Value) (s : Sg) (g : List (List Int)) (p : List St) (w : World) (hs : SignAt w vs s) (hg : Terms w vg g) (hp : StepsAt w vp p) :
    Calls Try.prog 3 #[vs, vg, vp] w fun e w' => e = .returned (.bool true) ∧ Below w.heap.size w w' := by
  have HW := hid (fun (X : World) (hX : Below w.heap.size w X) => chainL hX (top_awake5 X))
  have HSM := hid (law1_Small vs vg s g w hs hg)
  have HLT := hid (law4_Light vp p w hp)
  obtain ⟨ga, gc, rfl, -, -, -, GC⟩ := hg.open
  obtain ⟨pa, pc, rfl, -, hp2, -, PC⟩ := hp.open
  have HGC := hid GC
  have HPC := hid PC
  have HS := hid hs
  have HG := hid hg
  have HP := hid hp
  clear GC PC hs hg hp
  by_cases h20 : (20 : Int) < g.length
  · go_enter Try.func3, Try.ntmps3
    go_wp2_with fail
    refine (HW.out _ (Below.refl _ _)).mono ?_
    rintro e w2 ⟨rfl, hb⟩
    have HB := hid hb
    clear hb
    go_wp2
    go_ret
    exact ⟨rfl, HB.out⟩
  · cases hsm : smallB s g
    · rw [hsm] at HSM
      go_enter Try.func3, Try.ntmps3
      go_wp2_with (go_at_call 6; refine HSM.out.mono ?_; rintro e w1 ⟨rfl, rfl⟩)
      refine (HW.out _ (Below.refl _ _)).mono ?_
      rintro e w2 ⟨rfl, hb⟩
      have HB := hid hb
      clear hb
      go_wp2
      go_ret
      exact ⟨rfl, HB.out⟩
    · rw [hsm] at HSM
      have hs40 : s.length ≤ 1000 := by simp [smallB] at hsm; omega
      clear hsm
      cases hlt : decide (p.length ≤ 100)
      · rw [hlt] at HLT
        go_enter Try.func3, Try.ntmps3
        go_wp2_with (first | (go_at_call 6; refine HSM.out.mono ?_; rintro e w1 ⟨rfl, rfl⟩) | (go_at_call 7; refine HLT.out.mono ?_; rintro e w1 ⟨rfl, rfl⟩))
        refine (HW.out _ (Below.refl _ _)).mono ?_
        rintro e w2 ⟨rfl, hb⟩
        have HB := hid hb
        clear hb
        go_wp2
        go_ret
        exact ⟨rfl, HB.out⟩
      · rw [hlt] at HLT
        clear hlt
        have HRN := hid (kernel_Run vs (.slice ga g.length gc) (.slice pa p.length pc) s g p w HS.out HG.out HP.out hs40)
        go_enter Try.func3, Try.ntmps3
        go_wp2_with (first | (go_at_call 6; refine HSM.out.mono ?_; rintro e w1 ⟨rfl, rfl⟩) | (go_at_call 7; refine HLT.out.mono ?_; rintro e w1 ⟨rfl, rfl⟩))
        refine HRN.out.mono ?_
        rintro e w1 ⟨u, l, n, er, rfl, hq, hT, hb1⟩
        have HQ := hid hq
        have HT := hid hT
        have HB1 := hid hb1
        obtain ⟨la, lc, rfl, -, -, -, LC⟩ := hT.open
        have HLC := hid LC
        clear hq hT hb1 LC
        by_cases h0 : er = 0
        · have hqq : askedB s g p = true ∧ RunR s g p l 0 := by
            rcases HQ.out with h | h
            · exact absurd (h0 ▸ h.2.2.2) (by omega)
            · exact ⟨h.1, h0 ▸ h.2.1⟩
          obtain ⟨hask, hrr⟩ := hqq
          obtain ⟨hll, hsh⟩ := run_shelf hask hrr
          subst h0
          have hp60 := proof60 (asked_parts hask).2
          have hnn : ((l.length : Int) != (p.length : Int)) = false := by simp [hll]
          have hl1 : l.length ≤ p.length := by omega
          have hl2 : p.length ≤ l.length := by omega
          have HNN := hid hnn
          have HASK := hid hask
          have HRR := hid hrr
          have HSH := hid hsh
          have HAL := hid (fun (X : World) (hX : Below w1.heap.size w1 X) (u : Value) (q : List Int) (hu : Ints X u q) => find_Alike vs _ u s l q (fun t => alikeB s t q) (fun _ => rfl) X (HS.out.below (HB1.out.trans (hX.mono HB1.out.size))) (HT.out.below hX) hu hs40 (by omega))
          have HGE := hid (fun (X : World) (hX : Below w1.heap.size w1 X) (u : Value) (q : List Int) (hu : Ints X u q) => find_Generals vs _ u s l q (fun t => instB s t q) (fun _ => rfl) X (HS.out.below (HB1.out.trans (hX.mono HB1.out.size))) (HT.out.below hX) hu hs40 (by omega))
          have HBA := hid (fun (X : World) (hX : Below w1.heap.size w1 X) => find_Base vs _ s l X (HS.out.below (HB1.out.trans (hX.mono HB1.out.size))) (HT.out.below hX) hs40 (by omega))
          rw [basQ_K hsh] at HBA
          have HCI := hid (fun (i : Nat) (hi : i < p.length) (hc : p[i].1 = 1) => run_cite hask hrr hi hc)
          have HBO := hid (fun (i : Nat) (hi : i < l.length) => base_over hsh hi)
          clear hll hask hrr hsh
          go_wp2_with fail
          clear hnn
          go_loopw [10] (fun kv wr => ∃ k : Nat, k ≤ p.length ∧ kv = .int .i64 k ∧ Below w1.heap.size w1 wr) (fun kv _ => p.length - (intOf kv).toNat)
          case atStart => exact ⟨0, by omega, rfl, Below.refl _ _⟩
          case round =>
            obtain ⟨k, hk, rfl, hb⟩ := hrel
            have HBK := hid hb
            by_cases hlt : k < p.length
            · obtain ⟨cb, co, rfl, c10, c20, -⟩ := HPC.out k hlt
              have hbw := HB1.out.trans (hb.mono HB1.out.size)
              have c1' := (hbw.cell (World.block_lt_of_cell? _ _ c10)).trans c10
              have c2' := (hbw.cell (World.block_lt_of_cell? _ _ c20)).trans c20
              have HC := hid (fun hc => HCI.out k hlt hc)
              obtain ⟨x0, hx0⟩ : ∃ x0, p[k].1 = x0 := ⟨_, rfl⟩
              obtain ⟨x1, hx1⟩ : ∃ x1, p[k].2.1 = x1 := ⟨_, rfl⟩
              rw [hx0] at c1' HC
              rw [hx1] at c2' HC
              have y0 : (0 : Int) ≤ (k : Int) := by omega
              have y1 : (k : Int) < (p.length : Int) := by omega
              have hwk := IntWalk.i64_in ((k : Int) + 1) (by omega)
              clear c10 c20 hx0 hx1 hb
              by_cases hc : x0 = 1
              · obtain ⟨a, rfl, ha, hv, h2, hlk⟩ := HC.out hc
                subst hc
                obtain ⟨gb, go, u, rfl, cg0, hu0⟩ := HGC.out a ha
                have cg := (hbw.cell (World.block_lt_of_cell? _ _ cg0)).trans cg0
                have hu := hu0.below hbw
                have hs := searchB_K (l.map fun t => alikeB s t g[a]) HSH.out hv
                have HAK := hid (HAL.out wr HBK.out u g[a] hu)
                rw [hs] at HAK
                have HLK := hid (like_has h2 hlk)
                have hcl : (chosenL 0 (l.map fun t => alikeB s t g[a])).length ≤ 60 := by have := chosenL_le (l.map fun t => alikeB s t g[a]) 0; rw [List.length_map] at this; omega
                have y2 : ¬ (a : Int) < 0 := by omega
                have y3 : ¬ (g.length : Int) ≤ (a : Int) := by omega
                have y4 : (0 : Int) ≤ (a : Int) := by omega
                have y5 : (a : Int) < (g.length : Int) := by omega
                obtain ⟨ua, uc, rfl, -⟩ := hu.open
                obtain ⟨L, hL⟩ : ∃ L, (chosenL 0 (l.map fun t => alikeB s t g[a])) = L := ⟨_, rfl⟩
                rw [hL] at HAK HLK hcl
                obtain ⟨n1, hn1⟩ : ∃ n1, g[a].length = n1 := ⟨_, rfl⟩
                rw [hn1] at HAK cg
                have HHS := hid (fun (X : World) (v : Value) (h : Ints X v L) => (ref1_Has v L k X h).mono (R' := fun e w' => e = .returned (.bool true) ∧ X = w') (by rintro e w' ⟨rfl, rfl⟩; exact ⟨by rw [decide_eq_true HLK.out], rfl⟩))
                clear cg0 hu0 hu hs HC hlk hv hL hn1
                go_wp2_with (first | (go_at_call 10; refine HAK.out.mono ?_; rintro e w2 ⟨u2, rfl, ho2, hb2⟩; have HI2 := hid (Ints.of_owns ho2 (by omega)); have HB2 := hid hb2; clear ho2 hb2) | (go_at_call 11; refine (HHS.out _ _ HI2.out).mono ?_; rintro e w3 ⟨rfl, rfl⟩))
                go_roundw
                case rel => exact ⟨k + 1, by omega, by go_num, HBK.out.trans (HB2.out.mono HBK.out.size)⟩
                case measure => simp [intOf]; omega
              · have n1 : (x0 != 1) = true := by simpa using hc
                go_wp2_with fail
                go_roundw
                case rel => exact ⟨k + 1, by omega, by go_num, HBK.out⟩
                case measure => simp [intOf]; omega
            · go_wp2_with fail
              refine (HBA.out wr HBK.out).mono ?_
              rintro e w2 ⟨u2, rfl, hi2, hb2⟩
              have HB2 := hid (HBK.out.trans (hb2.mono HBK.out.size))
              have hbl : (chosenL 0 (basB s l)).length ≤ 60 := by have := chosenL_le (basB s l) 0; rw [basB_len] at this; omega
              obtain ⟨B, hBB⟩ : ∃ B, chosenL 0 (basB s l) = B := ⟨_, rfl⟩
              simp only [hBB] at hi2 HBO hbl
              obtain ⟨ba, bc, rfl, -, -, -, BC⟩ := hi2.open
              have HBC := hid BC
              clear hb2 hi2 BC hBB
              go_wp2_with fail
              go_loopw [15] (fun kv wq => ∃ k : Nat, k ≤ l.length ∧ kv = .int .i64 k ∧ Below w2.heap.size w2 wq) (fun kv _ => l.length - (intOf kv).toNat)
              case atStart => exact ⟨0, by omega, rfl, Below.refl _ _⟩
              case round =>
                obtain ⟨k, hk, rfl, hb⟩ := hrel
                have HBK2 := hid hb
                have HBZ := hid (HB2.out.trans (hb.mono HB2.out.size))
                by_cases hlt2 : k < l.length
                · obtain ⟨lb, lo, u, rfl, cl0, hu0⟩ := HLC.out k hlt2
                  have cl := (HBZ.out.cell (World.block_lt_of_cell? _ _ cl0)).trans cl0
                  have hu := hu0.below HBZ.out
                  have hv : termB s l[k] = true := by
                    have h3 := HSH.out
                    unfold shelfB at h3
                    simp only [Bool.and_eq_true] at h3
                    have h4 := h3.2
                    unfold allB at h4
                    rw [List.all_eq_true] at h4
                    exact h4 _ (List.getElem_mem hlt2)
                  have HGK := hid (HGE.out wr HBZ.out u l[k] hu)
                  rw [searchB_K (l.map fun t => instB s t l[k]) HSH.out hv] at HGK
                  have HBK3 := hid (HBO.out k hlt2)
                  have hcl : (chosenL 0 (l.map fun t => instB s t l[k])).length ≤ 60 := by have := chosenL_le (l.map fun t => instB s t l[k]) 0; rw [List.length_map] at this; omega
                  obtain ⟨ua, uc, rfl, -⟩ := hu.open
                  obtain ⟨L, hL⟩ : ∃ L, (chosenL 0 (l.map fun t => instB s t l[k])) = L := ⟨_, rfl⟩
                  rw [hL] at HGK HBK3 hcl
                  obtain ⟨n1, hn1⟩ : ∃ n1, l[k].length = n1 := ⟨_, rfl⟩
                  rw [hn1] at HGK cl
                  have y0 : (0 : Int) ≤ (k : Int) := by omega
                  have y1 : (k : Int) < (l.length : Int) := by omega
                  have hwk := IntWalk.i64_in ((k : Int) + 1) (by omega)
                  clear cl0 hu0 hu hv hL hn1 hb
                  go_wp2_with fail
                  refine HGK.out.mono ?_
                  rintro e w3 ⟨u3, rfl, ho3, hb3⟩
                  have HI3 := hid (Ints.of_owns ho3 (by omega))
                  have HB3 := hid (HBK2.out.trans (hb3.mono HBK2.out.size))
                  obtain ⟨a3, c3, rfl⟩ : ∃ a3 c3, u3 = .slice a3 L.length c3 := by
                    obtain ⟨a, c, h, -⟩ := HI3.out.open
                    exact ⟨a, c, h⟩
                  clear ho3 hb3 cl
                  go_wp2_with fail
                  clear HGK
                  have HBB3 := hid HB3.out.size
                  go_loopw [18, 19] (fun tv jv wr => ∃ j : Nat, j ≤ B.length ∧ jv = .int .i64 j ∧ tv = .bool ((B.take j).any fun x => decide (x ∈ L)) ∧ Below w3.heap.size w3 wr) (fun _ jv _ => B.length - (intOf jv).toNat)
                  case atStart => exact ⟨0, by omega, rfl, by simp, Below.refl _ _⟩
                  case round =>
                    obtain ⟨j, hj, rfl, rfl, hb4⟩ := hrel
                    have HB4 := hid hb4
                    have HB24 := hid (HB3.out.trans (hb4.mono HB3.out.size))
                    by_cases hlt3 : j < B.length
                    · obtain ⟨bb, bo, rfl, cb0⟩ := HBC.out j hlt3
                      have cb := (HB24.out.cell (World.block_lt_of_cell? _ _ cb0)).trans cb0
                      have hwj := IntWalk.i64_in ((j : Int) + 1) (by omega)
                      have y2 : (0 : Int) ≤ (j : Int) := by omega
                      have y3 : (j : Int) < (B.length : Int) := by omega
                      have hnext : ((B.take (j + 1)).any fun x => decide (x ∈ L)) = (((B.take j).any fun x => decide (x ∈ L)) || decide (B[j] ∈ L)) := by rw [List.take_succ_eq_append_getElem hlt3, List.any_append]; simp
                      obtain ⟨x, hx⟩ : ∃ x, B[j] = x := ⟨_, rfl⟩
                      rw [hx] at cb hnext
                      have HHX := hid (ref1_Has (.slice a3 L.length c3) L x wr (HI3.out.below hb4))
                      obtain ⟨d, hd⟩ : ∃ d, decide (x ∈ L) = d := ⟨_, rfl⟩
                      rw [hd] at hnext HHX
                      obtain ⟨th, hth⟩ : ∃ th, ((B.take j).any fun x => decide (x ∈ L)) = th := ⟨_, rfl⟩
                      rw [hth] at hnext ⊢
                      have HNX := hid hnext
                      clear cb0 hx hd hth hnext hb4
                      cases th
                      · go_wp2_with (go_at_call 11; refine HHX.out.mono ?_; rintro e w5 ⟨rfl, rfl⟩)
                        go_roundw
                        case rel => exact ⟨j + 1, by omega, by go_num, by rw [HNX.out]; simp, HB4.out⟩
                        case measure => simp [intOf]; omega
                      · go_wp2_with fail
                        go_roundw
                        case rel => exact ⟨j + 1, by omega, by go_num, by rw [HNX.out]; simp, HB4.out⟩
                        case measure => simp [intOf]; omega
                    · have hjb : j = B.length := by omega
                      have hth : ((B.take j).any fun x => decide (x ∈ L)) = true := by
                        rw [hjb, List.take_length, List.any_eq_true]
                        obtain ⟨k', h1, h2⟩ := HBK3.out
                        exact ⟨_, h1, by simpa using h2⟩
                      rw [hth]
                      clear hth
                      go_wp2_with fail
                      go_roundw
                      case rel => exact ⟨k + 1, by omega, by go_num, HB24.out⟩
                      case measure => simp [intOf]; omega
                · go_wp2_with fail
                  refine (HW.out _ (HB1.out.trans (HBZ.out.mono HB1.out.size))).mono ?_
                  rintro e w9 ⟨rfl, hb9⟩
                  have HB9 := hid hb9
                  clear hb9
                  go_wp2
                  go_ret
                  exact ⟨rfl, HB9.out⟩
        · have n0 : (er != 0) = true := by simpa using h0
          go_wp2_with fail
          refine (HW.out _ HB1.out).mono ?_
          rintro e w2 ⟨rfl, hb⟩
          have HB := hid hb
          clear hb
          go_wp2
          go_ret
          exact ⟨rfl, HB.out⟩
end Go.Proofs.Ytldgkidojepdlaa
