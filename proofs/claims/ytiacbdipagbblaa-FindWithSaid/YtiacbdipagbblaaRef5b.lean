/-
  WHAT IT HOLDS: the contract of With of package lemmaryref05. Conditions: the arguments read as data; at most 1000 terms, symbols and names.
-/
import Derived.Test.YtiacbdipagbblaaRef5
namespace Go.Proofs.Ytiacbdipagbblaa
open Go Go.RowKit Go.Maps
theorem hasAll_range {s : Sg} {symbols t : List Int} (h : symbols.all (fun n => inB n 0 (s.length - 1)) = true) :
    hasAllB symbols t = (List.range s.length).all (fun k => !(decide ((k : Int) ∈ symbols)) || decide ((k : Int) ∈ t)) := by
  rw [List.all_eq_true] at h
  rw [Bool.eq_iff_iff]
  unfold hasAllB
  rw [List.all_eq_true, List.all_eq_true]
  constructor
  · intro h1 k hk
    by_cases h2 : (k : Int) ∈ symbols
    · have := h1 _ h2; simp only [decide_eq_true_eq] at this; simp [this]
    · simp [h2]
  · intro h1 n hn
    have hr := inB_true.1 (h n hn)
    obtain ⟨k, rfl⟩ := Int.eq_ofNat_of_zero_le hr.1
    have := h1 k (by simp; omega)
    simpa [hn] using this
theorem withB_1 {s : Sg} {l : List (List Int)} {symbols : List Int} (h : shelfB s l = false) : withB s l symbols = ([], 1) := by unfold withB; rw [h]; rfl
theorem withB_5 {s : Sg} {l : List (List Int)} {symbols : List Int} (h : shelfB s l = true) (h2 : symbols.all (fun n => inB n 0 (s.length - 1)) = false) : withB s l symbols = ([], 5) := by unfold withB; rw [h, h2]; rfl
theorem withB_0 {s : Sg} {l : List (List Int)} {symbols : List Int} (h : shelfB s l = true) (h2 : symbols.all (fun n => inB n 0 (s.length - 1)) = true) : withB s l symbols = (chosenL 0 (l.map (hasAllB symbols)), 0) := by unfold withB; rw [h, h2]; rfl

def rowW (l : List (List Int)) (q : List Int) (k : Nat) : List Bool := (l.take k).map (hasAllB q) ++ List.replicate (l.length - k) false
def rowI (l : List (List Int)) (q : List Int) (k : Nat) (b : Bool) : List Bool := (l.take k).map (hasAllB q) ++ b :: List.replicate (l.length - (k + 1)) false
theorem rowW_at (l : List (List Int)) (q : List Int) (k : Nat) (h : k < l.length) : rowW l q k = rowI l q k false := by
  unfold rowW rowI
  rw [show l.length - k = (l.length - (k + 1)) + 1 by omega, List.replicate_succ]
theorem rowI_get (l : List (List Int)) (q : List Int) (k : Nat) (b : Bool) (h : k < l.length) : (rowI l q k b)[k]? = some b := by
  unfold rowI
  rw [List.getElem?_append_right (by simp; omega)]
  simp [Nat.min_eq_left (Nat.le_of_lt h)]
theorem rowI_set (l : List (List Int)) (q : List Int) (k : Nat) (b c : Bool) (h : k < l.length) : ((rowI l q k b).map Value.bool).set k (.bool c) = (rowI l q k c).map Value.bool := by
  unfold rowI
  simp only [List.map_append, List.map_cons]
  rw [List.set_append_right _ _ (by simp; omega)]
  simp [Nat.min_eq_left (Nat.le_of_lt h)]
theorem rowI_next (l : List (List Int)) (q : List Int) (k : Nat) (h : k < l.length) : rowI l q k (hasAllB q l[k]) = rowW l q (k + 1) := by
  unfold rowW rowI
  rw [List.take_succ_eq_append_getElem h, List.map_append]
  simp only [List.map_cons, List.map_nil, List.append_assoc, List.singleton_append]

set_option maxHeartbeats 2000000 in
theorem ref5_With (v vl vq : Value) (s : Sg) (l : List (List Int)) (q : List Int) (w : World) (hs : SignAt w v s) (hv : Terms w vl l) (hq : Ints w vq q) (b1 : s.length ≤ 1000) (b2 : l.length ≤ 1000) (b3 : q.length ≤ 1000) :
    Calls Try.prog 16 #[v, vl, vq] w fun e w' => ∃ u, e = .returned (.tuple #[u, .int .i64 (withB s l q).2]) ∧ w'.ownsRow w.heap.size 3 1 u (withB s l q).1.length ((withB s l q).1.map (Value.int .i64)) ∧ Below w.heap.size w w' := by
  obtain ⟨sa, scap, rfl, hs1, hs2, hs3, hsc⟩ := hs.open
  clear hsc hs3
  obtain ⟨la, lcap, rfl, hl1, hl2, hl3, LC⟩ := hv.open
  have LC' := hid LC
  clear LC hl3
  obtain ⟨qa, qcap, rfl, hq1, hq2, hq3, QC⟩ := hq.open
  have QC' := hid QC
  clear QC hq3
  have HQ := hid hq
  clear hq
  cases h1 : shelfB s l
  · have HF := hid (withB_1 (symbols := q) h1)
    go_enter Try.func16, Try.ntmps16
    go_wp2_with (first | (go_at_call 40; refine (ref5_Valid _ _ _ _ _ hs hv).mono ?_; rintro e w' ⟨rfl, m0, rfl⟩))
    go_ret2
    rw [HF.out]
    exact ⟨_, rfl, World.ownsRow_nil _ _ _ _, below_self_drewN _ _⟩
  · have hsl : 1 ≤ s.length := by
      have : signB s = true := by unfold shelfB at h1; simp only [Bool.and_eq_true] at h1; exact h1.1.1
      exact (signB_len this).1
    go_enter Try.func16, Try.ntmps16
    go_wp2_with (first | (go_at_call 40; refine (ref5_Valid _ _ _ _ _ hs hv).mono ?_; rintro e w' ⟨rfl, m0, rfl⟩))
    go_loop [8] (fun i => ∃ k : Nat, k ≤ q.length ∧ i = .int .i64 k ∧ (q.take k).all (fun n => inB n 0 (s.length - 1)) = true) (fun i => q.length - (intOf i).toNat)
    case atStart => exact ⟨0, by omega, rfl, by simp⟩
    case round =>
      obtain ⟨k, hk, rfl, hrel⟩ := hrel
      have HR := hid hrel
      clear hrel
      by_cases hlt : k < q.length
      · obtain ⟨b, o, rfl, hcell⟩ := QC'.out k hlt
        cases h2 : inB q[k] 0 (s.length - 1)
        · have HF := hid (withB_5 (symbols := q) h1 (by rw [List.all_eq_false]; exact ⟨q[k], List.getElem_mem hlt, by simp [h2]⟩))
          go_wp2_with (first | (go_at_call 67; refine (ref5_within _ _ _ _).mono ?_; rintro e w' ⟨rfl, rfl⟩))
          go_ret2
          rw [HF.out]
          exact ⟨_, rfl, World.ownsRow_nil _ _ _ _, below_self_drewN _ _⟩
        · go_wp2_with (first | (go_at_call 67; refine (ref5_within _ _ _ _).mono ?_; rintro e w' ⟨rfl, rfl⟩))
          go_round
          case rel =>
            refine ⟨k + 1, by omega, by go_num, ?_⟩
            rw [List.take_succ_eq_append_getElem hlt, List.all_append, HR.out]
            simp [h2]
          case measure => simp [intOf]; omega
      · have hall : q.all (fun n => inB n 0 (s.length - 1)) = true := by
          have := HR.out; rw [List.take_of_length_le (by omega)] at this; exact this
        have HF := hid (withB_0 h1 hall)
        have HA := hid (fun t => hasAll_range (t := t) hall)
        clear hall
        go_wp2_with (at_make; refine wpList_make_row rfl _ _ 67 rfl w.heap.size 4 el_bool Try.underlying67 rfl l.length rfl rfl (by omega) (by omega) (by simp) ?_; intro g w1 hg0 hg1 hown1 hgrow1)
        have hb1 : Below w.heap.size w w1 := (below_self_drewN w m0).grown hgrow1 (by simp) (fun _ h => by cases h)
        rw [show List.replicate l.length (Value.bool false) = (rowW l q 0).map Value.bool by simp [rowW]] at hown1
        go_loopw [10, 11] (fun i _ wr => ∃ k : Nat, k ≤ l.length ∧ i = .int .i64 k ∧ wr.ownsRow w.heap.size 4 1 (.slice (some ⟨g, 0, none⟩) l.length l.length) l.length ((rowW l q k).map Value.bool) ∧ Below w.heap.size w wr) (fun i _ _ => l.length - (intOf i).toNat)
        case atStart => exact ⟨0, by omega, rfl, hown1, hb1⟩
        case round =>
          clear hown1 hgrow1 hb1 hg1
          obtain ⟨k, hk, rfl, hown, hb⟩ := hrel
          have hbs := hb.size
          by_cases hlt : k < l.length
          · obtain ⟨b, o, u, rfl, hcell0, hu0⟩ := LC'.out k hlt
            obtain ⟨ua, ucap, rfl, _⟩ := hu0.open
            have hc1 := hown.cellAt k (by omega)
            rw [rowW_at l q k hlt, List.getElem?_map, rowI_get l q k false hlt] at hc1
            simp only [Option.map_some] at hc1
            have hf1 := hown.frozenAt k
            have hst := hown.stored k (.bool true)
            rw [rowW_at l q k hlt, rowI_set l q k _ _ hlt] at hst
            have hb2 : Below w.heap.size w (wr.setCell ⟨g, k, none⟩ (.bool true)) := hb.setCell (p := ⟨g, k, none⟩) hg0 _
            have HST := hid hst
            have HB := hid hb2
            clear hst hb2 hown hb
            go_wp2
            obtain ⟨wo, hwo⟩ : ∃ wo : World, wo = wr.setCell ⟨g, k, none⟩ (.bool true) := ⟨_, rfl⟩
            rw [← hwo] at HST HB ⊢
            clear hwo hc1 hf1
            go_loopw [11] (fun i wq => ∃ j : Nat, j ≤ s.length ∧ i = .int .i64 j ∧ wq.ownsRow w.heap.size 4 1 (.slice (some ⟨g, 0, none⟩) l.length l.length) l.length ((rowI l q k ((List.range j).all (fun k' => !(decide ((k' : Int) ∈ q)) || decide ((k' : Int) ∈ l[k])))).map Value.bool) ∧ Below w.heap.size w wq) (fun i _ => s.length - (intOf i).toNat)
            case atStart => exact ⟨0, by omega, rfl, by simpa using HST.out.1, HB.out⟩
            case round =>
              clear HST HB
              obtain ⟨j, hj, rfl, hown, hb⟩ := hrel
              have hbs := hb.size
              by_cases hjs : j < s.length
              · have hq' : Ints wr (.slice qa q.length qcap) q := HQ.out.below hb
                have hu' : Ints wr (.slice ua l[k].length ucap) l[k] := hu0.below hb
                have hcell : wr.cell? ⟨b, o + k, none⟩ = some (.slice ua l[k].length ucap) := (hb.cell (World.block_lt_of_cell? _ _ hcell0)).trans hcell0
                have hrg : (List.range (j + 1)).all (fun k' => !(decide ((k' : Int) ∈ q)) || decide ((k' : Int) ∈ l[k])) = ((List.range j).all (fun k' => !(decide ((k' : Int) ∈ q)) || decide ((k' : Int) ∈ l[k])) && (!(decide ((j : Int) ∈ q)) || decide ((j : Int) ∈ l[k]))) := by
                  rw [List.range_succ, List.all_append]; simp
                have HRG := hid hrg
                clear hrg
                cases h5 : decide ((j : Int) ∈ q)
                · go_wp2_with (first | (go_at_call 19; refine (ref1_Has _ _ _ _ hq').mono ?_; rintro e w' ⟨rfl, rfl⟩))
                  go_roundw
                  case rel => exact ⟨j + 1, by omega, by go_num, by rw [HRG.out, h5, Bool.not_false, Bool.true_or, Bool.and_true]; exact hown, hb⟩
                  case measure => simp [intOf]; omega
                · cases h6 : decide ((j : Int) ∈ l[k])
                  · have hc1 := hown.cellAt k (by omega)
                    rw [List.getElem?_map, rowI_get l q k _ hlt] at hc1
                    simp only [Option.map_some] at hc1
                    have hf1 := hown.frozenAt k
                    have hst := hown.stored k (.bool false)
                    rw [rowI_set l q k _ _ hlt] at hst
                    have hb2 : Below w.heap.size w (wr.setCell ⟨g, k, none⟩ (.bool false)) := hb.setCell (p := ⟨g, k, none⟩) hg0 _
                    have HST := hid hst
                    have HB := hid hb2
                    clear hst hb2 hown hb
                    go_wp2_with (first | (go_at_call 19; first | ((with_reducible refine (ref1_Has _ _ _ _ hq').mono ?_); rintro e w' ⟨rfl, rfl⟩) | ((with_reducible refine (ref1_Has _ _ _ _ hu').mono ?_); rintro e w' ⟨rfl, rfl⟩)))
                    go_roundw
                    case rel => exact ⟨j + 1, by omega, by go_num, by rw [HRG.out, h5, h6, Bool.not_true, Bool.false_or, Bool.and_false]; exact HST.out.1, HB.out⟩
                    case measure => simp [intOf]; omega
                  · go_wp2_with (first | (go_at_call 19; first | ((with_reducible refine (ref1_Has _ _ _ _ hq').mono ?_); rintro e w' ⟨rfl, rfl⟩) | ((with_reducible refine (ref1_Has _ _ _ _ hu').mono ?_); rintro e w' ⟨rfl, rfl⟩)))
                    go_roundw
                    case rel => exact ⟨j + 1, by omega, by go_num, by rw [HRG.out, h5, h6, Bool.not_true, Bool.false_or, Bool.and_true]; exact hown, hb⟩
                    case measure => simp [intOf]; omega
              · have hnx : rowI l q k ((List.range j).all (fun k' => !(decide ((k' : Int) ∈ q)) || decide ((k' : Int) ∈ l[k]))) = rowW l q (k + 1) := by
                  rw [show j = s.length by omega, ← HA.out, rowI_next l q k hlt]
                have HN := hid hnx
                clear hnx
                go_wp2
                go_roundw
                case rel => exact ⟨k + 1, by omega, by go_num, by rw [HN.out] at hown; exact hown, hb⟩
                case measure => simp [intOf]; omega
          · have hfin : rowW l q k = l.map (hasAllB q) := by
              unfold rowW
              rw [List.take_of_length_le (by omega), show l.length - k = 0 by omega]; simp
            have hbo : Bools wr (.slice (some ⟨g, 0, none⟩) l.length l.length) (l.map (hasAllB q)) := by
              have := RowK.of_owns hown (by omega)
              rw [hfin] at this
              unfold Bools
              rw [List.length_map]; exact this
            have HBO := hid hbo
            clear hbo hfin
            go_wp2_with (go_at_call 68; refine (ref5_chosen _ _ _ HBO.out (by simp; omega)).mono ?_; rintro e w2 ⟨uv, rfl, hown2, hb2⟩)
            go_ret2
            rw [HF.out]
            refine ⟨_, rfl, ?_, hb.trans (hb2.mono hb.size)⟩
            exact owns_base hown2 hb.size
end Go.Proofs.Ytiacbdipagbblaa
