/-
  WHAT IT HOLDS: contracts of History and First of the reference of layer 9. Conditions: the arguments read as data; small signs.
-/
import Derived.Test.YtlbjbmpkaniojaaGreatZRBlameMarks45
import Derived.Test.YtlbjbmpkaniojaaGreatZRBlameMarks30
namespace Go.Proofs.YtlbjbmpkaniojaaGreat
open Go Go.RowKit Go.Maps
theorem drop_rev {α : Type} {B : List α} {k : Nat} (h : k < B.length) : (B.drop k).reverse = (B.drop (k + 1)).reverse ++ [B[k]] := by
  rw [List.drop_eq_getElem_cons h, List.reverse_cons]
theorem hist_stop {cs : List Chg} {k : Nat} {c : Chg} {n : Nm} (h : cs[k]? = some c) (hk : c.kind = 1) (hn : c.ent.name = n) : hisL cs (k + 1) n = [(k : Int)] := by
  rw [his_step h, if_neg (by omega), if_pos ⟨Or.inl hk, hn⟩, if_pos hk]
theorem hist_ren {cs : List Chg} {k : Nat} {c : Chg} {n : Nm} (h : cs[k]? = some c) (hk : c.kind = 3) (hn : c.new = n) : hisL cs (k + 1) n = (k : Int) :: hisL cs k c.name := by
  rw [his_step h, if_pos ⟨hk, hn⟩]
theorem hist_set {cs : List Chg} {k : Nat} {c : Chg} {n : Nm} (h : cs[k]? = some c) (hk : c.kind = 2) (hn : c.ent.name = n) : hisL cs (k + 1) n = (k : Int) :: hisL cs k n := by
  rw [his_step h, if_neg (by omega), if_pos ⟨Or.inr hk, hn⟩, if_neg (by omega)]
theorem hist_no {cs : List Chg} {k : Nat} {c : Chg} {n : Nm} (h : cs[k]? = some c) (h1 : ¬ (c.kind = 3 ∧ c.new = n)) (h2 : ¬ ((c.kind = 1 ∨ c.kind = 2) ∧ c.ent.name = n)) : hisL cs (k + 1) n = hisL cs k n := by
  rw [his_step h, if_neg h1, if_neg h2]
def HisQ (R : List Int × Int) (w : World) (e : Ending) (w' : World) : Prop := ∃ u, e = .returned (.tuple #[u, .int .i64 R.2]) ∧ Ints w' u R.1 ∧ Below w.heap.size w w'
theorem HisQ.no {R : List Int × Int} {w w' : World} {er : Int} (hR : R = ([], er)) (h : Below w.heap.size w w') : HisQ R w (.returned (.tuple #[.slice none 0 0, .int .i64 er])) w' := by
  subst hR; exact ⟨_, rfl, Ints.nil _, h⟩
set_option maxHeartbeats 8000000 in
set_option maxRecDepth 100000 in
theorem ref9_History (vs vc : Value) (s : Sg) (cs : List Chg) (n : Nm) (w : World) (hs : SignAt w vs s) (hc : ChsAt w vc cs) (hs1 : s.length ≤ 1000) (hn : n.size ≤ 140737488355328) :
    Calls Tryz.prog 43 #[vs, vc, .string n] w fun e w' => HisQ (histL s cs n) w e w' := by
  have HW := hid (ref9_Played vs (.slice none 0 0) vc s [] cs w hs (EntsAt.nil _) hc hs1 (by simp))
  have HC := hid hc
  obtain ⟨ca, cc, rfl, -, hcl, -⟩ := hc.open
  clear hc hs
  simp only [(played_whole s cs).1, (played_whole s cs).2] at HW
  by_cases h0 : (wholeL s cs).2 = 0
  case neg =>
    have HF := hid (histL_1 (n := n) h0)
    have n0 : ((wholeL s cs).2 != 0) = true := by simpa using h0
    obtain ⟨er, her⟩ : ∃ er, (wholeL s cs).2 = er := ⟨_, rfl⟩
    rw [her] at HF n0 HW
    clear h0 her
    go_enter Tryz.func43, Tryz.ntmps43
    go_wp2_with fail
    refine HW.out.mono ?_
    rintro e w1 ⟨u, rfl, hu, hb1⟩
    obtain ⟨xa, xc, rfl, -⟩ := hu.open
    clear hu
    go_wp2
    go_ret2
    exact HisQ.no HF.out hb1
  have HF2 := hid (histL_2 (n := n) h0)
  have HOK := hid (whole_ok h0)
  rw [h0] at HW
  obtain ⟨L, hL⟩ : ∃ L, (wholeL s cs).1 = L := ⟨_, rfl⟩
  rw [hL] at HF2 HW
  clear h0 hL
  go_enter Tryz.func43, Tryz.ntmps43
  go_wp2_with fail
  refine HW.out.mono ?_
  rintro e w1 ⟨u, rfl, hu, hb1⟩
  obtain ⟨xa, xc, rfl, -⟩ := hu.open
  have HI := hid (ref6_Index _ L n w1 hu)
  have HB1 := hid hb1
  clear hu hb1 HW
  cases hi : idxN L n with
  | none =>
    have HF : Hid (histL s cs n = ([], 5)) := hid (by rw [HF2.out, if_neg (by rw [idxN_hasF hi]; simp)])
    rw [idxI_no hi] at HI
    clear hi
    go_wp2_with (go_at_call 51; refine HI.out.mono ?_; rintro e w5 ⟨rfl, rfl⟩)
    go_ret2
    exact HisQ.no HF.out HB1.out
  | some i =>
    have HF : Hid (histL s cs n = ((hisL cs cs.length n).reverse, 0)) := hid (by rw [HF2.out, if_pos (idxN_hasT hi)])
    rw [idxI_some hi] at HI
    have b0 : ¬ (i : Int) < 0 := by omega
    have HKI := hid (fun c hc => (chgB_iff.1 ((lstL_ok.1 HOK.out.1).2.1 c hc)).kinds)
    have hcl2 := (lstL_ok.1 HOK.out.1).2.2
    have h00 := hid (World.ownsRow_nil w1 w1.heap.size 3 1)
    have hw1 := HB1.out.size
    clear hi HF2 HOK
    go_wp2_with (go_at_call 51; refine HI.out.mono ?_; rintro e w5 ⟨rfl, rfl⟩)
    go_loopw [2, 11, 12] (fun nv uo iv wr => ∃ (k m : Nat) (ii : Int) (nm : Nm) (B : List Int), k ≤ cs.length ∧ nv = .string nm ∧ iv = .int .i64 ii ∧ (k : Int) = ii + 1 ∧ m = B.length ∧ m + k ≤ cs.length ∧ hisL cs cs.length n = B ++ hisL cs k nm ∧ wr.ownsRow w1.heap.size 3 1 uo m (B.map (Value.int .i64)) ∧ Below w.heap.size w wr ∧ w1.heap.size ≤ wr.heap.size) (fun _ _ iv _ => (intOf iv + 1).toNat)
    case atStart => exact ⟨cs.length, 0, (cs.length : Int) - 1, n, [], by omega, rfl, by go_num, by omega, rfl, by omega, rfl, h00.out, HB1.out, Nat.le_refl _⟩
    case round =>
      clear h00 hw1
      obtain ⟨k, m, ii, nm, B, hk, rfl, rfl, hii, hm, hmk, hh, hown, hb, hwz⟩ := hrel
      have hsz := hb.size
      obtain ⟨ua, uc, rfl⟩ := owns_slice hown
      have HOWN := hid hown
      have HB := hid hb
      have HMB := hid hm
      cases k with
      | zero =>
        obtain rfl : ii = -1 := by omega
        have HEND : Hid (hisL cs cs.length n = B) := hid (by rw [hh]; simp [hisL])
        obtain ⟨wq, hwq⟩ : ∃ x : World, x = wr := ⟨_, rfl⟩
        subst hwq
        have hm200 : m ≤ 200 := by omega
        have HBE := HB
        have HOWNE := HOWN
        have HLB := HMB
        clear hii hh hown hb hm hmk
        go_wp2
        go_loopw [13, 14] (fun uo iv wr => ∃ (k n : Nat) (jj : Int), iv = .int .i64 jj ∧ (k : Int) = jj + 1 ∧ n + k = m ∧ wr.ownsRow wq.heap.size 3 1 uo n (((B.drop k).reverse).map (Value.int .i64)) ∧ Below wq.heap.size wq wr) (fun _ iv _ => (intOf iv + 1).toNat)
        case atStart => exact ⟨m, 0, ((m : Nat) : Int) - 1, by go_num, by omega, by omega, by rw [List.drop_of_length_le (by have := HLB.out; omega)]; exact World.ownsRow_nil _ _ _ _, Below.refl _ _⟩
        case round =>
          obtain ⟨k, n, jj, rfl, hjj, hnk, hown, hb⟩ := hrel
          have hsz := hb.size
          obtain ⟨pa, pc, rfl⟩ := owns_slice hown
          have HON := hid hown
          have HBN := hid hb
          cases k with
          | zero =>
            obtain rfl : jj = -1 := by omega
            have hi : Ints wr (.slice pa n pc) B.reverse := by
              have hn : B.reverse.length = n := by rw [List.length_reverse]; have := HLB.out; omega
              have h := HON.out
              rw [List.drop_zero] at h
              exact Ints.of_owns (show wr.ownsRow wq.heap.size 3 1 (.slice pa n pc) B.reverse.length _ from by rw [hn]; exact h) (by omega)
            have HI2 := hid hi
            clear hown hb hjj hi
            go_wp2
            go_ret2
            rw [HF.out, HEND.out]
            exact ⟨_, rfl, HI2.out, HBE.out.trans (HBN.out.mono HBE.out.size)⟩
          | succ k =>
            obtain rfl : jj = (k : Int) := by omega
            have hkB : k < B.length := by have := HLB.out; omega
            have htop := owns_below HOWNE.out hb
            obtain ⟨g0, cap0, he0, -, -⟩ := owns_some htop (by omega)
            cases he0
            have c0 := htop.cellAt k (by omega)
            rw [List.getElem?_map, List.getElem?_eq_getElem hkB] at c0
            simp only [Option.map_some] at c0
            have HDR := hid (drop_rev hkB)
            obtain ⟨z, hz⟩ : ∃ z, B[k] = z := ⟨_, rfl⟩
            rw [hz] at c0 HDR
            have hRA := HON.out.alloc (.cells #[.int .i64 z] 3)
            have hbl : Below wr.heap.size wr (wr.alloc (.cells #[.int .i64 z] 3)) := (Below.refl _ _).alloc (Nat.le_refl _) _
            have HBL := hid hbl
            have b0 : (0 : Int) ≤ (k : Int) := by omega
            have b1 : (k : Int) < ((m : Nat) : Int) := by omega
            clear hown hb hjj htop hz hbl
            go_wp2_with (at_builtin; refine wpList_append_lie rfl _ _ 36 rfl wq.heap.size 3 el_int Tryz.underlying36 rfl (by decide) _ n (((B.drop (k + 1)).reverse).map (Value.int .i64)) rfl hRA _ 1 [.int .i64 z] rfl (row_one_new _ _ _) (oneCell_one rfl) (by omega) (by omega) (by omega) (by simp; omega) _ rfl ?_; intro g9 cap9 w9 hown9 hgrow9 hat9 hlt9)
            go_roundw
            case rel =>
              refine ⟨k, n + 1, (k : Int) - 1, by go_num, by omega, by omega, ?_, (HBN.out.trans (HBL.out.mono hsz)).grown hgrow9 (Nat.le_trans hsz HBL.out.size) (fun q hq => (HON.out.lt q hq).1)⟩
              rw [HDR.out, List.map_append]; simpa using hown9
            case measure => first | (simp [intOf]; done) | (simp [intOf]; omega)
      | succ k =>
        obtain rfl : ii = (k : Int) := by omega
        have hkl : k < cs.length := by omega
        obtain ⟨ca', cc', e', -, -, -, ZC⟩ := HC.out.open
        cases e'
        obtain ⟨cb, co, vS, vU, vP, rfl, z0, z1, z2, z3, z4, -, -, -, -, -⟩ := ZC k hkl
        have hkk := HKI.out _ (List.getElem_mem hkl)
        have hgk : cs[k]? = some cs[k] := List.getElem?_eq_getElem hkl
        obtain ⟨⟨kd, cw, cn, cm, ce⟩, hcx⟩ : ∃ c, cs[k] = c := ⟨_, rfl⟩
        rw [hcx] at z0 z1 z2 z3 z4 hkk hgk
        dsimp only at z0 z1 z2 z3 z4 hkk
        have d0 := cellB z0 hb
        have d1 := cellB z1 hb
        have d2 := cellB z2 hb
        have d3 := cellB z3 hb
        have d4 := cellB z4 hb
        have HDK := hid (fun (X : World) (hX : Below w.heap.size w X) => And.intro (cellB z0 hX) (cellB z4 hX))
        have HGK := hid hgk
        have HH := hid hh
        have b0 : (0 : Int) ≤ (k : Int) := by omega
        have b1 : (k : Int) < (cs.length : Int) := by omega
        clear ZC z0 z1 z2 z3 z4 hcx hgk hh hii hown hb hm
        rcases hkk with rfl | rfl | rfl | rfl
        · by_cases he : ce.name = nm
          · have t1 : (ce.name.toList == nm.toList) = true := by rw [bytes_eq]; simpa using he
            have HEND : Hid (hisL cs cs.length n = B ++ [(k : Int)]) := hid (by rw [HH.out, hist_stop HGK.out rfl he])
            clear he
            have hRA := HOWN.out.alloc (.cells #[.int .i64 k] 3); have HBL := hid (show Below wr.heap.size wr (wr.alloc (.cells #[.int .i64 k] 3)) from (Below.refl _ _).alloc (Nat.le_refl _) _); go_wp2_with (at_builtin; refine wpList_append_lie rfl _ _ 36 rfl w1.heap.size 3 el_int Tryz.underlying36 rfl (by decide) _ m (B.map (Value.int .i64)) rfl hRA _ 1 [.int .i64 k] rfl (row_one_new _ _ _) (oneCell_one rfl) (by omega) (by omega) (by omega) (by simp; omega) _ rfl ?_; intro g8 cap8 w8 hown8 hgrow8 hat8 hlt8; have hb8 : Below w.heap.size w w8 := (HB.out.trans (HBL.out.mono hsz)).grown hgrow8 (Nat.le_trans hsz HBL.out.size) (fun q hq => Nat.le_trans HB1.out.size (HOWN.out.lt q hq).1); have hz8 : w1.heap.size ≤ w8.heap.size := Nat.le_trans (Nat.le_trans hwz HBL.out.size) hgrow8.size; obtain ⟨d0, d4⟩ := HDK.out w8 hb8)
            obtain ⟨B2, hB2⟩ : ∃ B2, B ++ [(k : Int)] = B2 := ⟨_, rfl⟩
            have hown2 : w8.ownsRow w1.heap.size 3 1 (.slice (some ⟨g8, 0, none⟩) (m + 1) cap8) (m + 1) (B2.map (Value.int .i64)) := by rw [← hB2]; simpa using hown8
            have HLB : Hid (m + 1 = B2.length) := hid (by rw [← hB2]; simp [HMB.out])
            rw [hB2] at HEND
            have HOWNE := hid hown2
            have HBE := hid hb8
            have hm200 : m + 1 ≤ 200 := by omega
            clear hown2 hown8 hgrow8 hat8 hb8 hB2 d0 d4 hRA
            go_wp2
            go_loopw [13, 14] (fun uo iv wr => ∃ (k n : Nat) (jj : Int), iv = .int .i64 jj ∧ (k : Int) = jj + 1 ∧ n + k = (m + 1) ∧ wr.ownsRow w8.heap.size 3 1 uo n (((B2.drop k).reverse).map (Value.int .i64)) ∧ Below w8.heap.size w8 wr) (fun _ iv _ => (intOf iv + 1).toNat)
            case atStart => exact ⟨(m + 1), 0, (((m + 1) : Nat) : Int) - 1, by go_num, by omega, by omega, by rw [List.drop_of_length_le (by have := HLB.out; omega)]; exact World.ownsRow_nil _ _ _ _, Below.refl _ _⟩
            case round =>
              obtain ⟨k, n, jj, rfl, hjj, hnk, hown, hb⟩ := hrel
              have hsz := hb.size
              obtain ⟨pa, pc, rfl⟩ := owns_slice hown
              have HON := hid hown
              have HBN := hid hb
              cases k with
              | zero =>
                obtain rfl : jj = -1 := by omega
                have hi : Ints wr (.slice pa n pc) B2.reverse := by
                  have hn : B2.reverse.length = n := by rw [List.length_reverse]; have := HLB.out; omega
                  have h := HON.out
                  rw [List.drop_zero] at h
                  exact Ints.of_owns (show wr.ownsRow w8.heap.size 3 1 (.slice pa n pc) B2.reverse.length _ from by rw [hn]; exact h) (by omega)
                have HI2 := hid hi
                clear hown hb hjj hi
                go_wp2
                go_ret2
                rw [HF.out, HEND.out]
                exact ⟨_, rfl, HI2.out, HBE.out.trans (HBN.out.mono HBE.out.size)⟩
              | succ k =>
                obtain rfl : jj = (k : Int) := by omega
                have hkB : k < B2.length := by have := HLB.out; omega
                have htop := owns_below HOWNE.out hb
                obtain ⟨g0, cap0, he0, -, -⟩ := owns_some htop (by omega)
                cases he0
                have c0 := htop.cellAt k (by omega)
                rw [List.getElem?_map, List.getElem?_eq_getElem hkB] at c0
                simp only [Option.map_some] at c0
                have HDR := hid (drop_rev hkB)
                obtain ⟨z, hz⟩ : ∃ z, B2[k] = z := ⟨_, rfl⟩
                rw [hz] at c0 HDR
                have hRA := HON.out.alloc (.cells #[.int .i64 z] 3)
                have hbl : Below wr.heap.size wr (wr.alloc (.cells #[.int .i64 z] 3)) := (Below.refl _ _).alloc (Nat.le_refl _) _
                have HBL := hid hbl
                have b0 : (0 : Int) ≤ (k : Int) := by omega
                have b1 : (k : Int) < (((m + 1) : Nat) : Int) := by omega
                clear hown hb hjj htop hz hbl
                go_wp2_with (at_builtin; refine wpList_append_lie rfl _ _ 36 rfl w8.heap.size 3 el_int Tryz.underlying36 rfl (by decide) _ n (((B2.drop (k + 1)).reverse).map (Value.int .i64)) rfl hRA _ 1 [.int .i64 z] rfl (row_one_new _ _ _) (oneCell_one rfl) (by omega) (by omega) (by omega) (by simp; omega) _ rfl ?_; intro g9 cap9 w9 hown9 hgrow9 hat9 hlt9)
                go_roundw
                case rel =>
                  refine ⟨k, n + 1, (k : Int) - 1, by go_num, by omega, by omega, ?_, (HBN.out.trans (HBL.out.mono hsz)).grown hgrow9 (Nat.le_trans hsz HBL.out.size) (fun q hq => (HON.out.lt q hq).1)⟩
                  rw [HDR.out, List.map_append]; simpa using hown9
                case measure => first | (simp [intOf]; done) | (simp [intOf]; omega)
          · have t1 : (ce.name.toList == nm.toList) = false := by rw [bytes_eq]; simpa using he
            have HN : Hid (hisL cs cs.length n = B ++ hisL cs k nm) := hid (by rw [HH.out, hist_no HGK.out (by simp) (by simp [he])])
            clear he
            go_wp2; go_roundw; (case rel => exact ⟨k, m, _, nm, B, by omega, rfl, by go_num, by omega, HMB.out, by omega, HN.out, HOWN.out, HB.out, hwz⟩); (case measure => first | (simp [intOf]; done) | (simp [intOf]; omega))
        · by_cases he : ce.name = nm
          · have t1 : (ce.name.toList == nm.toList) = true := by rw [bytes_eq]; simpa using he
            have HN : Hid (hisL cs cs.length n = (B ++ [(k : Int)]) ++ hisL cs k nm) := hid (by rw [HH.out, hist_set HGK.out rfl he, List.append_assoc]; rfl)
            clear he
            have hRA := HOWN.out.alloc (.cells #[.int .i64 k] 3); have HBL := hid (show Below wr.heap.size wr (wr.alloc (.cells #[.int .i64 k] 3)) from (Below.refl _ _).alloc (Nat.le_refl _) _); go_wp2_with (at_builtin; refine wpList_append_lie rfl _ _ 36 rfl w1.heap.size 3 el_int Tryz.underlying36 rfl (by decide) _ m (B.map (Value.int .i64)) rfl hRA _ 1 [.int .i64 k] rfl (row_one_new _ _ _) (oneCell_one rfl) (by omega) (by omega) (by omega) (by simp; omega) _ rfl ?_; intro g8 cap8 w8 hown8 hgrow8 hat8 hlt8; have hb8 : Below w.heap.size w w8 := (HB.out.trans (HBL.out.mono hsz)).grown hgrow8 (Nat.le_trans hsz HBL.out.size) (fun q hq => Nat.le_trans HB1.out.size (HOWN.out.lt q hq).1); have hz8 : w1.heap.size ≤ w8.heap.size := Nat.le_trans (Nat.le_trans hwz HBL.out.size) hgrow8.size; obtain ⟨d0, d4⟩ := HDK.out w8 hb8)
            go_roundw; (case rel => exact ⟨k, m + 1, _, _, B ++ [(k : Int)], by omega, rfl, by go_num, by omega, by simp [HMB.out], by omega, HN.out, by simpa using hown8, hb8, hz8⟩); (case measure => first | (simp [intOf]; done) | (simp [intOf]; omega))
          · have t1 : (ce.name.toList == nm.toList) = false := by rw [bytes_eq]; simpa using he
            have HN : Hid (hisL cs cs.length n = B ++ hisL cs k nm) := hid (by rw [HH.out, hist_no HGK.out (by simp) (by simp [he])])
            clear he
            go_wp2; go_roundw; (case rel => exact ⟨k, m, _, nm, B, by omega, rfl, by go_num, by omega, HMB.out, by omega, HN.out, HOWN.out, HB.out, hwz⟩); (case measure => first | (simp [intOf]; done) | (simp [intOf]; omega))
        · by_cases he : cm = nm
          · have t1 : (cm.toList == nm.toList) = true := by rw [bytes_eq]; simpa using he
            have HN : Hid (hisL cs cs.length n = (B ++ [(k : Int)]) ++ hisL cs k cn) := hid (by rw [HH.out, hist_ren HGK.out rfl he, List.append_assoc]; rfl)
            clear he
            have hRA := HOWN.out.alloc (.cells #[.int .i64 k] 3); have HBL := hid (show Below wr.heap.size wr (wr.alloc (.cells #[.int .i64 k] 3)) from (Below.refl _ _).alloc (Nat.le_refl _) _); go_wp2_with (at_builtin; refine wpList_append_lie rfl _ _ 36 rfl w1.heap.size 3 el_int Tryz.underlying36 rfl (by decide) _ m (B.map (Value.int .i64)) rfl hRA _ 1 [.int .i64 k] rfl (row_one_new _ _ _) (oneCell_one rfl) (by omega) (by omega) (by omega) (by simp; omega) _ rfl ?_; intro g8 cap8 w8 hown8 hgrow8 hat8 hlt8; have hb8 : Below w.heap.size w w8 := (HB.out.trans (HBL.out.mono hsz)).grown hgrow8 (Nat.le_trans hsz HBL.out.size) (fun q hq => Nat.le_trans HB1.out.size (HOWN.out.lt q hq).1); have hz8 : w1.heap.size ≤ w8.heap.size := Nat.le_trans (Nat.le_trans hwz HBL.out.size) hgrow8.size; obtain ⟨d0, d4⟩ := HDK.out w8 hb8)
            go_roundw; (case rel => exact ⟨k, m + 1, _, _, B ++ [(k : Int)], by omega, rfl, by go_num, by omega, by simp [HMB.out], by omega, HN.out, by simpa using hown8, hb8, hz8⟩); (case measure => first | (simp [intOf]; done) | (simp [intOf]; omega))
          · have t1 : (cm.toList == nm.toList) = false := by rw [bytes_eq]; simpa using he
            have HN : Hid (hisL cs cs.length n = B ++ hisL cs k nm) := hid (by rw [HH.out, hist_no HGK.out (by simp [he]) (by simp)])
            clear he
            go_wp2; go_roundw; (case rel => exact ⟨k, m, _, nm, B, by omega, rfl, by go_num, by omega, HMB.out, by omega, HN.out, HOWN.out, HB.out, hwz⟩); (case measure => first | (simp [intOf]; done) | (simp [intOf]; omega))
        · have HN : Hid (hisL cs cs.length n = B ++ hisL cs k nm) := hid (by rw [HH.out, hist_no HGK.out (by simp) (by simp)])
          go_wp2; go_roundw; (case rel => exact ⟨k, m, _, nm, B, by omega, rfl, by go_num, by omega, HMB.out, by omega, HN.out, HOWN.out, HB.out, hwz⟩); (case measure => first | (simp [intOf]; done) | (simp [intOf]; omega))
def hitL (s : Sg) (t : List Int) (l : List En) : Bool := l.any fun x => instB s x.says t
def firG (f : Nat → Bool) : Nat → Nat → Option Nat
  | 0, _ => none
  | m + 1, k => if f k then some k else firG f m (k + 1)
theorem firG_some {f : Nat → Bool} : ∀ (m k j : Nat), k ≤ j → j < k + m → f j = true → (∀ i, k ≤ i → i < j → f i = false) → firG f m k = some j
  | 0, k, j, h1, h2, _, _ => by omega
  | m + 1, k, j, h1, h2, h3, h4 => by
    unfold firG
    by_cases e : k = j
    · subst e; rw [if_pos h3]
    · rw [if_neg (by rw [h4 k (Nat.le_refl _) (by omega)]; simp)]
      exact firG_some m (k + 1) j (by omega) (by omega) h3 fun i h5 h6 => h4 i (by omega) h6
theorem firG_none {f : Nat → Bool} : ∀ (m k : Nat), (∀ i, k ≤ i → i < k + m → f i = false) → firG f m k = none
  | 0, _, _ => rfl
  | m + 1, k, h => by
    unfold firG
    rw [if_neg (by rw [h k (Nat.le_refl _) (by omega)]; simp)]
    exact firG_none m (k + 1) fun i h5 h6 => h i (by omega) (by omega)
def firF (s : Sg) (cs : List Chg) (t : List Int) : Option Nat := firG (fun k => hitL s t (stL [] (cs.take (k + 1)))) cs.length 0
def firL (s : Sg) (cs : List Chg) (t : List Int) : Int × Int := if ((signB s && cs.all (chgB s)) && termB s t) = true then (if (wholeL s cs).2 = 0 then (match firF s cs t with | some k => (((k + 1 : Nat) : Int), 0) | none => (0, 8)) else (0, (wholeL s cs).2)) else (0, 1)
theorem term_sign {s : Sg} {t : List Int} (h : termB s t = true) : signB s = true := by
  unfold termB at h
  rw [Bool.and_eq_true, Bool.and_eq_true] at h
  exact h.1.1
theorem firL_1 {s : Sg} {cs : List Chg} {t : List Int} (h : termB s t = false ∨ (signB s && cs.all (chgB s)) = false) : firL s cs t = (0, 1) := by
  unfold firL
  rw [if_neg]
  rcases h with h | h
  · rw [h, Bool.and_false]; simp
  · rw [h, Bool.false_and]; simp
theorem firL_2 {s : Sg} {cs : List Chg} {t : List Int} (h : (wholeL s cs).2 ≠ 0) (ht : termB s t = true) : firL s cs t = (0, (wholeL s cs).2) := by
  cases hc : (signB s && cs.all (chgB s)) with
  | true => unfold firL; rw [hc, ht, if_pos (by rfl), if_neg h]
  | false =>
    rw [firL_1 (Or.inr hc)]
    have e : lstL s cs = 1 := by unfold lstL; rw [hc]; rfl
    unfold wholeL
    rw [e, if_neg (by omega)]
theorem firL_3 {s : Sg} {cs : List Chg} {t : List Int} (h : (wholeL s cs).2 = 0) (ht : termB s t = true) : firL s cs t = match firF s cs t with | some k => (((k + 1 : Nat) : Int), 0) | none => (0, 8) := by
  have h1 := (whole_ok h).1
  have hc : (signB s && cs.all (chgB s)) = true := by
    obtain ⟨g1, g2, -⟩ := lstL_ok.1 h1
    rw [g1, List.all_eq_true.2 g2]; rfl
  unfold firL; rw [hc, ht, if_pos (by rfl), if_pos h]
theorem firL_hit {s : Sg} {cs : List Chg} {t : List Int} (h : (wholeL s cs).2 = 0) (ht : termB s t = true) {k : Nat} (hk : k < cs.length) (hh : hitL s t (stL [] (cs.take (k + 1))) = true) (hn : ∀ j, j < k → hitL s t (stL [] (cs.take (j + 1))) = false) : firL s cs t = (((k + 1 : Nat) : Int), 0) := by
  rw [firL_3 h ht]
  have : firF s cs t = some k := firG_some _ _ _ (Nat.zero_le _) (by omega) hh fun i _ hi => hn i hi
  rw [this]
theorem firL_no {s : Sg} {cs : List Chg} {t : List Int} (h : (wholeL s cs).2 = 0) (ht : termB s t = true) (hn : ∀ j, j < cs.length → hitL s t (stL [] (cs.take (j + 1))) = false) : firL s cs t = (0, 8) := by
  rw [firL_3 h ht]
  have : firF s cs t = none := firG_none _ _ fun i _ hi => hn i (by omega)
  rw [this]
theorem take_play {cs : List Chg} (h : (playL [] cs 0).2.2 = 0) (k : Nat) : (playL [] (cs.take k) 0).1 = stL [] (cs.take k) ∧ (playL [] (cs.take k) 0).2.2 = 0 := by
  have h1 : (playL [] (cs.take k) 0).2.2 = 0 := playL_pre (cs.take k) (cs.drop k) [] 0 (by rw [List.take_append_drop]; exact h)
  exact ⟨(play_all _ [] 0 h1).2, h1⟩
set_option maxHeartbeats 8000000 in
set_option maxRecDepth 100000 in
theorem ref9_First (vs vc vt : Value) (s : Sg) (cs : List Chg) (t : List Int) (w : World) (hs : SignAt w vs s) (hc : ChsAt w vc cs) (ht : Ints w vt t) (hs1 : s.length ≤ 1000) :
    Calls Tryz.prog 46 #[vs, vc, vt] w fun e w' => e = .returned (.tuple #[.int .i64 (firL s cs t).1, .int .i64 (firL s cs t).2]) ∧ Below w.heap.size w w' := by
  have HAS := hid (ref9_asked vs (.slice none 0 0) (.slice none 0 0) s [] [] w hs (EntsAt.nil _) (ChsAt.nil _) hs1 (by simp))
  rw [ask_nil] at HAS
  have HVA := hid (fun (X : World) (hX : Below w.heap.size w X) => ref1_Valid vs vt s t X (hs.below hX) (ht.below hX))
  have HPD := hid (fun (X : World) (hX : Below w.heap.size w X) => ref9_Played vs (.slice none 0 0) vc s [] cs X (hs.below hX) (EntsAt.nil _) (hc.below hX) hs1 (by simp))
  have HC := hid hc
  have HS := hid hs
  have HT := hid ht
  obtain ⟨sp, sc, rfl, -⟩ := hs.open
  obtain ⟨ca, cc, rfl, hcap, hcl, -⟩ := hc.open
  obtain ⟨ta, tc, rfl, -⟩ := ht.open
  clear hc hs ht
  simp only [(played_whole s cs).1, (played_whole s cs).2] at HPD
  cases htm : termB s t with
  | false =>
    have HF := hid (firL_1 (cs := cs) (Or.inl htm))
    simp only [htm] at HVA
    clear htm
    by_cases her : lstL s [] = 0
    · rw [her] at HAS
      clear her
      go_enter Tryz.func46, Tryz.ntmps46
      go_wp2_with fail
      refine HAS.out.mono ?_
      rintro e w1 ⟨rfl, hb1⟩
      have HB1 := hid hb1
      have HV1 := hid (HVA.out w1 hb1)
      clear hb1
      go_wp2_with fail
      refine HV1.out.mono ?_
      rintro e w2 ⟨rfl, n2, hw2⟩
      have HB2 := hid (HB1.out.trans ((show Below w1.heap.size w1 w2 from hw2 ▸ below_self_drewN _ _).mono HB1.out.size))
      clear hw2
      go_wp2
      go_ret2
      rw [HF.out]
      exact ⟨rfl, HB2.out⟩
    · have n0 : (lstL s [] != 0) = true := by simpa using her
      clear her
      go_enter Tryz.func46, Tryz.ntmps46
      go_wp2_with fail
      refine HAS.out.mono ?_
      rintro e w1 ⟨rfl, hb1⟩
      have HB1 := hid hb1
      clear hb1
      go_wp2
      go_ret2
      rw [HF.out]
      exact ⟨rfl, HB1.out⟩
  | true =>
    have hz : lstL s [] = 0 := by unfold lstL; rw [term_sign htm]; rfl
    rw [hz] at HAS
    simp only [htm] at HVA
    have HTM := hid htm
    clear hz htm
    go_enter Tryz.func46, Tryz.ntmps46
    go_wp2_with fail
    refine HAS.out.mono ?_
    rintro e w1 ⟨rfl, hb1⟩
    have HB1 := hid hb1
    have HV1 := hid (HVA.out w1 hb1)
    clear hb1 HAS
    go_wp2_with fail
    refine HV1.out.mono ?_
    rintro e w2 ⟨rfl, n2, hw2⟩
    have HB2 := hid (HB1.out.trans ((show Below w1.heap.size w1 w2 from hw2 ▸ below_self_drewN _ _).mono HB1.out.size))
    have HP2 := hid (HPD.out w2 HB2.out)
    clear hw2 HV1 HVA HPD
    by_cases h0 : (wholeL s cs).2 = 0
    case neg =>
      have HF := hid (firL_2 h0 HTM.out)
      have n0 : ((wholeL s cs).2 != 0) = true := by simpa using h0
      obtain ⟨er, her⟩ : ∃ er, (wholeL s cs).2 = er := ⟨_, rfl⟩
      rw [her] at HF n0 HP2
      clear h0 her
      go_wp2_with fail
      refine HP2.out.mono ?_
      rintro e w3 ⟨u, rfl, hu, hb3⟩
      obtain ⟨xa, xc, rfl, -⟩ := hu.open
      have HB3 := hid (HB2.out.trans (hb3.mono HB2.out.size))
      clear hu hb3
      go_wp2
      go_ret2
      rw [HF.out]
      exact ⟨rfl, HB3.out⟩
    have HHIT := hid (fun (k : Nat) (hk : k < cs.length) (hh : hitL s t (stL [] (cs.take (k + 1))) = true) (hn : ∀ j, j < k → hitL s t (stL [] (cs.take (j + 1))) = false) => firL_hit h0 HTM.out hk hh hn)
    have HNO := hid (fun (hn : ∀ j, j < cs.length → hitL s t (stL [] (cs.take (j + 1))) = false) => firL_no h0 HTM.out hn)
    have HOK := hid (whole_ok h0)
    have HLL := hid (lstL_ok.1 HOK.out.1)
    rw [h0] at HP2
    clear h0
    go_wp2_with fail
    refine HP2.out.mono ?_
    rintro e w3 ⟨u, rfl, hu, hb3⟩
    obtain ⟨xa, xc, rfl, -⟩ := hu.open
    have HB3 := hid (HB2.out.trans (hb3.mono HB2.out.size))
    clear hu hb3 HP2
    go_wp2
    go_loopw [12] (fun nv wr => ∃ nn : Nat, 1 ≤ nn ∧ nn ≤ cs.length + 1 ∧ nv = .int .i64 nn ∧ (∀ j, j + 1 < nn → hitL s t (stL [] (cs.take (j + 1))) = false) ∧ Below w.heap.size w wr) (fun nv _ => cs.length + 1 - (intOf nv).toNat)
    case atStart => exact ⟨1, by omega, by omega, rfl, fun j h => by omega, HB3.out⟩
    case round =>
      obtain ⟨nn, h1, h2, rfl, hno, hb⟩ := hrel
      have HNN := hid hno
      have HBR := hid hb
      have hsz := hb.size
      clear hno hb
      by_cases hlt : nn ≤ cs.length
      · obtain ⟨k, rfl⟩ : ∃ k, nn = k + 1 := ⟨nn - 1, by omega⟩
        have hST := HLL.out
        have hed := st_ed hST.1 hST.2.1 HOK.out.2.1 (k + 1) hlt
        obtain ⟨p1, p2⟩ := take_play HOK.out.2.1 (k + 1)
        have HPY := hid (ref9_play (.slice none 0 0) (.slice ca (k + 1) cc) s [] (cs.take (k + 1)) wr (EntsAt.nil _) ((HC.out.below HBR.out).take (k + 1) hlt) (edB_nil hST.1) (fun c hc => hST.2.1 c (List.mem_of_mem_take hc)))
        rw [p1] at HPY
        have hl60 := (edB_iff.1 hed).1.len
        obtain ⟨LL, hLL⟩ : ∃ LL, stL [] (cs.take (k + 1)) = LL := ⟨_, rfl⟩
        rw [hLL] at HPY hl60
        have HLS := hid hLL
        obtain ⟨i1, hi1⟩ : ∃ i1, (playL [] (cs.take (k + 1)) 0).2.1 = i1 := ⟨_, rfl⟩
        rw [hi1, p2] at HPY
        obtain ⟨nn, hnn⟩ : ∃ nn, nn = k + 1 := ⟨_, rfl⟩
        have HKN := hid hnn
        rw [← hnn] at HPY h1 h2 hlt HNN ⊢
        have y1 : (nn : Int) ≤ (cs.length : Int) := by omega
        have y2 : (nn : Int) ≤ (cc : Int) := by omega
        have y3 : (0 : Int) ≤ (nn : Int) := by omega
        clear hST hed p1 p2 hLL hi1 hnn
        go_wp2_with fail
        refine HPY.out.mono ?_
        rintro e w4 ⟨u4, rfl, hu4, hb4⟩
        obtain ⟨ya, yc, rfl, -, -, -, ZY⟩ := hu4.open
        have HZY := hid ZY
        have HB4 := hid (HBR.out.trans (hb4.mono hsz))
        have hs4 := HB4.out.size
        clear hu4 hb4 HPY ZY
        go_wp2
        go_loopw [16] (fun jv wy => ∃ j : Nat, j ≤ LL.length ∧ jv = .int .i64 j ∧ (∀ i (h : i < LL.length), i < j → instB s LL[i].says t = false) ∧ Below w4.heap.size w4 wy) (fun jv _ => LL.length - (intOf jv).toNat)
        case atStart => exact ⟨0, by omega, rfl, fun i _ h => by omega, Below.refl _ _⟩
        case round =>
          obtain ⟨j, hj, rfl, hni, hb⟩ := hrel
          have HNI := hid hni
          have HBY := hid hb
          have HBWY := hid (HB4.out.trans (hb.mono hs4))
          by_cases hjl : j < LL.length
          · obtain ⟨b, o, xS, xU, xP, rfl, d0, d1, d2, d3, d4, he⟩ := HZY.out j hjl
            have c2 := cellB d2 hb
            have HIN := hid (ref2_Instance _ _ _ s LL[j].says t wr (HS.out.below HBWY.out) ((he.below hb).s) (HT.out.below HBWY.out) hs1)
            obtain ⟨sa, sk, rfl, -⟩ := he.s.open
            obtain ⟨x, hx⟩ : ∃ x, LL[j].says = x := ⟨_, rfl⟩
            have HX := hid hx
            rw [hx] at c2 HIN
            clear d0 d1 d2 d3 d4 he hx hni hb
            cases hz : instB s x t with
            | true =>
              have HHH : Hid (firL s cs t = ((nn : Int), 0)) := hid (by
                have e1 := HKN.out
                subst e1
                refine HHIT.out k (by omega) ?_ fun j hj => HNN.out j (by omega)
                rw [HLS.out]
                unfold hitL
                rw [List.any_eq_true]
                exact ⟨_, List.getElem_mem hjl, by rw [HX.out]; exact hz⟩)
              rw [hz] at HIN
              clear hz
              go_wp2_with fail
              refine HIN.out.mono ?_
              rintro e w6 ⟨rfl, hb6⟩
              have HB6 := hid (HBWY.out.trans (hb6.mono HBWY.out.size))
              clear hb6
              go_wp2
              go_ret2
              rw [HHH.out]
              exact ⟨rfl, HB6.out⟩
            | false =>
              have HNJ : Hid (∀ i (h : i < LL.length), i < j + 1 → instB s LL[i].says t = false) := hid (fun i h hi => by
                by_cases e : i = j
                · subst e; rw [HX.out]; exact hz
                · exact HNI.out i h (by omega))
              rw [hz] at HIN
              clear hz
              go_wp2_with fail
              refine HIN.out.mono ?_
              rintro e w6 ⟨rfl, hb6⟩
              have HB6 := hid (HBY.out.trans (hb6.mono HBY.out.size))
              clear hb6
              go_wp2
              go_roundw
              case rel => exact ⟨j + 1, by omega, by go_num, HNJ.out, HB6.out⟩
              case measure => simp [intOf]; omega
          · have HNB : Hid (∀ j, j + 1 < nn + 1 → hitL s t (stL [] (cs.take (j + 1))) = false) := hid (fun i hi => by
              by_cases e : i = k
              · subst e
                rw [HLS.out]
                unfold hitL
                rw [List.any_eq_false]
                intro x hx
                obtain ⟨q, hq, rfl⟩ := List.getElem_of_mem hx
                rw [HNI.out q hq (by omega)]; simp
              · exact HNN.out i (by have := HKN.out; omega))
            clear hni hb
            go_wp2
            go_roundw
            case rel => exact ⟨nn + 1, by omega, by omega, by go_num, HNB.out, HBWY.out⟩
            case measure => simp [intOf]; omega
      · have HF := hid (HNO.out fun j hj => HNN.out j (by omega))
        go_wp2
        go_ret2
        rw [HF.out]
        exact ⟨rfl, HBR.out⟩
end Go.Proofs.YtlbjbmpkaniojaaGreat
