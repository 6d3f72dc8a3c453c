/-
  WHAT IT HOLDS: contracts of listError, MeetAll, JoinAll of the reference of layer 2. Conditions: the arguments read as data; small signs.
-/
import Derived.Test.YtidigpfiagjeiaaZRUnifyLists36
import Derived.Test.YtidigpfiagjeiaaZRUnifyLists42
import Derived.Test.YtidigpfiagjeiaaZRUnifyLists43
import Derived.Test.YtidigpfiagjeiaaZRUnifyLists39
import Derived.Test.YtidigpfiagjeiaaZRUnifyLists8
import Derived.Test.YtidigpfiagjeiaaZRUnifyLists44
namespace Go.Proofs.Ytidigpfiagjeiaa
open Go Go.RowKit Go.Maps
set_option maxRecDepth 100000 in
theorem ref2_listError (vs vl : Value) (s : Sg) (l : List (List Int)) (w : World) (hs : SignAt w vs s) (hv : Terms w vl l) :
    Calls Try.prog 75 #[vs, vl] w fun e w' => e = .returned (.int .i64 (listE s l)) ∧ Below w.heap.size w w' := by
  obtain ⟨la, lcap, hle, -, hl2, -, -⟩ := hv.open
  subst hle
  have HVS := hid (ref1_ValidSign vs s w hs)
  have HAV := hid (fun (X : World) (hX : Below w.heap.size w X) => ref1_AllValid vs _ s l X (hs.below hX) (hv.below hX))
  have HW := hid (fun X => ref2_within l.length 1 60 X)
  clear hs hv
  cases h2 : signB s
  · have HE : Hid (listE s l = 1) := hid (listE_sign h2)
    simp only [h2] at HVS
    clear h2
    rw [HE.out]
    go_enter Try.func75, Try.ntmps75
    go_wp2_with fail
    refine HVS.out.mono ?_
    rintro e w1 ⟨rfl, n1, rfl⟩
    go_wp2
    go_ret
    exact ⟨rfl, below_self_drewN w n1⟩
  · simp only [h2] at HVS
    cases h3 : allB s l
    · have HE : Hid (listE s l = 1) := hid (listE_all h3)
      simp only [h3] at HAV
      clear h2 h3
      rw [HE.out]
      go_enter Try.func75, Try.ntmps75
      go_wp2_with fail
      refine HVS.out.mono ?_
      rintro e w1 ⟨rfl, n1, rfl⟩
      have hb1 := below_self_drewN w n1
      go_wp2_with fail
      refine (HAV.out _ hb1).mono ?_
      rintro e w2 ⟨rfl, n2, rfl⟩
      have hb2 := below_drewN hb1 n2
      rw [World.drewN_drewN] at hb2
      go_wp2
      go_ret
      exact ⟨rfl, hb2⟩
    · simp only [h3] at HAV
      cases h4 : inB l.length 1 60
      all_goals
        first
        | have HE : Hid (listE s l = 7) := hid (listE_len h2 h3 h4)
        | have HE : Hid (listE s l = 0) := hid (listE_ok h2 h3 h4)
        simp only [h4] at HW
        clear h2 h3 h4
        rw [HE.out]
        go_enter Try.func75, Try.ntmps75
        go_wp2_with fail
        refine HVS.out.mono ?_
        rintro e w1 ⟨rfl, n1, rfl⟩
        have hb1 := below_self_drewN w n1
        go_wp2_with fail
        refine (HAV.out _ hb1).mono ?_
        rintro e w2 ⟨rfl, n2, rfl⟩
        have hb2 := below_drewN hb1 n2
        rw [World.drewN_drewN] at hb2
        go_wp2_with fail
        refine (HW.out _).mono ?_
        rintro e w3 ⟨rfl, rfl⟩
        go_wp2
        go_ret
        exact ⟨rfl, hb2⟩
set_option maxHeartbeats 2000000 in
set_option maxRecDepth 100000 in
theorem ref2_MeetAll (vs vl : Value) (s : Sg) (l : List (List Int)) (w : World) (hs : SignAt w vs s) (hv : Terms w vl l) :
    Calls Try.prog 28 #[vs, vl] w (FolPost s (MeetR s) l w) := by
  have HLE := hid (ref2_listError vs vl s l w hs hv)
  obtain ⟨la, lcap, hle, hlc, hl2, -, HC⟩ := hv.open
  subst hle
  have HC' := hid HC
  have HS := hid hs
  clear HC hv hs
  by_cases hE : listE s l = 0
  · rw [hE] at HLE
    obtain ⟨e1, e2, e3, e4⟩ := listE_zero.1 hE
    have HALL := hid e2
    obtain ⟨n, hn⟩ : ∃ n, l.length = n := ⟨_, rfl⟩
    rw [hn] at e3 e4 hlc hl2 ⊢
    rw [hn] at HLE
    obtain ⟨t, ts, rfl⟩ : ∃ t ts, l = t :: ts := by
      cases l with
      | nil => simp at hn; omega
      | cons t ts => exact ⟨t, ts, rfl⟩
    have HF : Hid (∀ x, FoldG (MeetR s) (canonL t, 0) ts x → FoldR s (MeetR s) (t :: ts) x) := hid (fun x hx => Or.inr ⟨hE, t, ts, rfl, hx⟩)
    have htv := e2 t (by simp)
    have HTL := hid (termB_facts htv).2.2.2
    have hT := termB_T htv
    have HTR := hid (T_mil htv)
    have ht0 := hT.ne
    obtain ⟨b, o, x, rfl, hc0, hx0⟩ := HC'.out 0 (by simp)
    simp only [List.getElem_cons_zero] at hx0
    obtain ⟨xa, xc, rfl, -⟩ := hx0.open
    have hn' : n = ts.length + 1 := by simp at hn; omega
    have hn0 : 0 < n := by omega
    have HN := hid hn'
    have HX0 := hid hx0
    have HC0 := hid hc0
    clear hE e1 e2 htv hT hx0 hc0 hn hn'
    go_enter Try.func28, Try.ntmps28
    go_wp2_with fail
    refine HLE.out.mono ?_
    rintro e w1 ⟨rfl, hb1⟩
    have HB1 := hid hb1
    have hx2 : w1.cell? ⟨b, o + 0, none⟩ = some (.slice xa t.length xc) := (hb1.cell (World.block_lt_of_cell? _ _ HC0.out)).trans HC0.out
    rw [Nat.add_zero] at hx2
    clear hb1
    go_wp2_with fail
    refine (ref1_Renamed _ t _ (HX0.out.below HB1.out) ht0 (by have := HTL.out; omega) HTR.out).mono ?_
    rintro e w2 ⟨u2, rfl, ho2, hb2⟩
    have HB2 := hid (HB1.out.trans (hb2.mono HB1.out.size))
    have HI2 := hid (Ints.of_owns ho2 (by rw [canonL_len]; have := HTL.out; omega))
    clear ho2 hb2 hx2
    go_wp2
    go_loopw [7, 8] (fun u kv wr => ∃ (i : Nat) (x1 : List Int), 1 ≤ i ∧ i ≤ n ∧ kv = .int .i64 i ∧ FoldG (MeetR s) (canonL t, 0) (ts.take (i - 1)) (x1, 0) ∧ Ints wr u x1 ∧ Below w.heap.size w wr) (fun _ kv _ => n - (intOf kv).toNat)
    case atStart => exact ⟨1, canonL t, by omega, by omega, rfl, by simpa using FoldG.nil _, HI2.out, HB2.out⟩
    case round =>
      obtain ⟨i, x1, hi1, hi2, rfl, hfg, hiu, hb⟩ := hrel
      have HFG := hid hfg
      have HIU := hid hiu
      have HBW := hid hb
      clear hfg hiu
      by_cases hlt : i < n
      · obtain ⟨k, rfl⟩ : ∃ k, i = k + 1 := ⟨i - 1, by omega⟩
        have hkt : k < ts.length := by have := HN.out; omega
        obtain ⟨b', o', v, hbe, hck, hvk⟩ := HC'.out (k + 1) (by simp; omega)
        obtain ⟨rfl, rfl⟩ : b = b' ∧ o = o' := by simpa using hbe
        obtain ⟨va, vc, rfl, -⟩ := hvk.open
        have hck1 : wr.cell? ⟨b, o + (k + 1), none⟩ = some (.slice va ((t :: ts)[k + 1]'(by simp; omega)).length vc) := (hb.cell (World.block_lt_of_cell? _ _ hck)).trans hck
        have HVK : Hid (Ints wr (.slice va ((t :: ts)[k + 1]'(by simp; omega)).length vc) ts[k]) := hid (by simpa using hvk.below hb)
        obtain ⟨m, hm⟩ : ∃ m, ((t :: ts)[k + 1]'(by simp; omega)).length = m := ⟨_, rfl⟩
        rw [hm] at hck1 HVK
        have HTK : Hid (ts.take (k + 1) = ts.take k ++ [ts[k]]) := hid (by rw [List.take_succ_eq_append_getElem hkt])
        have HRT : Hid (ts = ts.take k ++ [ts[k]] ++ ts.drop (k + 1)) := hid (by rw [← HTK.out, List.take_append_drop])
        have HBYW := hid (fun u hu => ref2_Meet vs u _ s x1 ts[k] wr (HS.out.below HBW.out) hu HVK.out)
        clear hck hvk hbe hm hb
        go_wp2_with fail
        refine (HBYW.out _ HIU.out).mono ?_
        rintro e w6 ⟨y, u', hy, rfl, ho6, hb6⟩
        have HI6 := hid (Ints.of_owns ho6 (by have := hy.len; omega))
        have HB6 := hid (HBW.out.trans (hb6.mono HBW.out.size))
        have HY := hid hy
        clear ho6 hy hb6
        obtain ⟨y1, y2⟩ := y
        by_cases h0 : y2 = 0
        · subst h0
          go_wp2
          go_roundw
          case rel => exact ⟨k + 1 + 1, y1, by omega, by omega, by go_num, by show FoldG _ _ (ts.take (k + 1)) _; rw [HTK.out]; exact FoldG.snoc_ok (by simpa using HFG.out) rfl HY.out, HI6.out, HB6.out⟩
          case measure => simp [intOf]; omega
        · have h0' : (y2 != 0) = true := by simpa using h0
          have HX : Hid (FoldR s (MeetR s) (t :: ts) ([], y2)) := hid (by
            have he : y1 = [] := HY.out.errnil h0
            have h1 : FoldG (MeetR s) (canonL t, 0) (ts.take k ++ [ts[k]]) (y1, y2) := FoldG.snoc_ok (by simpa using HFG.out) rfl HY.out
            have h2 := h1.rest h0 (ts.drop (k + 1))
            rw [← HRT.out, he] at h2
            exact HF.out _ h2)
          clear h0
          go_wp2
          go_ret2
          exact FolPost.mk ([], y2) _ HX.out (ints_nil _) HB6.out
      · obtain rfl : n = i := by omega
        have HX : Hid (FoldR s (MeetR s) (t :: ts) (x1, 0)) := hid (HF.out _ (by have := HFG.out; rwa [List.take_of_length_le (by have := HN.out; omega)] at this))
        clear hb
        go_wp2
        go_ret2
        exact FolPost.mk (x1, 0) _ HX.out HIU.out HBW.out
  · have HE : Hid (FoldR s (MeetR s) l ([], listE s l)) := hid (Or.inl ⟨hE, rfl⟩)
    obtain ⟨z, hz⟩ : ∃ z, listE s l = z := ⟨_, rfl⟩
    rw [hz] at HE HLE
    have h0 : (z != 0) = true := by rw [← hz]; simpa using hE
    clear hE hz
    go_enter Try.func28, Try.ntmps28
    go_wp2_with fail
    refine HLE.out.mono ?_
    rintro e w1 ⟨rfl, hb1⟩
    go_wp2
    go_ret2
    exact FolPost.mk ([], z) _ HE.out (ints_nil _) hb1
set_option maxHeartbeats 2000000 in
set_option maxRecDepth 100000 in
theorem ref2_JoinAll (vs vl : Value) (s : Sg) (l : List (List Int)) (w : World) (hs : SignAt w vs s) (hv : Terms w vl l) :
    Calls Try.prog 30 #[vs, vl] w (FolPost s (JoinR s) l w) := by
  have HLE := hid (ref2_listError vs vl s l w hs hv)
  obtain ⟨la, lcap, hle, hlc, hl2, -, HC⟩ := hv.open
  subst hle
  have HC' := hid HC
  have HS := hid hs
  clear HC hv hs
  by_cases hE : listE s l = 0
  · rw [hE] at HLE
    obtain ⟨e1, e2, e3, e4⟩ := listE_zero.1 hE
    have HALL := hid e2
    obtain ⟨n, hn⟩ : ∃ n, l.length = n := ⟨_, rfl⟩
    rw [hn] at e3 e4 hlc hl2 ⊢
    rw [hn] at HLE
    obtain ⟨t, ts, rfl⟩ : ∃ t ts, l = t :: ts := by
      cases l with
      | nil => simp at hn; omega
      | cons t ts => exact ⟨t, ts, rfl⟩
    have HF : Hid (∀ x, FoldG (JoinR s) (canonL t, 0) ts x → FoldR s (JoinR s) (t :: ts) x) := hid (fun x hx => Or.inr ⟨hE, t, ts, rfl, hx⟩)
    have htv := e2 t (by simp)
    have HTL := hid (termB_facts htv).2.2.2
    have hT := termB_T htv
    have HTR := hid (T_mil htv)
    have ht0 := hT.ne
    obtain ⟨b, o, x, rfl, hc0, hx0⟩ := HC'.out 0 (by simp)
    simp only [List.getElem_cons_zero] at hx0
    obtain ⟨xa, xc, rfl, -⟩ := hx0.open
    have hn' : n = ts.length + 1 := by simp at hn; omega
    have hn0 : 0 < n := by omega
    have HN := hid hn'
    have HX0 := hid hx0
    have HC0 := hid hc0
    clear hE e1 e2 htv hT hx0 hc0 hn hn'
    go_enter Try.func30, Try.ntmps30
    go_wp2_with fail
    refine HLE.out.mono ?_
    rintro e w1 ⟨rfl, hb1⟩
    have HB1 := hid hb1
    have hx2 : w1.cell? ⟨b, o + 0, none⟩ = some (.slice xa t.length xc) := (hb1.cell (World.block_lt_of_cell? _ _ HC0.out)).trans HC0.out
    rw [Nat.add_zero] at hx2
    clear hb1
    go_wp2_with fail
    refine (ref1_Renamed _ t _ (HX0.out.below HB1.out) ht0 (by have := HTL.out; omega) HTR.out).mono ?_
    rintro e w2 ⟨u2, rfl, ho2, hb2⟩
    have HB2 := hid (HB1.out.trans (hb2.mono HB1.out.size))
    have HI2 := hid (Ints.of_owns ho2 (by rw [canonL_len]; have := HTL.out; omega))
    clear ho2 hb2 hx2
    go_wp2
    go_loopw [7, 8] (fun u kv wr => ∃ (i : Nat) (x1 : List Int), 1 ≤ i ∧ i ≤ n ∧ kv = .int .i64 i ∧ FoldG (JoinR s) (canonL t, 0) (ts.take (i - 1)) (x1, 0) ∧ Ints wr u x1 ∧ Below w.heap.size w wr) (fun _ kv _ => n - (intOf kv).toNat)
    case atStart => exact ⟨1, canonL t, by omega, by omega, rfl, by simpa using FoldG.nil _, HI2.out, HB2.out⟩
    case round =>
      obtain ⟨i, x1, hi1, hi2, rfl, hfg, hiu, hb⟩ := hrel
      have HFG := hid hfg
      have HIU := hid hiu
      have HBW := hid hb
      clear hfg hiu
      by_cases hlt : i < n
      · obtain ⟨k, rfl⟩ : ∃ k, i = k + 1 := ⟨i - 1, by omega⟩
        have hkt : k < ts.length := by have := HN.out; omega
        obtain ⟨b', o', v, hbe, hck, hvk⟩ := HC'.out (k + 1) (by simp; omega)
        obtain ⟨rfl, rfl⟩ : b = b' ∧ o = o' := by simpa using hbe
        obtain ⟨va, vc, rfl, -⟩ := hvk.open
        have hck1 : wr.cell? ⟨b, o + (k + 1), none⟩ = some (.slice va ((t :: ts)[k + 1]'(by simp; omega)).length vc) := (hb.cell (World.block_lt_of_cell? _ _ hck)).trans hck
        have HVK : Hid (Ints wr (.slice va ((t :: ts)[k + 1]'(by simp; omega)).length vc) ts[k]) := hid (by simpa using hvk.below hb)
        obtain ⟨m, hm⟩ : ∃ m, ((t :: ts)[k + 1]'(by simp; omega)).length = m := ⟨_, rfl⟩
        rw [hm] at hck1 HVK
        have HTK : Hid (ts.take (k + 1) = ts.take k ++ [ts[k]]) := hid (by rw [List.take_succ_eq_append_getElem hkt])
        have HRT : Hid (ts = ts.take k ++ [ts[k]] ++ ts.drop (k + 1)) := hid (by rw [← HTK.out, List.take_append_drop])
        have HBYW := hid (fun u hu => ref2_Join vs u _ s x1 ts[k] wr (HS.out.below HBW.out) hu HVK.out)
        clear hck hvk hbe hm hb
        go_wp2_with fail
        refine (HBYW.out _ HIU.out).mono ?_
        rintro e w6 ⟨y, u', hy, rfl, ho6, hb6⟩
        have HI6 := hid (Ints.of_owns ho6 (by have := hy.len; omega))
        have HB6 := hid (HBW.out.trans (hb6.mono HBW.out.size))
        have HY := hid hy
        clear ho6 hy hb6
        obtain ⟨y1, y2⟩ := y
        by_cases h0 : y2 = 0
        · subst h0
          go_wp2
          go_roundw
          case rel => exact ⟨k + 1 + 1, y1, by omega, by omega, by go_num, by show FoldG _ _ (ts.take (k + 1)) _; rw [HTK.out]; exact FoldG.snoc_ok (by simpa using HFG.out) rfl HY.out, HI6.out, HB6.out⟩
          case measure => simp [intOf]; omega
        · have h0' : (y2 != 0) = true := by simpa using h0
          have HX : Hid (FoldR s (JoinR s) (t :: ts) ([], y2)) := hid (by
            have he : y1 = [] := HY.out.errnil h0
            have h1 : FoldG (JoinR s) (canonL t, 0) (ts.take k ++ [ts[k]]) (y1, y2) := FoldG.snoc_ok (by simpa using HFG.out) rfl HY.out
            have h2 := h1.rest h0 (ts.drop (k + 1))
            rw [← HRT.out, he] at h2
            exact HF.out _ h2)
          clear h0
          go_wp2
          go_ret2
          exact FolPost.mk ([], y2) _ HX.out (ints_nil _) HB6.out
      · obtain rfl : n = i := by omega
        have HX : Hid (FoldR s (JoinR s) (t :: ts) (x1, 0)) := hid (HF.out _ (by have := HFG.out; rwa [List.take_of_length_le (by have := HN.out; omega)] at this))
        clear hb
        go_wp2
        go_ret2
        exact FolPost.mk (x1, 0) _ HX.out HIU.out HBW.out
  · have HE : Hid (FoldR s (JoinR s) l ([], listE s l)) := hid (Or.inl ⟨hE, rfl⟩)
    obtain ⟨z, hz⟩ : ∃ z, listE s l = z := ⟨_, rfl⟩
    rw [hz] at HE HLE
    have h0 : (z != 0) = true := by rw [← hz]; simpa using hE
    clear hE hz
    go_enter Try.func30, Try.ntmps30
    go_wp2_with fail
    refine HLE.out.mono ?_
    rintro e w1 ⟨rfl, hb1⟩
    go_wp2
    go_ret2
    exact FolPost.mk ([], z) _ HE.out (ints_nil _) hb1
end Go.Proofs.Ytidigpfiagjeiaa
