/-
  WHAT IT HOLDS: contracts of folded, MeetAll, JoinAll of package unify. Conditions: the arguments read as data; small signs.
-/
import Derived.Deep.RegionHeld3
import Derived.Test.YtidigpfiagjeiaaZRUnifyLists25
import Derived.Test.YtidigpfiagjeiaaZRUnifyLists26
import Derived.Test.YtidigpfiagjeiaaZRUnifyLists35
namespace Go.Proofs.Ytidigpfiagjeiaa
open Go Go.RowKit Go.Maps
/-- what folded hands back. -/
def FolPost (s : Sg) (R : List Int → List Int → AR → Prop) (l : List (List Int)) (w : World) (e : Ending) (w' : World) : Prop := ∃ x u, FoldR s R l x ∧ e = .returned (.tuple #[u, .int .i64 x.2]) ∧ Ints w' u x.1 ∧ Below w.heap.size w w'
theorem FolPost.mk {s : Sg} {R : List Int → List Int → AR → Prop} {l : List (List Int)} {w w' : World} (x : AR) (u : Value) (h : FoldR s R l x) (hi : Ints w' u x.1) (hb : Below w.heap.size w w') : FolPost s R l w (.returned (.tuple #[u, .int .i64 x.2])) w' := ⟨x, u, h, rfl, hi, hb⟩
theorem unify_folded1 (vs vt : Value) (ps : Nat) (s : Sg) (t : List Int) (w : World) (hs : SignAt w vs s) (ht : Ints w vt t) (hs1 : s.length ≤ 1000) (hc : w.cell? ⟨ps, 0, none⟩ = some vs) :
    Calls Try.prog 110 #[vt, .pointer (some ⟨ps, 0, none⟩)] w fun e w' => e = .returned (.bool (!termB s t)) ∧ Below w.heap.size w w' := by
  obtain ⟨sa, scap, hse, _⟩ := hs.open
  subst hse
  go_enter Try.func110, Try.ntmps110
  go_wp2_with (go_at_call 21; refine (term_Valid' _ _ _ _ _ hs ht hs1).mono ?_; rintro e w1 ⟨rfl, hb1⟩)
  go_ret
  exact ⟨rfl, hb1⟩
theorem allB_anyF (s : Sg) (l : List (List Int)) : (List.range l.length).any (fun i => !termB s (l.getD i [])) = !allB s l := by
  rw [Bool.eq_iff_iff, List.any_eq_true]
  unfold allB
  simp only [Bool.not_eq_true', List.all_eq_false]
  constructor
  · rintro ⟨i, hi, h⟩
    have hil : i < l.length := by simpa using hi
    refine ⟨l[i], List.getElem_mem hil, ?_⟩
    rw [List.getD_eq_getElem?_getD, List.getElem?_eq_getElem hil] at h
    simpa using h
  · rintro ⟨t, ht, h⟩
    obtain ⟨i, hi, rfl⟩ := List.getElem_of_mem ht
    refine ⟨i, by simpa using hi, ?_⟩
    rw [List.getD_eq_getElem?_getD, List.getElem?_eq_getElem hi]
    simpa using h
set_option maxHeartbeats 2000000 in
set_option maxRecDepth 100000 in
theorem unify_folded (g : Nat) (lb : Array Value) (eg : ∀ args w, (callFunc g args).run Try.prog w = .ok (.enter g args) w) (R : List Int → List Int → AR → Prop) (vs vl : Value) (s : Sg) (l : List (List Int)) (w : World)
    (hs : SignAt w vs s) (hv : Terms w vl l) (hs1 : s.length ≤ 1000) (hR : ∀ a t y, R a t y → y.2 ≠ 0 → y.1 = [])
    (hby : ∀ (X : World), Below w.heap.size w X → ∀ (u v : Value) (a t : List Int), Ints X u a → Ints X v t → Calls Try.prog g (#[vs, u, v] ++ lb) X fun e w' => ∃ x u', R a t x ∧ e = .returned (.tuple #[u', .int .i64 x.2]) ∧ Ints w' u' x.1 ∧ Below X.heap.size X w') :
    Calls Try.prog 74 #[vs, vl, .func (.func g) #[] lb] w (FolPost s R l w) := by
  obtain ⟨sa, scap, hse, -⟩ := hs.open
  subst hse
  obtain ⟨la, lcap, hle, hlc, hl2, -, HC⟩ := hv.open
  subst hle
  have HC' := hid HC
  clear HC
  obtain ⟨vvs, hV, hlen, hel⟩ := hv
  have HEL := hid hel
  have HLEN := hid hlen
  have hbx : Below w.heap.size w (w.alloc (.cells #[.slice sa s.length scap] 23)) := (Below.refl _ _).alloc (Nat.le_refl _) _
  have hcell := cell_new1 w (.slice sa s.length scap) 23
  have HVS := hid (term_ValidSign _ s _ (hs.below hbx) hs1)
  have key : ∀ w1, Below (w.alloc (.cells #[.slice sa s.length scap] 23)).heap.size (w.alloc (.cells #[.slice sa s.length scap] 23)) w1 →
      Calls Try.prog 109 #[.slice la l.length lcap, .func (.func 110) #[] #[.pointer (some ⟨w.heap.size, 0, none⟩)]] w1 fun e w' => e = .returned (.bool (!allB s l)) ∧ Below w1.heap.size w1 w' := by
    intro w1 hb1
    have := sl_ContainsFunc_terms 110 #[.pointer (some ⟨w.heap.size, 0, none⟩)] (enters_of Try.func110 (by kernel_rfl) rfl) (.slice la l.length lcap) vvs.length vvs w1 ((hV.below hbx).below hb1) (fun i => !termB s (l.getD i [])) (by
      intro i x W hx hbW
      have hil : i < l.length := by rw [← HLEN.out]; exact (List.getElem?_eq_some_iff.1 hx).1
      have hI : Ints W x (l.getD i []) := by
        rw [List.getD_eq_getElem?_getD, List.getElem?_eq_getElem hil]
        exact (((HEL.out i x _ hx (List.getElem?_eq_getElem hil)).below hbx).below hb1).below hbW
      have hS : SignAt W (.slice sa s.length scap) s := ((hs.below hbx).below hb1).below hbW
      have hC : W.cell? ⟨w.heap.size, 0, none⟩ = some (.slice sa s.length scap) := by
        rw [hbW.cell (p := ⟨w.heap.size, 0, none⟩) (by have := hb1.size; simp at this; show w.heap.size < _; omega), hb1.cell (p := ⟨w.heap.size, 0, none⟩) (by simp)]
        exact hcell
      exact unify_folded1 _ _ _ _ _ _ hS hI hs1 hC)
    rw [HLEN.out, allB_anyF] at this
    exact this
  have KEY := hid key
  have HBX := hid hbx
  have HS := hid hs
  have HCELL := hid hcell
  have HBY := hid hby
  have HRR := hid hR
  clear key hcell hel hlen hV hbx hs hby hR
  cases h2 : signB s
  · have HE : Hid (FoldR s R l ([], 1)) := hid (Or.inl ⟨by rw [listE_sign h2]; decide, by rw [listE_sign h2]⟩)
    simp only [h2] at HVS
    clear h2
    go_enter Try.func74, Try.ntmps74
    go_wp2_with fail
    refine HVS.out.mono ?_
    rintro e w1 ⟨rfl, hb1⟩
    have HB1 := hid (HBX.out.trans (hb1.mono HBX.out.size))
    clear hb1
    go_wp2
    go_ret2
    exact FolPost.mk ([], 1) _ HE.out (ints_nil _) HB1.out
  · simp only [h2] at HVS
    cases h3 : allB s l
    · have HE : Hid (FoldR s R l ([], 1)) := hid (Or.inl ⟨by rw [listE_all h3]; decide, by rw [listE_all h3]⟩)
      simp only [h3] at KEY
      clear h2 h3
      go_enter Try.func74, Try.ntmps74
      go_wp2_with fail
      refine HVS.out.mono ?_
      rintro e w1 ⟨rfl, hb1⟩
      have HB1 := hid (HBX.out.trans (hb1.mono HBX.out.size))
      go_wp2_with fail
      refine (KEY.out _ hb1).mono ?_
      rintro e w2 ⟨rfl, hb2⟩
      have HB2 := hid (HB1.out.trans (hb2.mono HB1.out.size))
      clear hb1 hb2
      go_wp2
      go_ret2
      exact FolPost.mk ([], 1) _ HE.out (ints_nil _) HB2.out
    · simp only [h3] at KEY
      cases h4 : inB l.length 1 60
      · have HE : Hid (FoldR s R l ([], 7)) := hid (Or.inl ⟨by rw [listE_len h2 h3 h4]; decide, by rw [listE_len h2 h3 h4]⟩)
        have HW := hid (fun X => unify_within l.length 1 60 X)
        simp only [h4] at HW
        clear h2 h3 h4
        go_enter Try.func74, Try.ntmps74
        go_wp2_with fail
        refine HVS.out.mono ?_
        rintro e w1 ⟨rfl, hb1⟩
        have HB1 := hid (HBX.out.trans (hb1.mono HBX.out.size))
        go_wp2_with fail
        refine (KEY.out _ hb1).mono ?_
        rintro e w2 ⟨rfl, hb2⟩
        have HB2 := hid (HB1.out.trans (hb2.mono HB1.out.size))
        clear hb1 hb2
        go_wp2_with fail
        refine (HW.out _).mono ?_
        rintro e w3 ⟨rfl, rfl⟩
        go_wp2
        go_ret2
        exact FolPost.mk ([], 7) _ HE.out (ints_nil _) HB2.out
      · have hE := listE_ok h2 h3 h4
        have HW := hid (fun X => unify_within l.length 1 60 X)
        simp only [h4] at HW
        have hin := inB_true.1 h4
        have hall : ∀ t ∈ l, termB s t = true := (listE_zero.1 hE).2.1
        have HALL := hid hall
        obtain ⟨n, hn⟩ : ∃ n, l.length = n := ⟨_, rfl⟩
        rw [hn] at KEY HW hin hlc hl2 ⊢
        obtain ⟨t, ts, rfl⟩ : ∃ t ts, l = t :: ts := by
          cases l with
          | nil => simp at hn; omega
          | cons t ts => exact ⟨t, ts, rfl⟩
        have HF : Hid (∀ x, FoldG R (canonL t, 0) ts x → FoldR s R (t :: ts) x) := hid (fun x hx => Or.inr ⟨hE, t, ts, rfl, hx⟩)
        have htv := hall t (by simp)
        have HTL := hid (termB_facts htv).2.2.2
        have HTV := hid htv
        obtain ⟨b, o, x, rfl, hc0, hx0⟩ := HC'.out 0 (by simp)
        simp only [List.getElem_cons_zero] at hx0
        obtain ⟨xa, xc, rfl, -⟩ := hx0.open
        have HX0 := hid hx0
        have hn' : n = ts.length + 1 := by simp at hn; omega
        have hn0 : 0 < n := by omega
        have hn1 : 1 ≤ n := by omega
        have hn60 : n ≤ 60 := by omega
        have hz1 : (0 : Int) < (n : Int) := by omega
        have hz2 : (1 : Int) ≤ (n : Int) := by omega
        have HN := hid hn'
        have HNN := hid hn
        clear h2 h3 h4 hE hall hin htv hx0 hn hn'
        have HC0 := hid hc0
        clear hc0
        by_cases hc1 : lcap = 1
        · subst hc1
          obtain rfl : n = 1 := by omega
          have hts : ts = [] := by have := HN.out; exact List.length_eq_zero_iff.1 (by omega)
          subst hts
          go_enter Try.func74, Try.ntmps74
          go_wp2_with fail
          refine HVS.out.mono ?_
          rintro e w1 ⟨rfl, hb1⟩
          have HB1 := hid (HBX.out.trans (hb1.mono HBX.out.size))
          go_wp2_with fail
          refine (KEY.out _ hb1).mono ?_
          rintro e w2 ⟨rfl, hb2⟩
          have HB2 := hid (HB1.out.trans (hb2.mono HB1.out.size))
          have HBB2 := hid (hb1.trans (hb2.mono hb1.size))
          clear hb1 hb2
          go_wp2_with fail
          refine (HW.out _).mono ?_
          rintro e w3 ⟨rfl, rfl⟩
          have hbw := HB2.out
          have hps : w2.cell? ⟨w.heap.size, 0, none⟩ = some (.slice sa s.length scap) := by
            rw [HBB2.out.cell (p := ⟨w.heap.size, 0, none⟩) (by simp)]
            exact HCELL.out
          have hx2 : w2.cell? ⟨b, o + 0, none⟩ = some (.slice xa t.length xc) := (hbw.cell (World.block_lt_of_cell? _ _ HC0.out)).trans HC0.out
          rw [Nat.add_zero] at hx2
          have HCAN := hid (term_Canonical (.slice sa s.length scap) (.slice xa t.length xc) s t (w2.drewN 1) ((HS.out.below hbw).drewN 1) ((HX0.out.below hbw).drewN 1) hs1)
          clear hbw
          go_wp2
          go_region_held3 (fun w' => w'.cell? ⟨w.heap.size, 0, none⟩ = some (.slice sa s.length scap) ∧ w'.cell? ⟨b, o, none⟩ = some (.slice xa t.length xc)) (first | exact ⟨by assumption, by assumption⟩ | go_keep)
            (first
            | (go_at_call 111; refine HCAN.out.mono ?_; rintro e w5 ⟨hb5', ⟨hf, rfl⟩ | ⟨-, u, rfl, ho⟩⟩
               · exact absurd hf (by rw [HTV.out]; simp)
               have hb5 : Below w2.heap.size w2 w5 := (below_self_drewN w2 1).trans hb5'
               have d1 := (hb5.cell (World.block_lt_of_cell? _ _ hps)).trans hps
               have d2 := (hb5.cell (World.block_lt_of_cell? _ _ hx2)).trans hx2))
          have HBB5 := hid (HBB2.out.trans (hb5.mono HBB2.out.size))
          have HI5 := hid (Ints.of_owns ho (by rw [canonL_len]; have := HTL.out; omega))
          have hps5 := d1
          clear hps hx2 d1 d2 hb5 hb5' ho
          go_wp2
          go_loopw [8, 9, 37] (fun u ev kv wr => ∃ (k : Nat) (x : AR), k ≤ 0 ∧ kv = .int .i64 k ∧ ev = .int .i64 x.2 ∧ FoldG R (canonL t, 0) ([].take k) x ∧ Ints wr u x.1 ∧ Below (w.alloc (.cells #[.slice sa s.length scap] 23)).heap.size (w.alloc (.cells #[.slice sa s.length scap] 23)) wr) (fun _ _ kv _ => 0 - (intOf kv).toNat)
          case atStart => exact ⟨0, (canonL t, 0), by omega, rfl, rfl, by simpa using FoldG.nil _, HI5.out, HBB5.out⟩
          case round =>
            obtain ⟨k, x, hk, rfl, rfl, hfg, hiu, hb⟩ := hrel
            obtain rfl : k = 0 := by simpa using hk
            have HFG := hid hfg
            have HIU := hid hiu
            have HBW := hid (HBX.out.trans (hb.mono HBX.out.size))
            clear hfg hiu hb
            obtain ⟨x1, x2⟩ := x
            have HFG2 : Hid (FoldG R (canonL t, 0) [] (x1, x2)) := hid (by simpa using HFG.out)
            by_cases h0 : x2 = 0
            · subst h0
              go_wp2
              go_ret2
              exact FolPost.mk (x1, 0) _ (HF.out _ HFG2.out) HIU.out HBW.out
            · exfalso
              exact h0 (by cases HFG2.out; rfl)
        · have hc2 : 1 < lcap := by omega
          clear hc1
          go_enter Try.func74, Try.ntmps74
          go_wp2_with fail
          refine HVS.out.mono ?_
          rintro e w1 ⟨rfl, hb1⟩
          have HB1 := hid (HBX.out.trans (hb1.mono HBX.out.size))
          go_wp2_with fail
          refine (KEY.out _ hb1).mono ?_
          rintro e w2 ⟨rfl, hb2⟩
          have HB2 := hid (HB1.out.trans (hb2.mono HB1.out.size))
          have HBB2 := hid (hb1.trans (hb2.mono hb1.size))
          clear hb1 hb2
          go_wp2_with fail
          refine (HW.out _).mono ?_
          rintro e w3 ⟨rfl, rfl⟩
          have hbw := HB2.out
          have hps : w2.cell? ⟨w.heap.size, 0, none⟩ = some (.slice sa s.length scap) := by
            rw [HBB2.out.cell (p := ⟨w.heap.size, 0, none⟩) (by simp)]
            exact HCELL.out
          have hx2 : w2.cell? ⟨b, o + 0, none⟩ = some (.slice xa t.length xc) := (hbw.cell (World.block_lt_of_cell? _ _ HC0.out)).trans HC0.out
          rw [Nat.add_zero] at hx2
          have HCAN := hid (term_Canonical (.slice sa s.length scap) (.slice xa t.length xc) s t (w2.drewN 1) ((HS.out.below hbw).drewN 1) ((HX0.out.below hbw).drewN 1) hs1)
          clear hbw
          go_wp2
          go_region_held3 (fun w' => w'.cell? ⟨w.heap.size, 0, none⟩ = some (.slice sa s.length scap) ∧ w'.cell? ⟨b, o, none⟩ = some (.slice xa t.length xc)) (first | exact ⟨by assumption, by assumption⟩ | go_keep)
            (first
            | (go_at_call 111; refine HCAN.out.mono ?_; rintro e w5 ⟨hb5', ⟨hf, rfl⟩ | ⟨-, u, rfl, ho⟩⟩
               · exact absurd hf (by rw [HTV.out]; simp)
               have hb5 : Below w2.heap.size w2 w5 := (below_self_drewN w2 1).trans hb5'
               have d1 := (hb5.cell (World.block_lt_of_cell? _ _ hps)).trans hps
               have d2 := (hb5.cell (World.block_lt_of_cell? _ _ hx2)).trans hx2))
          have HBB5 := hid (HBB2.out.trans (hb5.mono HBB2.out.size))
          have HI5 := hid (Ints.of_owns ho (by rw [canonL_len]; have := HTL.out; omega))
          have hps5 := d1
          clear hps hx2 d1 d2 hb5 hb5' ho
          go_wp2
          go_loopw [8, 9, 37] (fun u ev kv wr => ∃ (k : Nat) (x : AR), k ≤ ts.length ∧ kv = .int .i64 k ∧ ev = .int .i64 x.2 ∧ FoldG R (canonL t, 0) (ts.take k) x ∧ Ints wr u x.1 ∧ Below (w.alloc (.cells #[.slice sa s.length scap] 23)).heap.size (w.alloc (.cells #[.slice sa s.length scap] 23)) wr) (fun _ _ kv _ => ts.length - (intOf kv).toNat)
          case atStart => exact ⟨0, (canonL t, 0), by omega, rfl, rfl, by simpa using FoldG.nil _, HI5.out, HBB5.out⟩
          case round =>
            obtain ⟨k, x, hk, rfl, rfl, hfg, hiu, hb⟩ := hrel
            have HFG := hid hfg
            have HIU := hid hiu
            have HBB := hid hb
            have hb := HBX.out.trans (hb.mono HBX.out.size)
            have hsz := hb.size
            clear hfg hiu
            obtain ⟨x1, x2⟩ := x
            by_cases hlt : k < ts.length
            · obtain ⟨b', o', v, hbe, hck, hvk⟩ := HC'.out (k + 1) (by simp; omega)
              obtain ⟨rfl, rfl⟩ : b = b' ∧ o = o' := by simpa using hbe
              obtain ⟨va, vc, rfl, -⟩ := hvk.open
              have hck1 : wr.cell? ⟨b, o + 1 + k, none⟩ = some (.slice va ((t :: ts)[k + 1]'(by simp; omega)).length vc) := by
                rw [show o + 1 + k = o + (k + 1) by omega]
                exact (hb.cell (World.block_lt_of_cell? _ _ hck)).trans hck
              have hps : wr.cell? ⟨w.heap.size, 0, none⟩ = some (.slice sa s.length scap) := by
                rw [HBB.out.cell (p := ⟨w.heap.size, 0, none⟩) (by simp)]
                exact HCELL.out
              have HVK : Hid (Ints wr (.slice va ((t :: ts)[k + 1]'(by simp; omega)).length vc) ts[k]) := hid (by simpa using hvk.below hb)
              obtain ⟨m, hm⟩ : ∃ m, ((t :: ts)[k + 1]'(by simp; omega)).length = m := ⟨_, rfl⟩
              rw [hm] at hck1 HVK
              have hlt1 : k < n - 1 := by have := HN.out; omega
              have HTK : Hid (ts.take (k + 1) = ts.take k ++ [ts[k]]) := hid (by rw [List.take_succ_eq_append_getElem hlt])
              have HBW := hid hb
              clear hck hvk hbe hm hb
              by_cases h0 : x2 = 0
              · subst h0
                have HBYW := hid (HBY.out wr HBW.out _ _ x1 ts[k] HIU.out HVK.out)
                go_wp2_with (go_at_fn g; refine HBYW.out.mono ?_; rintro e w6 ⟨y, u', hy, rfl, hi6, hb6⟩)
                obtain ⟨y1, y2⟩ := y
                go_roundw
                case rel => exact ⟨k + 1, (y1, y2), by omega, by go_num, rfl, by rw [HTK.out]; exact HFG.out.snoc_ok rfl hy, hi6, HBB.out.trans (hb6.mono HBB.out.size)⟩
                case measure => simp [intOf]; omega
              · have h0' : (x2 == 0) = false := by simpa using h0
                have H0 := hid h0
                clear h0
                go_wp2
                go_roundw
                case rel => exact ⟨k + 1, (x1, x2), by omega, by go_num, rfl, by rw [HTK.out]; exact HFG.out.snoc_err H0.out, HIU.out, HBB.out⟩
                case measure => simp [intOf]; omega
            · obtain rfl : ts.length = k := by omega
              have hge : ¬ (ts.length : Int) < ((n - 1 : Nat) : Int) := by have := HN.out; omega
              have HFG2 : Hid (FoldG R (canonL t, 0) ts (x1, x2)) := hid (by have := HFG.out; rwa [List.take_of_length_le (Nat.le_refl _)] at this)
              have HBW := hid hb
              clear hb
              by_cases h0 : x2 = 0
              · subst h0
                go_wp2
                go_ret2
                exact FolPost.mk (x1, 0) _ (HF.out _ HFG2.out) HIU.out HBW.out
              · have h0' : (x2 != 0) = true := by simpa using h0
                have HX : Hid (FoldR s R (t :: ts) ([], x2)) := hid (by
                  have he : x1 = [] := HFG2.out.errnil HRR.out (fun h => absurd rfl h) h0
                  have := HF.out _ HFG2.out
                  rwa [he] at this)
                clear h0
                go_wp2
                go_ret2
                exact FolPost.mk ([], x2) _ HX.out (ints_nil _) HBW.out
theorem MeetR.len {s : Sg} {a b : List Int} {x : AR} (h : MeetR s a b x) : x.1.length ≤ 60 := by
  unfold MeetR at h
  split at h
  · rcases h with ⟨_, rfl⟩ | ⟨m, _, ⟨h1, rfl⟩ | ⟨_, rfl⟩⟩
    · simp
    · show (canonL _).length ≤ 60
      rw [canonL_len]
      exact (madeB_iff.1 h1).1
    · simp
  · subst h; simp
theorem MeetR.errnil {s : Sg} {a b : List Int} {x : AR} (h : MeetR s a b x) (h0 : x.2 ≠ 0) : x.1 = [] := by
  unfold MeetR at h
  split at h
  · rcases h with ⟨_, rfl⟩ | ⟨m, _, ⟨h1, rfl⟩ | ⟨_, rfl⟩⟩
    · rfl
    · exact absurd rfl h0
    · rfl
  · subst h; rfl
theorem JoinR.errnil {s : Sg} {a b : List Int} {x : AR} (h : JoinR s a b x) (h0 : x.2 ≠ 0) : x.1 = [] := by
  unfold JoinR at h
  split at h
  · split at h
    · subst h; exact absurd rfl h0
    · subst h; rfl
  · subst h; rfl
theorem JoinR.len {s : Sg} {a b : List Int} {x : AR} (h : JoinR s a b x) : x.1.length ≤ 60 := by
  by_cases h0 : x.2 = 0
  · have hb := join_both h h0
    have := (termB_facts (instB_iff.1 hb.1).1).2.2.2
    omega
  · rw [h.errnil h0]; simp
theorem unify_MeetAll (vs vl : Value) (s : Sg) (l : List (List Int)) (w : World) (hs : SignAt w vs s) (hv : Terms w vl l) (hs1 : s.length ≤ 1000) :
    Calls Try.prog 27 #[vs, vl] w (FolPost s (MeetR s) l w) := by
  have HF := hid (unify_folded 18 #[] (enters_of Try.func18 (by kernel_rfl) rfl) (MeetR s) vs vl s l w hs hv hs1 (fun a t y h => h.errnil) (fun X hX u v a t hu hv => by
    refine (unify_Meet vs u v s a t X (hs.below hX) hu hv hs1).mono ?_
    rintro e w' ⟨x, u', hx, rfl, ho, hb⟩
    exact ⟨x, u', hx, rfl, Ints.of_owns ho (by have := hx.len; omega), hb⟩))
  clear hs hv
  go_enter Try.func27, Try.ntmps27
  go_wp2_with fail
  refine HF.out.mono ?_
  rintro e w' ⟨x, u, h1, rfl, h2, h3⟩
  go_wp2
  go_ret2
  exact FolPost.mk x u h1 h2 h3
theorem unify_JoinAll (vs vl : Value) (s : Sg) (l : List (List Int)) (w : World) (hs : SignAt w vs s) (hv : Terms w vl l) (hs1 : s.length ≤ 1000) :
    Calls Try.prog 29 #[vs, vl] w (FolPost s (JoinR s) l w) := by
  have HF := hid (unify_folded 20 #[] (enters_of Try.func20 (by kernel_rfl) rfl) (JoinR s) vs vl s l w hs hv hs1 (fun a t y h => h.errnil) (fun X hX u v a t hu hv => by
    refine (unify_Join vs u v s a t X (hs.below hX) hu hv hs1).mono ?_
    rintro e w' ⟨x, u', hx, rfl, ho, hb⟩
    exact ⟨x, u', hx, rfl, Ints.of_owns ho (by have := hx.len; omega), hb⟩))
  clear hs hv
  go_enter Try.func29, Try.ntmps29
  go_wp2_with fail
  refine HF.out.mono ?_
  rintro e w' ⟨x, u, h1, rfl, h2, h3⟩
  go_wp2
  go_ret2
  exact FolPost.mk x u h1 h2 h3
end Go.Proofs.Ytidigpfiagjeiaa
