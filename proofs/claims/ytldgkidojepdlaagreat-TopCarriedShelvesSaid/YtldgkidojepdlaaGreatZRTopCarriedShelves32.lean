/-
  WHAT IT HOLDS: contracts of form, grouped, Groups of package find. Conditions: the arguments read as data; the shelf and the sign are small.
-/
import Derived.Laws.EntriesVeiled
import Derived.Shelf.Abstract
import Derived.Deep.RegionLaw
import Derived.Test.YtldgkidojepdlaaGreatZRTopCarriedShelves30
import Derived.Test.YtldgkidojepdlaaGreatZRTopCarriedShelves10
namespace Go.Proofs.YtldgkidojepdlaaGreat
open Go Go.RowKit Go.Maps
set_option maxRecDepth 100000 in
theorem find_form (vs vt : Value) (s : Sg) (t : List Int) (w : World) (hs : SignAt w vs s) (ht : Ints w vt t) (hs1 : s.length ≤ 1000) (h : termB s t = true) :
    Calls Tryz.prog 67 #[vs, vt] w fun e w' => ∃ u, e = .returned u ∧ w'.ownsRow w.heap.size 3 1 u (canonL t).length ((canonL t).map (Value.int .i64)) ∧ Below w.heap.size w w' := by
  have HC := hid (term_Canonical vs vt s t w hs ht hs1)
  go_enter Tryz.func67, Tryz.ntmps67
  go_wp2_with fail
  refine HC.out.mono ?_
  rintro e w1 ⟨hb, ⟨h1, -⟩ | ⟨h1, u, rfl, o1⟩⟩
  · rw [h] at h1; cases h1
  · go_wp2
    go_ret
    exact ⟨_, rfl, o1, hb⟩
abbrev KB := List UInt8
def ekS (k : KB) : Value := .string ⟨k.toArray⟩
theorem ekS_inj : ∀ x y : KB, ekS x = ekS y → x = y := by intro x y h; simpa [ekS] using h
theorem ekS_keyB (t : List Int) : ekS (keyL t) = .string (keyB t) := rfl
theorem ekS_key (k : KB) (h : k.length ≤ 1000) : ∃ kl, keyOf Tryz.prog 9 (ekS k) = some kl := by
  have hl : (⟨k.toArray⟩ : ByteArray).size ≤ maxLen := by show k.toArray.size ≤ maxLen; simp [maxLen]; omega
  refine ⟨.string k, ?_⟩
  unfold ekS
  simp [keyOf, Tryz.underlying9, mapKey, hl]
def idxM (ds : List KB) (x : KB) : Option Int := if x ∈ ds then some (ds.idxOf x : Int) else none
theorem idxM_yes {ds : List KB} {x : KB} (h : x ∈ ds) : idxM ds x = some (ds.idxOf x : Int) := by unfold idxM; rw [if_pos h]
theorem idxM_no {ds : List KB} {x : KB} (h : x ∉ ds) : idxM ds x = none := by unfold idxM; rw [if_neg h]
theorem idxM_ins {ds : List KB} {x : KB} (h : x ∉ ds) : (fun y => if y = x then some (ds.length : Int) else idxM ds y) = idxM (ds ++ [x]) := by
  funext y
  unfold idxM
  by_cases e : y = x
  · subst e
    simp [List.idxOf_append, h]
  · rw [if_neg e]
    by_cases hy : y ∈ ds
    · rw [if_pos hy, if_pos (by simp [hy]), List.idxOf_append, if_pos hy]
    · rw [if_neg hy, if_neg (by simp [hy, e])]
abbrev GMap (w : World) (b : Nat) (ds : List KB) : Prop := MapK Tryz.prog 9 ekS eI w b ds.length (idxM ds)
theorem gmap_ins {w : World} {b : Nat} {ds : List KB} {x : KB} (hN : idxM ds x = none) (hI : (fun y => if y = x then some (ds.length : Int) else idxM ds y) = idxM (ds ++ [x]))
    (h : MapK Tryz.prog 9 ekS eI w b (if (idxM ds x).isSome then ds.length else ds.length + 1) (fun y => if y = x then some (ds.length : Int) else idxM ds y)) : GMap w b (ds ++ [x]) := by
  rw [hN, hI] at h
  simpa [GMap] using h
theorem keyL_inj {t u : List Int} (h : ∀ x ∈ t, -12 ≤ x ∧ x ≤ 200) (h' : ∀ x ∈ u, -12 ≤ x ∧ x ≤ 200) (he : keyL t = keyL u) : t = u := keyB_inj h h' (by unfold keyB; rw [he])
theorem key_mem {ds : List (List Int)} {x : List Int} (hd : ∀ d ∈ ds, ∀ z ∈ d, -12 ≤ z ∧ z ≤ 200) (hx : ∀ z ∈ x, -12 ≤ z ∧ z ≤ 200) : keyL x ∈ ds.map keyL ↔ x ∈ ds := by
  constructor
  · intro h
    obtain ⟨d, h1, h2⟩ := List.mem_map.1 h
    have := keyL_inj (hd d h1) hx h2
    exact this ▸ h1
  · intro h; exact List.mem_map.2 ⟨x, h, rfl⟩
theorem key_idx {ds : List (List Int)} {x : List Int} (hd : ∀ d ∈ ds, ∀ z ∈ d, -12 ≤ z ∧ z ≤ 200) (hx : ∀ z ∈ x, -12 ≤ z ∧ z ≤ 200) : (ds.map keyL).idxOf (keyL x) = ds.idxOf x := by
  induction ds with
  | nil => rfl
  | cons d ds ih =>
    simp only [List.map_cons, List.idxOf_cons]
    by_cases e : d = x
    · subst e; simp
    · have e' : keyL d ≠ keyL x := fun q => e (keyL_inj (hd d (by simp)) hx q)
      rw [show (keyL d == keyL x) = false by simpa using e', show (d == x) = false by simpa using e]
      simp only [cond_false]
      rw [ih fun y hy => hd y (by simp [hy])]
set_option maxHeartbeats 8000000 in
set_option maxRecDepth 100000 in
theorem find_grouped (g : Nat) (lb : Array Value) (eg : ∀ args w, (callFunc g args).run Tryz.prog w = .ok (.enter g args) w) (f : List Int → List Int) (vs vl : Value) (s : Sg) (l : List (List Int)) (w : World) (hs : SignAt w vs s) (hv : Terms w vl l) (hs1 : s.length ≤ 1000) (hl1 : l.length ≤ 1000)
    (hf : shelfB s l = true → ∀ t ∈ l, (∀ z ∈ f t, -12 ≤ z ∧ z ≤ 200) ∧ 0 < (f t).length ∧ (f t).length ≤ 1000)
    (hg : shelfB s l = true → ∀ t ∈ l, ∀ x W, Ints W x t → SignAt W vs s → Calls Tryz.prog g (#[vs, x] ++ lb) W fun e w' => ∃ u, e = .returned u ∧ w'.ownsRow W.heap.size 3 1 u (f t).length ((f t).map (Value.int .i64)) ∧ Below W.heap.size W w') :
    Calls Tryz.prog 66 #[vs, vl, .func (.func g) #[] lb] w fun e w' => Below w.heap.size w w' ∧ ((shelfB s l = false ∧ e = .returned (.tuple #[.slice none 0 0, .int .i64 1])) ∨
      (shelfB s l = true ∧ ∃ u vs', e = .returned (.tuple #[u, .int .i64 0]) ∧ NR w' w.heap.size 28 3 u vs' (grpL (l.map f) l.length))) := by
  obtain ⟨a, cap, hve, hlc, hl, -, -⟩ := hv.open
  subst hve
  cases h1 : shelfB s l
  · go_enter Tryz.func66, Tryz.ntmps66
    go_wp2_with (first | (go_at_call 28; refine (find_Valid _ _ _ _ _ hs hv hs1).mono ?_; rintro e w1 ⟨rfl, hb1⟩; rw [h1]))
    go_ret2
    exact ⟨hb1, Or.inl ⟨by simp, rfl⟩⟩
  · have HF := hid (hf h1)
    have HG := hid (hg h1)
    have HS := hid hs
    have HV := hid hv
    have hmm := @run_makeMap Tryz.prog
    clear hf hg hs hv
    obtain ⟨ks, hks⟩ : ∃ ks, l.map f = ks := ⟨_, rfl⟩
    have hkl : ks.length = l.length := by rw [← hks]; simp
    have hkr : ∀ k ∈ ks, ∀ z ∈ k, -12 ≤ z ∧ z ≤ 200 := by
      intro k hk
      rw [← hks] at hk
      obtain ⟨t, ht, rfl⟩ := List.mem_map.1 hk
      exact (HF.out t ht).1
    have hkg : ∀ n (h : n < l.length) (h' : n < ks.length), ks[n] = f l[n] := by
      intro n h h'; subst hks; simp
    have HKR := hid hkr
    have HKL := hid hkl
    have HKG := hid hkg
    rw [hks]
    clear hkr hkl hkg hks
    go_enter Tryz.func66, Tryz.ntmps66
    go_wp2_with (first | (go_at_call 28; refine (find_Valid _ _ _ _ _ HS.out HV.out hs1).mono ?_; rintro e w1 ⟨rfl, hb1⟩; rw [h1]))
    clear hmm
    have hbM : Below w.heap.size w (w1.alloc (.map #[] 0)) := hb1.alloc hb1.size _
    have hm0 := MapK.made Tryz.prog 9 ekS eI w1
    have HM0 : Hid (GMap (w1.alloc (.map #[] 0)) w1.heap.size []) := hid (by
      unfold GMap
      rw [show idxM [] = fun _ => none from funext fun x => by simp [idxM]]
      exact hm0)
    have HBM := hid hbM
    have hsz1 := hb1.size
    clear hm0 hbM
    go_loopw [9, 22] (fun u kv wr => ∃ (n : Nat) (vs' : List Value), n ≤ l.length ∧ kv = .int .i64 n ∧ NR wr (w1.heap.size + 1) 28 3 u vs' (grpL ks n) ∧ GMap wr w1.heap.size ((hdsL ks n).map keyL) ∧ Below w.heap.size w wr) (fun _ kv _ => l.length - (intOf kv).toNat)
    case atStart => exact ⟨0, [], by omega, rfl, NR.nil _ _ _ _, HM0.out, HBM.out⟩
    case round =>
      clear HM0 HBM
      obtain ⟨n, vs', hn, rfl, hN, hM, hb⟩ := hrel
      have hsz := hb.size
      by_cases hlt : n < l.length
      · have hnk : n < ks.length := by have := HKL.out; omega
        obtain ⟨b, o, x, hae, hcell, hx⟩ := (HV.out.below hb).at hlt
        subst hae
        have hfk := HKG.out n hlt hnk
        obtain ⟨fr, f0, fl⟩ := HF.out l[n] (List.getElem_mem hlt)
        have hcall := HG.out l[n] (List.getElem_mem hlt) x wr hx (HS.out.below hb)
        rw [← hfk] at fr f0 fl hcall
        have hdr : ∀ d ∈ hdsL ks n, ∀ z ∈ d, -12 ≤ z ∧ z ≤ 200 := by
          intro d hd
          unfold hdsL at hd
          rw [dedF_mem] at hd
          rcases hd with hd | hd
          · simp at hd
          · exact HKR.out d (List.mem_of_mem_take hd)
        have hkm := key_mem hdr fr
        have hki := key_idx hdr fr
        have hdl := hdsL_len ks n
        have HCALL := hid hcall
        obtain ⟨kl, hkl⟩ := ekS_key (keyL ks[n]) (by simp [keyL]; omega)
        have HKEY := hid hkl
        have HFR := hid fr
        clear hx hcall hfk hdr fr hkl
        have HN := hid hN
        have HM := hid hM
        have HRL := hid (grpL_rows_len ks n)
        clear hN hM
        go_wp2_with fail
        refine HCALL.out.mono ?_
        rintro e w2 ⟨uf, rfl, of, hb2⟩
        have iuf : Ints w2 uf ks[n] := Ints.of_owns of (by omega)
        have HIUF := hid iuf
        clear of iuf
        go_wp2_with fail
        refine (find_key uf ks[n] w2 HIUF.out HFR.out f0 fl).mono ?_
        rintro e w3 ⟨rfl, hb3⟩
        have hb23 : Below wr.heap.size wr w3 := hb2.trans (hb3.mono hb2.size)
        have hb03 : Below w.heap.size w w3 := hb.trans (hb23.mono hsz)
        have HN3 := hid (HN.out.below hb23)
        have HM3 := hid (HM.out.belowS hb23)
        have hsz3 := hb03.size
        have hr3 := hb23.size
        rw [← ekS_keyB]
        clear hb2 hb3
        by_cases hmem : ks[n] ∈ hdsL ks n
        · -- a group that is there
          obtain ⟨J, hJ⟩ : ∃ J, (hdsL ks n).idxOf ks[n] = J := ⟨_, rfl⟩
          have hJl : J < (hdsL ks n).length := by rw [← hJ]; exact List.idxOf_lt_length_of_mem hmem
          have hJg : J < (grpL ks n).length := by rw [grpL_len]; exact hJl
          have hold := grpL_old hnk hmem hJ hJg
          have hhs : hdsL ks (n + 1) = hdsL ks n := by rw [hdsL_succ hnk, if_pos hmem]
          have hiy := idxM_yes (hkm.2 hmem)
          rw [hki, hJ] at hiy
          obtain ⟨_, k0, hh1, _, _⟩ := grpL_first (Nat.le_of_lt hnk) hJg
          have hrow0 : 0 < (grpL ks n)[J].length := by
            cases h : (grpL ks n)[J] with
            | nil => rw [h] at hh1; simp at hh1
            | cons => simp
          obtain ⟨gU, uc, hue, hgU, -⟩ := owns_some HN3.out.top (by omega)
          have hgl : (grpL ks n).length ≤ n := by rw [grpL_len]; exact hdl
          obtain ⟨gr, rc, hvj, hrow, -⟩ := HN3.out.rowAt hJg hrow0
          have hrl := HRL.out _ (List.getElem_mem hJg)
          obtain ⟨L, hL⟩ : ∃ L, (grpL ks n).length = L := ⟨_, rfl⟩
          obtain ⟨m, hm⟩ : ∃ m, (grpL ks n)[J].length = m := ⟨_, rfl⟩
          rw [hL] at hue hgl
          rw [hm] at hvj hrow hrl
          subst hue
          have htop := HN3.out.cellTop hL.symm hvj (World.grownBy.refl _ _)
          have HIY := hid hiy
          have HOLD := hid hold
          have HHS := hid hhs
          have HROW := hid hrow
          have HVJ := hid hvj
          have HL := hid hL
          have HMM := hid hm
          have hJL : J < L := by omega
          have hct := htop.1
          have hcf := htop.2
          clear hmem hJ hJl hold hhs hiy hh1 hrow0 hrow hvj htop hL hm hkm hki
          have hlkD := HM3.out.run_lookup (string_keyed Tryz.underlying9) ekS_inj Tryz.underlying123 (zero_int _) (keyL ks[n]) HKEY.out false
          rw [HIY.out] at hlkD
          go_wp2_with (at_lookup; refine wpList_lookup_mapK rfl _ _ 123 true rfl (string_keyed Tryz.underlying9) ekS_inj Tryz.underlying123 (zero_int _) rfl HM3.out (keyL ks[n]) rfl HKEY.out (.tuple #[.int .i64 J, .bool true]) (by rw [HIY.out]; rfl) ?_)
          have hlk1 : (Instr.lookup 123 (.map (some w1.heap.size)) (ekS (keyL ks[n])) false).run Tryz.prog w3.drew = .ok (.int .i64 J) w3.drew := by
            have := HM3.out.drew.run_lookup (string_keyed Tryz.underlying9) ekS_inj Tryz.underlying123 (zero_int _) (keyL ks[n]) HKEY.out false
            rw [HIY.out] at this
            exact this
          have hbA : Below w3.heap.size w3 (w3.alloc (.cells #[.int .i64 n] 3)).drew := ((Below.refl _ _).alloc (Nat.le_refl _) _).drew
          have hMA : GMap (w3.alloc (.cells #[.int .i64 n] 3)).drew w1.heap.size ((hdsL ks n).map keyL) := HM3.out.belowS hbA
          have hlk2 : (Instr.lookup 123 (.map (some w1.heap.size)) (ekS (keyL ks[n])) false).run Tryz.prog (w3.alloc (.cells #[.int .i64 n] 3)).drew = .ok (.int .i64 J) (w3.alloc (.cells #[.int .i64 n] 3)).drew := by
            have := hMA.run_lookup (string_keyed Tryz.underlying9) ekS_inj Tryz.underlying123 (zero_int _) (keyL ks[n]) HKEY.out false
            rw [HIY.out] at this
            exact this
          have hctA : (w3.alloc (.cells #[.int .i64 n] 3)).drew.cell? ⟨gU, J, none⟩ = some (.slice (some ⟨gr, 0, none⟩) m rc) := (hbA.cell (World.block_lt_of_cell? _ _ hct)).trans hct
          have hRA : ((w3.alloc (.cells #[.int .i64 n] 3)).drew).ownsRow (w1.heap.size + 1) 3 1 (.slice (some ⟨gr, 0, none⟩) m rc) m ((grpL ks n)[J].map (Value.int .i64)) := owns_below HROW.out hbA
          have hSA : RowK ((w3.alloc (.cells #[.int .i64 n] 3)).drew) (.slice (some ⟨w3.heap.size, 0, none⟩) 1 1) 1 1 [.int .i64 n] := row_one_new w3 _ _
          have hNA : NR ((w3.alloc (.cells #[.int .i64 n] 3)).drew) (w1.heap.size + 1) 28 3 (.slice (some ⟨gU, 0, none⟩) L uc) vs' (grpL ks n) := HN3.out.below hbA
          have q1 : m + 1 ≤ 140737488355328 := by omega
          have q2 : (m + 1) * 8 ≤ 140737488355328 := by omega
          have hmlt := HM.out.lt
          have q3 : w1.heap.size + 1 ≤ ((w3.alloc (.cells #[.int .i64 n] 3)).drew).heap.size := by simp; omega
          have HRA := hid hRA
          have HSA := hid hSA
          have HNA := hid hNA
          have HMA := hid hMA
          have hbA' := hbA
          have hszA : w.heap.size ≤ ((w3.alloc (.cells #[.int .i64 n] 3)).drew).heap.size := by simp; omega
          clear hlkD hRA hSA hNA hMA hbA
          go_region_law (first
            | (refine step_append_lie rfl (.tmp 56) (.tmp 58) 28 rfl (w1.heap.size + 1) 3 el_int Tryz.underlying28 rfl (by decide) (.slice (some ⟨gr, 0, none⟩) m rc) m _ rfl HRA.out (.slice (some ⟨w3.heap.size, 0, none⟩) 1 1) 1 [.int .i64 n] rfl HSA.out (oneCell_one rfl) (by decide) q1 q2 q3 _ rfl ?_
               intro g1 c1 w4 hown4 hgrow4 hat4 hlt4
               have hc4 := (HNA.out.cellTop HL.out.symm HVJ.out hgrow4).1
               have hf4 := (HNA.out.cellTop HL.out.symm HVJ.out hgrow4).2
               have hM4 : GMap w4 w1.heap.size ((hdsL ks n).map keyL) := HMA.out.kept hgrow4 (by
                 intro h
                 have := (HRA.out.lt w1.heap.size h.symm).1
                 omega)
               have hlk4 : (Instr.lookup 123 (.map (some w1.heap.size)) (ekS (keyL ks[n])) false).run Tryz.prog w4 = .ok (.int .i64 J) w4 := by
                 have := hM4.run_lookup (string_keyed Tryz.underlying9) ekS_inj Tryz.underlying123 (zero_int _) (keyL ks[n]) HKEY.out false
                 rw [HIY.out] at this
                 exact this
               have HPUT : Hid (NR (w4.setCell ⟨gU, J, none⟩ (.slice (some ⟨g1, 0, none⟩) (m + 1) c1)) (w1.heap.size + 1) 28 3 (.slice (some ⟨gU, 0, none⟩) L uc) (vs'.set J (.slice (some ⟨g1, 0, none⟩) (m + 1) c1)) (grpL ks (n + 1))) := hid (by
                 rw [HOLD.out]
                 refine HNA.out.put' HL.out.symm HVJ.out hJg HMM.out.symm hown4 hgrow4 ?_
                 rcases hat4 with h | h
                 · exact Or.inl h
                 · exact Or.inr (Nat.le_of_eq h.symm))
               have HBZ : Hid (Below w.heap.size w (w4.setCell ⟨gU, J, none⟩ (.slice (some ⟨g1, 0, none⟩) (m + 1) c1))) := hid (((hb03.trans (hbA'.mono hsz3)).grown hgrow4 hszA (fun q hq => by have := (HRA.out.lt q hq).1; omega)).setCell (p := ⟨gU, J, none⟩) (by show w.heap.size ≤ gU; omega) _)
               have HMZ : Hid (GMap (w4.setCell ⟨gU, J, none⟩ (.slice (some ⟨g1, 0, none⟩) (m + 1) c1)) w1.heap.size ((hdsL ks (n + 1)).map keyL)) := hid (by
                 rw [HHS.out]
                 exact hM4.setCell (a := ⟨gU, J, none⟩) (by show w1.heap.size ≠ gU; omega) _)
               clear hown4 hgrow4 hat4 hM4))
          all_goals
            go_wp2
            go_roundw
            (case rel => exact ⟨n + 1, _, by omega, by go_num, HPUT.out, HMZ.out, HBZ.out⟩)
            (case measure => simp [intOf]; omega)
        · -- a new group
          obtain ⟨L, hL⟩ : ∃ L, (grpL ks n).length = L := ⟨_, rfl⟩
          have hLn : L ≤ n := by rw [← hL, grpL_len]; exact hdl
          have hushape : ∃ a' c', u9 = .slice a' L c' := by
            rcases HN3.out.top.2 with ⟨z1, z2⟩ | ⟨g', c', cur, z1, _⟩
            · rw [hL] at z2; subst z2; exact ⟨none, 0, z1⟩
            · rw [hL] at z1; exact ⟨_, _, z1⟩
          obtain ⟨ua, uc, hue⟩ := hushape
          subst hue
          have hnew := grpL_new hnk hmem
          have hhs : hdsL ks (n + 1) = hdsL ks n ++ [ks[n]] := by rw [hdsL_succ hnk, if_neg hmem]
          have hnm : keyL ks[n] ∉ (hdsL ks n).map keyL := fun h => hmem (hkm.1 h)
          have hdsl : ((hdsL ks n).map keyL).length = L := by rw [List.length_map, ← hL, grpL_len]
          have hin := idxM_no hnm
          have hii := idxM_ins hnm
          have hiy : idxM ((hdsL ks n).map keyL ++ [keyL ks[n]]) (keyL ks[n]) = some (L : Int) := by
            rw [idxM_yes (by simp), List.idxOf_append, if_neg hnm, hdsl]; simp
          rw [hdsl] at hii
          have HIY := hid hiy
          have HIN := hid hin
          have HII := hid hii
          have HNEW := hid hnew
          have HHS := hid hhs
          have HL := hid hL
          have HDSL := hid hdsl
          have hmlt := HM.out.lt
          have q0 : ∀ w4 : World, w3.heap.size ≤ w4.heap.size → w1.heap.size + 1 ≤ (w4.alloc (.cells #[.slice none 0 0] 28)).heap.size := fun w4 h => by simp; omega
          clear hmem hkm hki hnew hhs hnm hdsl hin hii hiy hL
          go_wp2_with (first
            | (at_lookup; refine wpList_lookup_mapK rfl _ _ 123 true rfl (string_keyed Tryz.underlying9) ekS_inj Tryz.underlying123 (zero_int _) rfl HM3.out (keyL ks[n]) rfl HKEY.out (.tuple #[.int .i64 0, .bool false]) (by rw [HIN.out]; rfl) ?_)
            | (at_mapUpdate; refine wpList_update_mapK rfl _ _ _ 123 rfl (string_keyed Tryz.underlying9) ekS_inj Tryz.underlying123 rfl HM3.out (keyL ks[n]) (L : Int) rfl rfl HKEY.out ?_; intro w4 hm4' hg4
               have HM4 : Hid (GMap w4 w1.heap.size ((hdsL ks n).map keyL ++ [keyL ks[n]])) := hid (gmap_ins HIN.out (by rw [HDSL.out]; exact HII.out) (by rw [HDSL.out] at hm4' ⊢; exact hm4'))
               have HN4 : Hid (NR w4 (w1.heap.size + 1) 28 3 (.slice ua L uc) vs' (grpL ks n)) := hid (HN3.out.kept hg4 (fun q hq => by cases hq; omega))
               have hb4 : Below w.heap.size w w4 := hb03.grown hg4 hsz3 (fun q hq => by cases hq; exact hsz1)
               have hs4 := hg4.size
               have htop4 := HN4.out.top
               rw [HL.out] at htop4
               have HTOP4 := hid (htop4.alloc (.cells #[.slice none 0 0] 28))
               clear hm4' htop4 hg4)
            | (at_builtin; refine wpList_append_lie rfl _ _ 51 rfl (w1.heap.size + 1) 28 el_ints Tryz.underlying51 rfl (by decide) _ _ _ rfl HTOP4.out _ 1 [.slice none 0 0] rfl (row_one_new _ _ _) (oneCell_one rfl) (by omega) (by omega) (by omega) (q0 _ hs4) _ rfl ?_; intro gU uc2 w6 hown6 hgrow6 hat6 hlt6))
          have hb4a : Below w4.heap.size w4 (w4.alloc (.cells #[.slice none 0 0] 28)) := (Below.refl _ _).alloc (Nat.le_refl _) _
          have hN6 := NR.pushNew (g := []) HN4.out (Nat.le_refl _) (base := w1.heap.size + 1) (by omega) hb4a (World.ownsRow_nil _ _ _ _) HL.out.symm hown6 hgrow6 rfl hat6
          have hb6 : Below w.heap.size w w6 := (hb4.trans (hb4a.mono hb4.size)).grown hgrow6 (by simp; omega) (fun q hq => by have := (HTOP4.out.lt q hq).1; omega)
          have hM6 : GMap w6 w1.heap.size ((hdsL ks n).map keyL ++ [keyL ks[n]]) := (HM4.out.alloc _).kept hgrow6 (by
            intro h
            have := (HTOP4.out.lt w1.heap.size h.symm).1
            omega)
          have hvj : (vs' ++ [Value.slice none 0 0])[L]? = some (.slice none 0 0) := by
            have := HN4.out.len
            rw [HL.out] at this
            rw [List.getElem?_append_right (by omega), this]; simp
          have hgl : (grpL ks n ++ [[]]).length = L + 1 := by rw [List.length_append, HL.out]; rfl
          have hJg : L < (grpL ks n ++ [[]]).length := by omega
          have hgj : (grpL ks n ++ [[]])[L] = [] := by
            have : (grpL ks n ++ [[]])[L]? = some [] := by rw [List.getElem?_append_right (by rw [HL.out]; exact Nat.le_refl _), HL.out]; simp
            rw [List.getElem?_eq_getElem hJg] at this
            exact Option.some.inj this
          have hset : grpL ks (n + 1) = (grpL ks n ++ [[]]).set L ((grpL ks n ++ [[]])[L] ++ [(n : Int)]) := by
            rw [hgj, HNEW.out, List.set_append_right _ _ (by rw [HL.out]; exact Nat.le_refl _), HL.out]; simp
          have htop := hN6.cellTop hgl.symm hvj (World.grownBy.refl _ _)
          have hct := htop.1
          have hcf := htop.2
          have hsz6 := hb6.size
          have hgU := (hN6.top.lt gU rfl).1
          have HN6 := hid hN6
          have HM6 := hid hM6
          have HVJ := hid hvj
          have HGL := hid hgl
          have HGJ := hid hgj
          have HSET := hid hset
          have hm6lt := hM6.lt
          have hJL : L < L + 1 := by omega
          have hJL2 : (L : Int) < (L : Int) + 1 := by omega
          clear hN6 hM6 hvj hgl hgj hset htop hown6 hgrow6 hat6 hb4a
          have hlk1 : (Instr.lookup 123 (.map (some w1.heap.size)) (ekS (keyL ks[n])) false).run Tryz.prog w6.drew = .ok (.int .i64 L) w6.drew := by
            have := HM6.out.drew.run_lookup (string_keyed Tryz.underlying9) ekS_inj Tryz.underlying123 (zero_int _) (keyL ks[n]) HKEY.out false
            rw [HIY.out] at this
            exact this
          have hbA : Below w6.heap.size w6 (w6.alloc (.cells #[.int .i64 n] 3)).drew := ((Below.refl _ _).alloc (Nat.le_refl _) _).drew
          have hMA : GMap (w6.alloc (.cells #[.int .i64 n] 3)).drew w1.heap.size ((hdsL ks n).map keyL ++ [keyL ks[n]]) := HM6.out.belowS hbA
          have hlk2 : (Instr.lookup 123 (.map (some w1.heap.size)) (ekS (keyL ks[n])) false).run Tryz.prog (w6.alloc (.cells #[.int .i64 n] 3)).drew = .ok (.int .i64 L) (w6.alloc (.cells #[.int .i64 n] 3)).drew := by
            have := hMA.run_lookup (string_keyed Tryz.underlying9) ekS_inj Tryz.underlying123 (zero_int _) (keyL ks[n]) HKEY.out false
            rw [HIY.out] at this
            exact this
          have hctA : (w6.alloc (.cells #[.int .i64 n] 3)).drew.cell? ⟨gU, L, none⟩ = some (.slice none 0 0) := (hbA.cell (World.block_lt_of_cell? _ _ hct)).trans hct
          have hRA : ((w6.alloc (.cells #[.int .i64 n] 3)).drew).ownsRow (w1.heap.size + 1) 3 1 (.slice none 0 0) 0 [] := World.ownsRow_nil _ _ _ _
          have hSA : RowK ((w6.alloc (.cells #[.int .i64 n] 3)).drew) (.slice (some ⟨w6.heap.size, 0, none⟩) 1 1) 1 1 [.int .i64 n] := row_one_new w6 _ _
          have hNA : NR ((w6.alloc (.cells #[.int .i64 n] 3)).drew) (w1.heap.size + 1) 28 3 (.slice (some ⟨gU, 0, none⟩) (L + 1) uc2) (vs' ++ [.slice none 0 0]) (grpL ks n ++ [[]]) := HN6.out.below hbA
          have q3 : w1.heap.size + 1 ≤ ((w6.alloc (.cells #[.int .i64 n] 3)).drew).heap.size := by simp; omega
          have HRA := hid hRA
          have HSA := hid hSA
          have HNA := hid hNA
          have HMA := hid hMA
          have hbA' := hbA
          have hszA : w.heap.size ≤ ((w6.alloc (.cells #[.int .i64 n] 3)).drew).heap.size := by simp; omega
          clear hRA hSA hNA hMA hbA
          go_region_law (first
            | (refine step_append_lie rfl (.tmp 56) (.tmp 58) 28 rfl (w1.heap.size + 1) 3 el_int Tryz.underlying28 rfl (by decide) (.slice none 0 0) 0 [] rfl HRA.out (.slice (some ⟨w6.heap.size, 0, none⟩) 1 1) 1 [.int .i64 n] rfl HSA.out (oneCell_one rfl) (by decide) (by decide) (by decide) q3 _ rfl ?_
               intro g1 c1 w7 hown7 hgrow7 hat7 hlt7
               have hc7 := (HNA.out.cellTop HGL.out.symm HVJ.out hgrow7).1
               have hf7 := (HNA.out.cellTop HGL.out.symm HVJ.out hgrow7).2
               have hM7 : GMap w7 w1.heap.size ((hdsL ks n).map keyL ++ [keyL ks[n]]) := HMA.out.kept hgrow7 (by intro h; cases h)
               have hlk7 : (Instr.lookup 123 (.map (some w1.heap.size)) (ekS (keyL ks[n])) false).run Tryz.prog w7 = .ok (.int .i64 L) w7 := by
                 have := hM7.run_lookup (string_keyed Tryz.underlying9) ekS_inj Tryz.underlying123 (zero_int _) (keyL ks[n]) HKEY.out false
                 rw [HIY.out] at this
                 exact this
               have HPUT : Hid (NR (w7.setCell ⟨gU, L, none⟩ (.slice (some ⟨g1, 0, none⟩) (0 + 1) c1)) (w1.heap.size + 1) 28 3 (.slice (some ⟨gU, 0, none⟩) (L + 1) uc2) ((vs' ++ [Value.slice none 0 0]).set L (Value.slice (some ⟨g1, 0, none⟩) (0 + 1) c1)) (grpL ks (n + 1))) := hid (by
                 rw [HSET.out]
                 refine HNA.out.put' HGL.out.symm HVJ.out hJg (by simp [HGJ.out]) (by rw [HGJ.out]; exact hown7) hgrow7 ?_
                 rcases hat7 with h | h
                 · cases h
                 · exact Or.inr (Nat.le_of_eq h.symm))
               have HBZ : Hid (Below w.heap.size w (w7.setCell ⟨gU, L, none⟩ (.slice (some ⟨g1, 0, none⟩) (0 + 1) c1))) := hid (((hb6.trans (hbA'.mono hsz6)).grown hgrow7 hszA (fun q hq => by cases hq)).setCell (p := ⟨gU, L, none⟩) (by show w.heap.size ≤ gU; omega) _)
               have HMZ : Hid (GMap (w7.setCell ⟨gU, L, none⟩ (.slice (some ⟨g1, 0, none⟩) (0 + 1) c1)) w1.heap.size ((hdsL ks (n + 1)).map keyL)) := hid (by
                 rw [HHS.out, List.map_append]
                 exact hM7.setCell (a := ⟨gU, L, none⟩) (by show w1.heap.size ≠ gU; omega) _)
               clear hown7 hgrow7 hat7 hM7))
          all_goals
            go_wp2
            go_roundw
            (case rel => exact ⟨n + 1, _, by omega, by go_num, HPUT.out, HMZ.out, HBZ.out⟩)
            (case measure => simp [intOf]; omega)
      · have hnl : n = l.length := by omega
        subst hnl
        have HN := hid hN
        clear hN hM
        go_wp2
        go_ret2
        exact ⟨hb, Or.inr ⟨by simp, _, vs', rfl, HN.out.base (by omega)⟩⟩
end Go.Proofs.YtldgkidojepdlaaGreat
