/-
  WHAT IT HOLDS: contracts of Givens of the reference of layer 6, of ValidGivens, right, run and Says of the reference of layer 4. Conditions: the arguments read as data.
  WHAT IT HOLDS: what a proof says whose steps were moved: what it said. No program in sight.
  WHAT IT HOLDS: plain words on a lemma that is put into the rest of a proof: the whole says what the rest says where the lemma's statement is a further given. No program in sight.
  WHAT IT HOLDS: plain law of ShortLemmas: a lemma cut out of a proof says what its step said, the rest says what the proof says where the lemma's statement is a further given, and so does the rest with the lemma put back. No program in sight.
  WHAT IT HOLDS: contracts of valid, said and Good of package short, of Run of the reference of layer 4, of run, Good and valid of the reference of layer 7. Conditions: the arguments read as data; a small sign, small lists.
  WHAT IT HOLDS: contracts of Run of the reference of layer 4, of run, Good and valid of the reference of layer 7, of Good of package short. Conditions: the arguments read as data; a small sign, small lists.
-/
import Derived.Deep.RegionHeld3
import Derived.Test.YtmpjaakkjhmpmaaGreatDoorZRShortCites34
import Derived.Test.YtmpjaakkjhmpmaaGreatDoorZRShortCites26
import Derived.Test.YtmpjaakkjhmpmaaGreatDoorZRShortCites30
namespace Go.Proofs.YtmpjaakkjhmpmaaGreatDoor
open Go Go.RowKit Go.Maps
def GivQ (l : List En) (ns : List Nm) (w : World) (e : Ending) (w' : World) : Prop := ∃ u ts z, ((givL l ns = none ∧ ts = [] ∧ z = false) ∨ (givL l ns = some ts ∧ z = true)) ∧ e = .returned (.tuple #[u, .bool z]) ∧ Terms w' u ts ∧ Below w.heap.size w w'
theorem GivQ.mk {l : List En} {ns : List Nm} {w : World} {e : Ending} {w' : World} (u : Value) (ts : List (List Int)) (z : Bool) (h1 : (givL l ns = none ∧ ts = [] ∧ z = false) ∨ (givL l ns = some ts ∧ z = true)) (h2 : e = .returned (.tuple #[u, .bool z])) (h3 : Terms w' u ts) (h4 : Below w.heap.size w w') : GivQ l ns w e w' := ⟨u, ts, z, h1, h2, h3, h4⟩
theorem ref4_ValidGivens (v vl : Value) (s : Sg) (l : List (List Int)) (w : World) (hs : SignAt w v s) (hv : Terms w vl l) :
    Calls Tryz.prog 99 #[v, vl] w fun e w' => e = .returned (.bool (givensB s l)) ∧ Below w.heap.size w w' := by
  have HVS := hid (ref1_ValidSign v s w hs)
  have HAV := hid (fun (X : World) (hb : Below w.heap.size w X) => ref1_AllValid v vl s l X (hs.below hb) (hv.below hb))
  obtain ⟨sa, scap, rfl, _⟩ := hs.open
  obtain ⟨la, lcap, rfl, -, ll, -⟩ := hv.open
  have hin : inB (l.length : Int) 0 60 = decide (l.length ≤ 60) := by
    cases h : decide (l.length ≤ 60)
    · have := of_decide_eq_false h
      unfold inB
      simp
      omega
    · have := of_decide_eq_true h
      exact inB_true.2 (by omega)
  have HC := hid (fun (X : World) => ref4_isCount (l.length : Int) X)
  rw [hin] at HC
  unfold givensB
  clear hs hv hin
  cases h2 : signB s
  · rw [h2] at HVS
    go_enter Tryz.func99, Tryz.ntmps99
    go_wp2_with fail
    refine HVS.out.mono ?_
    rintro e w1 ⟨rfl, n1, rfl⟩
    go_wp2
    go_ret
    exact ⟨ret_bool rfl, below_self_drewN _ _⟩
  · rw [h2] at HVS
    cases h3 : decide (l.length ≤ 60)
    · rw [h3] at HC
      go_enter Tryz.func99, Tryz.ntmps99
      go_wp2_with fail
      refine HVS.out.mono ?_
      rintro e w1 ⟨rfl, n1, rfl⟩
      go_wp2_with fail
      refine (HC.out _).mono ?_
      rintro e w2 ⟨rfl, rfl⟩
      go_wp2
      go_ret
      exact ⟨ret_bool rfl, below_self_drewN _ _⟩
    · rw [h3] at HC
      go_enter Tryz.func99, Tryz.ntmps99
      go_wp2_with fail
      refine HVS.out.mono ?_
      rintro e w1 ⟨rfl, n1, rfl⟩
      go_wp2_with fail
      refine (HC.out _).mono ?_
      rintro e w2 ⟨rfl, rfl⟩
      go_wp2_with fail
      refine (HAV.out _ (below_self_drewN _ _)).mono ?_
      rintro e w3 ⟨rfl, n3, rfl⟩
      go_wp2
      go_ret
      exact ⟨ret_bool (by simp), below_self_drewN _ _⟩
theorem ref4_right (v vl vp : Value) (s : Sg) (l : List (List Int)) (p : List St) (w : World) (hs : SignAt w v s) (hv : Terms w vl l) (hp : StepsAt w vp p) :
    Calls Tryz.prog 125 #[v, vl, vp] w fun e w' => e = .returned (.bool (askedB s l p)) ∧ Below w.heap.size w w' := by
  have HVG := hid (ref4_ValidGivens v vl s l w hs hv)
  have HPP := hid hp
  obtain ⟨sa, scap, rfl, _⟩ := hs.open
  obtain ⟨la, lcap, rfl, -, ll, -⟩ := hv.open
  obtain ⟨pa, pcap, rfl, -, pl, -⟩ := hp.open
  clear hs hv hp
  cases h1 : givensB s l
  · have HF : Hid (askedB s l p = false) := hid (by unfold askedB; rw [h1]; rfl)
    rw [h1] at HVG
    go_enter Tryz.func125, Tryz.ntmps125
    go_wp2_with fail
    refine HVG.out.mono ?_
    rintro e w1 ⟨rfl, hb1⟩
    go_wp2
    go_ret
    exact ⟨ret_bool HF.out.symm, hb1⟩
  · have HF : Hid (askedB s l p = proofB l.length p) := hid (by unfold askedB; rw [h1]; rfl)
    have hl60 : l.length ≤ 60 := by
      unfold givensB at h1
      simp only [Bool.and_eq_true, decide_eq_true_eq] at h1
      exact h1.1.2
    rw [h1] at HVG
    go_enter Tryz.func125, Tryz.ntmps125
    go_wp2_with fail
    refine HVG.out.mono ?_
    rintro e w1 ⟨rfl, hb1⟩
    have HVP := hid (ref4_ValidProof (l.length : Int) (.slice pa p.length pcap) p w1 (by omega) (HPP.out.below hb1))
    have HB1 := hid hb1
    clear hb1
    go_wp2_with fail
    refine HVP.out.mono ?_
    rintro e w2 ⟨rfl, hb2⟩
    go_wp2
    go_ret
    exact ⟨ret_bool HF.out.symm, HB1.out.trans (hb2.mono HB1.out.size)⟩
theorem right_step {g k : Int} {x : St} (h : rightB g k x = true) : (x.1 = 1 ∧ 0 ≤ x.2.1 ∧ x.2.1 < g) ∨ (x.1 = 2 ∧ 0 ≤ x.2.1 ∧ x.2.1 < k ∧ 0 ≤ x.2.2 ∧ x.2.2 < k) := by
  unfold rightB at h
  split at h
  · rename_i h1
    simp only [Bool.and_eq_true] at h
    have := inB_true.1 h.1
    exact Or.inl ⟨h1, by omega, by omega⟩
  · split at h
    · rename_i h1 h2
      simp only [Bool.and_eq_true] at h
      have := inB_true.1 h.1
      have := inB_true.1 h.2
      exact Or.inr ⟨h2, by omega, by omega, by omega, by omega⟩
    · cases h
theorem say_snoc {s : Sg} {g : List (List Int)} {p : List St} {ts : List (List Int)} {st : St} {t : List Int} (h : ∀ i t, ts[i]? = some t → ∃ st, p[i]? = some st ∧ sayR s g (ts.take i) st (t, 0)) (hp : p[ts.length]? = some st) (hs : sayR s g ts st (t, 0)) :
    ∀ i u, (ts ++ [t])[i]? = some u → ∃ st, p[i]? = some st ∧ sayR s g ((ts ++ [t]).take i) st (u, 0) := by
  intro i u hi
  by_cases hlt : i < ts.length
  · rw [List.getElem?_append_left hlt] at hi
    obtain ⟨st', h1, h2⟩ := h i u hi
    exact ⟨st', h1, by rw [List.take_append_of_le_length (by omega)]; exact h2⟩
  · have e : i = ts.length := by have := (List.getElem?_eq_some_iff.1 hi).1; simp at this; omega
    subst e
    simp at hi
    subst hi
    exact ⟨st, hp, by rw [List.take_left]; exact hs⟩
set_option maxHeartbeats 4000000 in
set_option maxRecDepth 100000 in
theorem ref4_run (vs vg vp : Value) (s : Sg) (g : List (List Int)) (p : List St) (w : World) (hask : askedB s g p = true) (hs : SignAt w vs s) (hg : Terms w vg g) (hp : StepsAt w vp p) :
    Calls Tryz.prog 126 #[vs, vg, vp] w fun e w' => ∃ u l er, RunR s g p l er ∧ e = .returned (.tuple #[u, .int .i64 er]) ∧ Terms w' u l ∧ Below w.heap.size w w' := by
  obtain ⟨hgv, hpv⟩ := asked_parts hask
  have hp60 := proof60 hpv
  have HST := hid (fun (k : Nat) (hk : k < p.length) => right_step (proofB_at hpv hk))
  have HGV : Hid (∀ (k : Nat) (hk : k < g.length), termB s g[k] = true) := hid (fun k hk => by
    unfold givensB at hgv
    simp only [Bool.and_eq_true] at hgv
    exact List.all_eq_true.1 hgv.2 _ (List.getElem_mem hk))
  have HSG := hid hs
  obtain ⟨sa, sc, rfl, -⟩ := hs.open
  obtain ⟨ga, gc, rfl, -, gl, -, GC⟩ := hg.open
  obtain ⟨pa, pc, rfl, -, pl, -, PC⟩ := hp.open
  have GC' := hid GC
  have PC' := hid PC
  have h00 := hid (TeS.nil w w.heap.size)
  clear GC PC hs hg hp hask hgv hpv
  go_enter Tryz.func126, Tryz.ntmps126
  go_wp2
  go_loopw [8, 9] (fun u kv wr => ∃ (k : Nat) (vvs : List Value) (ts : List (List Int)), k ≤ p.length ∧ kv = .int .i64 k ∧ TeS wr w.heap.size u vvs ts ∧ ts.length = k ∧ (∀ i t, ts[i]? = some t → ∃ st, p[i]? = some st ∧ sayR s g (ts.take i) st (t, 0)) ∧ (∀ (i : Nat) (h : i < ts.length), termB s ts[i] = true) ∧ Below w.heap.size w wr) (fun _ kv _ => p.length - (intOf kv).toNat)
  case atStart => exact ⟨0, [], [], by omega, rfl, h00.out, rfl, by simp, by simp, Below.refl _ _⟩
  case round =>
    clear h00
    obtain ⟨k, vvs, ts, hk, rfl, hE, htl, hsay, hok, hb⟩ := hrel
    have hsz := hb.size
    by_cases hlt : k < p.length
    · obtain ⟨pb, po, rfl, p0, p1, p2⟩ := PC'.out k hlt
      have p0' := (hb.cell (World.block_lt_of_cell? _ _ p0)).trans p0
      have p1' := (hb.cell (World.block_lt_of_cell? _ _ p1)).trans p1
      have p2' := (hb.cell (World.block_lt_of_cell? _ _ p2)).trans p2
      have hst := HST.out k hlt
      have hpk : p[ts.length]? = some p[k] := by rw [htl]; exact List.getElem?_eq_getElem hlt
      obtain ⟨st, hst'⟩ : ∃ st, p[k] = st := ⟨_, rfl⟩
      rw [hst'] at p0' p1' p2' hst hpk
      obtain ⟨s1, s2, s3⟩ := st
      have HPK := hid hpk
      have HSAY := hid hsay
      have HOK := hid hok
      clear p0 p1 p2 hst' hpk hsay hok
      dsimp only at p0' p1' p2' hst
      rcases hst with ⟨rfl, h1, h2⟩ | ⟨rfl, h1, h2, h3, h4⟩
      · obtain ⟨n, rfl⟩ : ∃ n : Nat, s2 = n := ⟨s2.toNat, by omega⟩
        have hng : n < g.length := by omega
        obtain ⟨gb, go, ug, rfl, g0, gI⟩ := GC'.out n hng
        have g0' := (hb.cell (World.block_lt_of_cell? _ _ g0)).trans g0
        have gI' := gI.below hb
        have htv := HGV.out n hng
        have hgd : g.getD n [] = g[n] := by rw [List.getD_eq_getElem?_getD, List.getElem?_eq_getElem hng]; rfl
        obtain ⟨x, hx⟩ : ∃ x, g[n] = x := ⟨_, rfl⟩
        rw [hx] at gI' htv hgd
        have f4 := (termB_facts htv).2.2.2
        have HREN := hid (ref1_Renamed ug x wr gI' (termB_T htv).ne (by omega) (termB_wf htv))
        have HSAY2 := hid (say_snoc (t := canonL x) HSAY.out HPK.out (by unfold sayR; rw [if_pos rfl]; show (canonL x, (0 : Int)) = (canonL (g.getD (n : Int).toNat []), 0); rw [Int.toNat_natCast, hgd]))
        have HCV := hid (canon_termK htv)
        have HCL := hid (canonL_len x)
        obtain ⟨z, hz⟩ : ∃ z, canonL x = z := ⟨_, rfl⟩
        rw [hz] at HREN HSAY2 HCV HCL
        have hz60 : z.length ≤ 60 := by rw [HCL.out]; exact f4
        obtain ⟨xa, xc, rfl, -⟩ := gI'.open
        have HE := hid hE
        have HB := hid hb
        have HTL := hid htl
        clear g0 gI gI' hx hgd hE hb htv hz
        go_wp2_with fail
        refine HREN.out.mono ?_
        rintro e w3 ⟨v3, rfl, o3, hb3⟩
        obtain ⟨a3, c3, rfl⟩ := owns_slice o3
        have HE3 := hid (HE.out.below hb3)
        have HO3 := hid o3
        have HU := hid HE.out.top.lt
        have HB3 := hid (HB.out.trans (hb3.mono hsz))
        have hwz := HB3.out.size
        have HS3 := hid hb3.size
        have hown2 := HE3.out.top
        rw [htl] at hown2
        have hownA := hown2.alloc (.cells #[.slice a3 z.length c3] 34)
        clear o3 hb3 hown2
        go_wp2_with (at_builtin; refine wpList_append_lie rfl _ _ 24 rfl w.heap.size 34 el_term Tryz.underlying24 rfl (by decide) u8 k vvs rfl hownA _ 1 [.slice a3 z.length c3] rfl (row_one_new _ _ _) (oneCell_one rfl) (by omega) (by omega) (by omega) (by simp; omega) _ rfl ?_; intro g4 cap w4 hown4 hgrow4 hat4 hlt4)
        go_roundw
        case rel =>
          refine ⟨k + 1, vvs ++ [.slice a3 z.length c3], ts ++ [z], by omega, by go_num, ?_, by simp [HTL.out], HSAY2.out, ?_, (HB3.out.alloc hwz _).grown hgrow4 (by simp; have := hwz; omega) (fun q hq => (HU.out q hq).1)⟩
          · exact HE3.out.push (w1 := w3.alloc _) ((Below.refl _ _).alloc (Nat.le_refl _) _) (fun W' hW' => ints_own HO3.out (by omega) fun q h1 h2 => (hW' q (by simp; omega) (fun e => by
              have := (HU.out q e.symm).2
              omega)).trans (Below.heap_alloc _ _ _ h2)) HTL.out.symm hown4 hgrow4 rfl hat4
          · intro i hi
            by_cases hlt' : i < ts.length
            · rw [List.getElem_append_left hlt']; exact HOK.out i hlt'
            · rw [List.getElem_append_right (by omega)]; simpa using HCV.out
        case measure => simp [intOf]; omega
      · obtain ⟨n, rfl⟩ : ∃ n : Nat, s2 = n := ⟨s2.toNat, by omega⟩
        obtain ⟨m, rfl⟩ : ∃ m : Nat, s3 = m := ⟨s3.toNat, by omega⟩
        have hn : n < ts.length := by omega
        have hm : m < ts.length := by omega
        have hT := hE.terms (by omega)
        obtain ⟨oa, oc, rfl, ocap, -, -, OC⟩ := hT.open
        obtain ⟨ob, oo, un, rfl, k0, i0⟩ := OC n hn
        obtain ⟨ob', oo', um, he', k1, i1⟩ := OC m hm
        obtain ⟨rfl, rfl⟩ : ob = ob' ∧ oo = oo' := by simpa using he'
        have v0 := HOK.out n hn
        have v1 := HOK.out m hm
        have hgn : ts.getD n [] = ts[n] := by rw [List.getD_eq_getElem?_getD, List.getElem?_eq_getElem hn]; rfl
        have hgm : ts.getD m [] = ts[m] := by rw [List.getD_eq_getElem?_getD, List.getElem?_eq_getElem hm]; rfl
        obtain ⟨x, hx⟩ : ∃ x, ts[n] = x := ⟨_, rfl⟩
        obtain ⟨y, hy⟩ : ∃ y, ts[m] = y := ⟨_, rfl⟩
        rw [hx] at i0 v0 hgn
        rw [hy] at i1 v1 hgm
        have HDE := hid (fun (j : Nat) => ref4_detach (.slice sa s.length sc) un um s x y (wr.drewN j) v0 v1 ((HSG.out.below hb).drewN j) (i0.drewN j) (i1.drewN j))
        have HSR := hid (fun (t : List Int) (er : Int) (h : DetR s x y (t, er)) => (show sayR s g ts (2, (n : Int), (m : Int)) (t, er) from by unfold sayR; rw [if_neg (by simp)]; show DetR s (ts.getD (n : Int).toNat []) (ts.getD (m : Int).toNat []) (t, er); rw [Int.toNat_natCast, Int.toNat_natCast, hgn, hgm]; exact h))
        obtain ⟨na, nc, rfl, -⟩ := i0.open
        obtain ⟨ma, mc, rfl, -⟩ := i1.open
        rw [htl] at ocap hE hT ⊢
        have HE := hid hE
        have HB := hid hb
        have HTL := hid htl
        have HT := hid hT
        have hRlt : po + k * 3 < po + k * 3 + 1 := by omega
        clear OC he' hT hE hb i0 i1 v0 v1 hx hy hgn hgm hRlt
        go_wp2
        go_region_held3 (fun w' => w'.cell? ⟨ob, oo + n, none⟩ = some (.slice na x.length nc) ∧ w'.cell? ⟨ob, oo + m, none⟩ = some (.slice ma y.length mc) ∧ w'.cell? ⟨pb, po + k * 3 + 1, none⟩ = some (.int .i64 n) ∧ w'.cell? ⟨pb, po + k * 3 + 2, none⟩ = some (.int .i64 m)) (first | exact ⟨by assumption, by assumption, by assumption, by assumption⟩ | go_keep) (first
          | (go_at_call 162; refine (HDE.out _).mono ?_; rintro e w4 ⟨yy, u, hyy, rfl, hown, hb4'⟩; have hb4 : Below wr.heap.size wr w4 := (below_self_drewN wr _).trans hb4'; have e0 := (hb4.cell (World.block_lt_of_cell? _ _ k0)).trans k0; have e1 := (hb4.cell (World.block_lt_of_cell? _ _ k1)).trans k1; have e2 := (hb4.cell (World.block_lt_of_cell? _ _ p1')).trans p1'; have e3 := (hb4.cell (World.block_lt_of_cell? _ _ p2')).trans p2'))
        have HO4 : Hid (w4.ownsRow wr.heap.size 3 1 u yy.1.length (yy.1.map (Value.int .i64))) := hid hown
        have HB4 := hid (HB.out.trans (hb4.mono hsz))
        have HS4 := hid hb4.size
        have HE4 := hid (HE.out.below hb4)
        have HL60 := hid (det_len hyy)
        obtain ⟨y1, y2⟩ := yy
        have HU := hid HE.out.top.lt
        by_cases hy0 : y2 = 0
        · subst hy0
          obtain ⟨a4, c4, rfl⟩ := owns_slice hown
          have HDT := hid (det_term hyy).1
          have HSAY2 := hid (say_snoc HSAY.out HPK.out (HSR.out _ _ hyy))
          have hwz := HB4.out.size
          have hown2 := HE4.out.top
          rw [htl] at hown2
          have hownA := hown2.alloc (.cells #[.slice a4 y1.length c4] 34)
          clear hown hown2 hb4 hb4' e0 e1 e2 e3 k0 k1 hyy HDE HSR
          go_wp2_with (at_builtin; refine wpList_append_lie rfl _ _ 24 rfl w.heap.size 34 el_term Tryz.underlying24 rfl (by decide) _ k vvs rfl hownA _ 1 [.slice a4 y1.length c4] rfl (row_one_new _ _ _) (oneCell_one rfl) (by omega) (by omega) (by omega) (by simp; omega) _ rfl ?_; intro g4 cap w5 hown4 hgrow4 hat4 hlt4)
          go_roundw
          case rel =>
            refine ⟨k + 1, vvs ++ [.slice a4 y1.length c4], ts ++ [y1], by omega, by go_num, ?_, by simp [HTL.out], HSAY2.out, ?_, (HB4.out.alloc hwz _).grown hgrow4 (by simp; have := hwz; omega) (fun q hq => (HU.out q hq).1)⟩
            · exact HE4.out.push (w1 := w4.alloc _) ((Below.refl _ _).alloc (Nat.le_refl _) _) (fun W' hW' => ints_own HO4.out (by have := HL60.out; dsimp only at this ⊢; omega) fun q h1 h2 => (hW' q (by simp; omega) (fun e => by
                have := (HU.out q e.symm).2
                omega)).trans (Below.heap_alloc _ _ _ h2)) HTL.out.symm hown4 hgrow4 rfl hat4
            · intro i hi
              by_cases hlt' : i < ts.length
              · rw [List.getElem_append_left hlt']; exact HOK.out i hlt'
              · rw [List.getElem_append_right (by omega)]; simpa using HDT.out
          case measure => simp [intOf]; omega
        · have n0 : (y2 != 0) = true := by simpa using hy0
          have HRR : Hid (RunR s g p ts y2) := hid ⟨HSAY.out, Or.inr ⟨hy0, by omega, _, y1, HPK.out, HSR.out _ _ hyy⟩⟩
          have HT4 := hid (HT.out.below hb4)
          clear hown hb4 hb4' e0 e1 e2 e3 k0 k1 hyy HDE HSR hy0
          go_wp2
          go_ret2
          exact ⟨_, ts, y2, HRR.out, rfl, HT4.out, HB4.out⟩
    · have hkl : k = p.length := by omega
      subst hkl
      have HR : Hid (RunR s g p ts 0) := hid ⟨hsay, Or.inl ⟨rfl, htl⟩⟩
      have HT := hid (hE.terms (by omega))
      clear hsay hok hE
      go_wp2
      go_ret2
      exact ⟨_, ts, 0, HR.out, rfl, HT.out, hb⟩
end Go.Proofs.YtmpjaakkjhmpmaaGreatDoor
namespace Go.Proofs.YtmpjaakkjhmpmaaGreatDoor
open Go Go.RowKit
end Go.Proofs.YtmpjaakkjhmpmaaGreatDoor
namespace Go.Proofs.YtmpjaakkjhmpmaaGreatDoor
open Go Go.RowKit
theorem getD_left {α : Type} {l m : List α} {d : α} {i : Nat} (h : i < l.length) : (l ++ m).getD i d = l.getD i d := by
  rw [List.getD_eq_getElem?_getD, List.getD_eq_getElem?_getD, List.getElem?_append_left h]
theorem getD_last {α : Type} {l : List α} {x d : α} : (l ++ [x]).getD l.length d = x := by
  rw [List.getD_eq_getElem?_getD, List.getElem?_append_right (Nat.le_refl _), Nat.sub_self]; rfl
end Go.Proofs.YtmpjaakkjhmpmaaGreatDoor
namespace Go.Proofs.YtmpjaakkjhmpmaaGreatDoor
open Go Go.RowKit
theorem run_len {s : Sg} {g : List (List Int)} {p : List St} {l : List (List Int)} (h : RunR s g p l 0) : l.length = p.length := by
  rcases h.2 with ⟨-, h⟩ | ⟨h, -⟩ <;> first | exact h | exact absurd rfl h
theorem run_take {s : Sg} {g : List (List Int)} {p : List St} {l : List (List Int)} (h : RunR s g p l 0) {k : Nat} (hk : k ≤ p.length) : RunR s g (p.take k) (l.take k) 0 := by
  have hl := run_len h
  refine ⟨fun i t hi => ?_, Or.inl ⟨rfl, by rw [List.length_take, List.length_take, hl]⟩⟩
  have hik : i < k := by have := (List.getElem?_eq_some_iff.1 hi).1; rw [List.length_take] at this; omega
  rw [List.getElem?_take_of_lt hik] at hi
  obtain ⟨st, h1, h2⟩ := h.1 i t hi
  exact ⟨st, by rw [List.getElem?_take_of_lt hik]; exact h1, by rw [List.take_take, Nat.min_eq_left (by omega)]; exact h2⟩
theorem proofB_take {g : Int} {p : List St} (h : proofB g p = true) {k : Nat} (h1 : 1 ≤ k) (hk : k ≤ p.length) : proofB g (p.take k) = true := by
  have h60 := proof60 h
  rw [proofB_all (fun j hj => by
    have hj' : j < p.length := by rw [List.length_take] at hj; omega
    rw [List.getElem_take]
    exact proofB_at h hj')]
  rw [List.length_take]
  exact inB_true.2 (by omega)
def cutS (p : List St) (i : Nat) (g : Int) : List St := p.set i (1, g, 0)
theorem cut_valid {g : Nat} {p : List St} (hp : proofB g p = true) (i : Nat) : proofB ((g : Int) + 1) (cutS p i g) = true := by
  have h60 := proof60 hp
  have h1 := proof1 hp
  rw [proofB_all (fun j hj => ?_)]
  · unfold cutS; rw [List.length_set]; exact inB_true.2 (by omega)
  · unfold cutS at hj ⊢
    rw [List.length_set] at hj
    rw [List.getElem_set]
    split
    · unfold rightB
      rw [if_pos rfl, Bool.and_eq_true]
      exact ⟨inB_true.2 (by dsimp only; omega), by simp⟩
    · have hr := proofB_at hp hj
      rcases right_step hr with ⟨c1, c2, c3⟩ | ⟨c1, -⟩
      · unfold rightB at hr ⊢
        rw [if_pos c1, Bool.and_eq_true] at hr ⊢
        exact ⟨inB_true.2 (by omega), hr.2⟩
      · unfold rightB at hr ⊢
        rw [if_neg (by omega)] at hr ⊢
        exact hr
theorem say_ok {s : Sg} {g : List (List Int)} {p : List St} {l : List (List Int)} {t : List Int} (hg : givensB s g = true) (h : RunR s g p l 0) (hp : proofB g.length p = true) (ht : l.getLast? = some t) : SayP s g p (t, 0) :=
  Or.inr ⟨by unfold askedB; rw [hg, hp]; rfl, l, h, Or.inl ⟨rfl, ht⟩⟩
end Go.Proofs.YtmpjaakkjhmpmaaGreatDoor
namespace Go.Proofs.YtmpjaakkjhmpmaaGreatDoor
open Go Go.RowKit Go.Maps
def vldB (g : Int) (p : List St) : Bool := inB g 0 60 && proofB g p
def vldE (g : Int) (p : List St) : Int := if vldB g p = true then 0 else 1
/-- what all steps say: an error if the arguments are not valid, or a step says nothing. -/
def SaidQ (s : Sg) (g : List (List Int)) (p : List St) (l : List (List Int)) (er : Int) : Prop :=
  (askedB s g p = false ∧ l = [] ∧ er = 1) ∨ (askedB s g p = true ∧ ∃ l' e', RunR s g p l' e' ∧ ((e' = 0 ∧ l = l' ∧ er = 0) ∨ (e' ≠ 0 ∧ l = [] ∧ er = 11)))
theorem SaidQ.unique {s : Sg} {g : List (List Int)} {p : List St} {l l' : List (List Int)} {e e' : Int} (h : SaidQ s g p l e) (k : SaidQ s g p l' e') : l = l' ∧ e = e' := by
  rcases h with ⟨h1, rfl, rfl⟩ | ⟨h1, a, x, h2, h3⟩
  · rcases k with ⟨-, rfl, rfl⟩ | ⟨k1, -⟩
    · exact ⟨rfl, rfl⟩
    · rw [h1] at k1; cases k1
  · rcases k with ⟨k1, -⟩ | ⟨k1, b, y, k2, k3⟩
    · rw [h1] at k1; cases k1
    · obtain ⟨rfl, rfl⟩ := h2.unique k2
      rcases h3 with ⟨e, rfl, rfl⟩ | ⟨e, rfl, rfl⟩ <;> rcases k3 with ⟨f, rfl, rfl⟩ | ⟨f, rfl, rfl⟩
      · exact ⟨rfl, rfl⟩
      · exact absurd e f
      · exact absurd f e
      · exact ⟨rfl, rfl⟩
/-- a good proof. -/
theorem SaidQ.good {s : Sg} {g : List (List Int)} {p : List St} {l : List (List Int)} (h : SaidQ s g p l 0) : askedB s g p = true ∧ RunR s g p l 0 := by
  rcases h with ⟨-, -, h⟩ | ⟨h1, a, x, h2, ⟨rfl, rfl, -⟩ | ⟨-, -, h⟩⟩
  · cases h
  · exact ⟨h1, h2⟩
  · cases h
set_option maxHeartbeats 1000000 in
theorem short_valid (g : Int) (v : Value) (p : List St) (w : World) (hp : StepsAt w v p) :
    Calls Tryz.prog 56 #[.int .i64 g, v] w fun e w' => e = .returned (.int .i64 (vldE g p)) ∧ Below w.heap.size w w' := by
  have HV := hid (fun (h : 0 ≤ g ∧ g ≤ 60) => kernel_ValidProof g v p w h hp)
  obtain ⟨a, cap, rfl, -⟩ := hp.open
  clear hp
  by_cases h1 : g < 0
  · have HF : Hid (vldE g p = 1) := hid (by unfold vldE vldB; rw [inB_false.2 (Or.inl h1)]; rfl)
    clear HV
    go_enter Tryz.func56, Tryz.ntmps56
    go_wp2
    go_ret
    exact ⟨congrArg (fun z : Int => Ending.returned (.int .i64 z)) HF.out.symm, Below.refl _ _⟩
  by_cases h2 : 60 < g
  · have HF : Hid (vldE g p = 1) := hid (by unfold vldE vldB; rw [inB_false.2 (Or.inr h2)]; rfl)
    clear HV
    go_enter Tryz.func56, Tryz.ntmps56
    go_wp2
    go_ret
    exact ⟨congrArg (fun z : Int => Ending.returned (.int .i64 z)) HF.out.symm, Below.refl _ _⟩
  have HK := hid (HV.out ⟨by omega, by omega⟩)
  have hi : inB g 0 60 = true := inB_true.2 ⟨by omega, by omega⟩
  clear HV
  cases hb : proofB g p
  · have HF : Hid (vldE g p = 1) := hid (by unfold vldE vldB; rw [hb, Bool.and_false]; rfl)
    rw [hb] at HK
    clear hb
    go_enter Tryz.func56, Tryz.ntmps56
    go_wp2_with fail
    refine HK.out.mono ?_
    rintro e w1 ⟨rfl, hb1⟩
    go_wp2
    go_ret
    exact ⟨congrArg (fun z : Int => Ending.returned (.int .i64 z)) HF.out.symm, hb1⟩
  · have HF : Hid (vldE g p = 0) := hid (by unfold vldE vldB; rw [hb, hi]; rfl)
    rw [hb] at HK
    clear hb
    go_enter Tryz.func56, Tryz.ntmps56
    go_wp2_with fail
    refine HK.out.mono ?_
    rintro e w1 ⟨rfl, hb1⟩
    go_wp2
    go_ret
    exact ⟨congrArg (fun z : Int => Ending.returned (.int .i64 z)) HF.out.symm, hb1⟩
set_option maxHeartbeats 2000000 in
theorem short_said (vs vg vp : Value) (s : Sg) (g : List (List Int)) (p : List St) (w : World) (hs : SignAt w vs s) (hg : Terms w vg g) (hp : StepsAt w vp p) (hs1 : s.length ≤ 1000) :
    Calls Tryz.prog 60 #[vs, vg, vp] w fun e w' => ∃ u l er, e = .returned (.tuple #[u, .int .i64 er]) ∧ SaidQ s g p l er ∧ Terms w' u l ∧ Below w.heap.size w w' := by
  have HG := hid (kernel_ValidGivens vs vg s g w hs hg hs1)
  have HP := hid (fun (h : (0 : Int) ≤ (g.length : Int) ∧ (g.length : Int) ≤ 60) (X : World) (hX : Below w.heap.size w X) => kernel_ValidProof (g.length : Int) vp p X h (hp.below hX))
  have HR := hid (fun (X : World) (hX : Below w.heap.size w X) => kernel_Run vs vg vp s g p X (hs.below hX) (hg.below hX) (hp.below hX) hs1)
  obtain ⟨sa, sc, rfl, -⟩ := hs.open
  obtain ⟨ga, gc, rfl, -⟩ := hg.open
  obtain ⟨pa, pc, rfl, -⟩ := hp.open
  clear hs hg hp hs1
  cases e1 : givensB s g
  · have HF : Hid (SaidQ s g p [] 1) := hid (Or.inl ⟨by unfold askedB; rw [e1]; rfl, rfl, rfl⟩)
    rw [e1] at HG
    clear e1
    go_enter Tryz.func60, Tryz.ntmps60
    go_wp2_with fail
    refine HG.out.mono ?_
    rintro e w1 ⟨rfl, hb1⟩
    go_wp2
    go_ret2
    exact ⟨_, _, _, rfl, HF.out, terms_nilK _, hb1⟩
  have h60 : g.length ≤ 60 := by
    have h := e1
    unfold givensB at h
    rw [Bool.and_eq_true, Bool.and_eq_true, decide_eq_true_eq] at h
    exact h.1.2
  have HP1 := hid (HP.out ⟨by omega, by omega⟩)
  rw [e1] at HG
  have HAS : Hid (askedB s g p = proofB g.length p) := hid (by unfold askedB; rw [e1]; rfl)
  clear e1 HP
  cases e2 : proofB g.length p
  · have HF : Hid (SaidQ s g p [] 1) := hid (Or.inl ⟨HAS.out.trans e2, rfl, rfl⟩)
    simp only [e2] at HP1
    clear e2
    go_enter Tryz.func60, Tryz.ntmps60
    go_wp2_with fail
    refine HG.out.mono ?_
    rintro e w1 ⟨rfl, hb1⟩
    have HB1 := hid hb1
    have K1 := hid (HP1.out w1 hb1)
    clear hb1
    go_wp2_with fail
    refine K1.out.mono ?_
    rintro e w2 ⟨rfl, hb2⟩
    go_wp2
    go_ret2
    exact ⟨_, _, _, rfl, HF.out, terms_nilK _, HB1.out.trans (hb2.mono HB1.out.size)⟩
  simp only [e2] at HP1
  have HASK := hid (HAS.out.trans e2)
  clear e2 HAS
  go_enter Tryz.func60, Tryz.ntmps60
  go_wp2_with fail
  refine HG.out.mono ?_
  rintro e w1 ⟨rfl, hb1⟩
  have HB1 := hid hb1
  have K1 := hid (HP1.out w1 hb1)
  clear hb1
  go_wp2_with fail
  refine K1.out.mono ?_
  rintro e w2 ⟨rfl, hb2⟩
  have HB2 := hid (HB1.out.trans (hb2.mono HB1.out.size))
  have K2 := hid (HR.out w2 HB2.out)
  clear hb2
  go_wp2_with fail
  refine K2.out.mono ?_
  rintro e w3 ⟨u, l, n, er, rfl, hq, hT, hb3⟩
  have HB3 := hid (HB2.out.trans (hb3.mono HB2.out.size))
  have HT := hid hT
  obtain ⟨ua, uc, rfl, -⟩ := hT.open
  have HQ : Hid (RunR s g p l er) := hid (by
    rcases hq with ⟨h, -⟩ | ⟨-, h, -⟩
    · rw [HASK.out] at h; cases h
    · exact h)
  clear hq hT hb3
  by_cases h0 : er = 0
  · subst h0
    have HF : Hid (SaidQ s g p l 0) := hid (Or.inr ⟨HASK.out, l, 0, HQ.out, Or.inl ⟨rfl, rfl, rfl⟩⟩)
    go_wp2
    go_ret2
    exact ⟨_, _, _, rfl, HF.out, HT.out, HB3.out⟩
  · have n0 : (er != 0) = true := by simpa using h0
    have HF : Hid (SaidQ s g p [] 11) := hid (Or.inr ⟨HASK.out, l, er, HQ.out, Or.inr ⟨h0, rfl, rfl⟩⟩)
    clear h0
    go_wp2
    go_ret2
    exact ⟨_, _, _, rfl, HF.out, terms_nilK _, HB3.out⟩
end Go.Proofs.YtmpjaakkjhmpmaaGreatDoor
namespace Go.Proofs.YtmpjaakkjhmpmaaGreatDoor
open Go Go.RowKit Go.Maps
set_option maxHeartbeats 2000000 in
theorem ref4_Run (vs vg vp : Value) (s : Sg) (g : List (List Int)) (p : List St) (w : World) (hs : SignAt w vs s) (hg : Terms w vg g) (hp : StepsAt w vp p) :
    Calls Tryz.prog 89 #[vs, vg, vp] w fun e w' => ∃ u l n er, e = .returned (.tuple #[u, .int .i64 n, .int .i64 er]) ∧ RunQ s g p l n er ∧ Terms w' u l ∧ Below w.heap.size w w' := by
  have HA := hid (ref4_right vs vg vp s g p w hs hg hp)
  have HR := hid (fun (h : askedB s g p = true) (X : World) (hX : Below w.heap.size w X) => ref4_run vs vg vp s g p X h (hs.below hX) (hg.below hX) (hp.below hX))
  obtain ⟨sa, sc, rfl, -⟩ := hs.open
  obtain ⟨ga, gc, rfl, -⟩ := hg.open
  obtain ⟨pa, pc, rfl, -⟩ := hp.open
  clear hs hg hp
  cases hask : askedB s g p
  · rw [hask] at HA
    have HQ : Hid (RunQ s g p [] 0 1) := hid (Or.inl ⟨hask, rfl, rfl, rfl⟩)
    clear hask HR
    go_enter Tryz.func89, Tryz.ntmps89
    go_wp2_with fail
    refine HA.out.mono ?_
    rintro e w1 ⟨rfl, hb1⟩
    go_wp2
    go_ret3
    exact ⟨_, _, _, _, rfl, HQ.out, terms_nilK _, hb1⟩
  rw [hask] at HA
  have HR1 := hid (HR.out hask)
  have HAS := hid hask
  clear hask HR
  go_enter Tryz.func89, Tryz.ntmps89
  go_wp2_with fail
  refine HA.out.mono ?_
  rintro e w1 ⟨rfl, hb1⟩
  have HB1 := hid hb1
  have K1 := hid (HR1.out w1 hb1)
  clear hb1
  go_wp2_with fail
  refine K1.out.mono ?_
  rintro e w2 ⟨u, l, er, hr, rfl, hT, hb2⟩
  have HB2 := hid (HB1.out.trans (hb2.mono HB1.out.size))
  have HT := hid hT
  have HRR := hid hr
  obtain ⟨ua, uc, rfl, -, hul, -⟩ := hT.open
  clear hr hT hb2
  by_cases h0 : er = 0
  · subst h0
    have HQ : Hid (RunQ s g p l (-1) 0) := hid (Or.inr ⟨HAS.out, HRR.out, rfl⟩)
    go_wp2
    go_ret3
    exact ⟨_, _, _, _, rfl, HQ.out, HT.out, HB2.out⟩
  · have n0 : (er != 0) = true := by simpa using h0
    have HQ : Hid (RunQ s g p l l.length er) := hid (Or.inr ⟨HAS.out, HRR.out, by rw [if_neg h0]⟩)
    clear h0
    go_wp2
    go_ret3
    exact ⟨_, _, _, _, rfl, HQ.out, HT.out, HB2.out⟩
set_option maxHeartbeats 2000000 in
theorem ref7_run (vs vg vp : Value) (s : Sg) (g : List (List Int)) (p : List St) (w : World) (hs : SignAt w vs s) (hg : Terms w vg g) (hp : StepsAt w vp p) (hs1 : s.length ≤ 1000) :
    Calls Tryz.prog 62 #[vs, vg, vp] w fun e w' => ∃ u l er, e = .returned (.tuple #[u, .int .i64 er]) ∧ SaidQ s g p l er ∧ Terms w' u l ∧ Below w.heap.size w w' := by
  have HSG := hid ((ref1_ValidSign vs s w hs).mono (fun e w1 ⟨h, n, hn⟩ => (show e = Ending.returned (.bool (signB s)) ∧ Below w.heap.size w w1 from ⟨h, hn ▸ below_self_drewN _ _⟩)))
  have HG := hid (fun (X : World) (hX : Below w.heap.size w X) => ref4_ValidGivens vs vg s g X (hs.below hX) (hg.below hX))
  have HP := hid (fun (h : (0 : Int) ≤ (g.length : Int) ∧ (g.length : Int) ≤ 60) (X : World) (hX : Below w.heap.size w X) => ref4_ValidProof (g.length : Int) vp p X h (hp.below hX))
  have HR := hid (fun (X : World) (hX : Below w.heap.size w X) => ref4_Run vs vg vp s g p X (hs.below hX) (hg.below hX) (hp.below hX))
  obtain ⟨sa, sc, rfl, -⟩ := hs.open
  obtain ⟨ga, gc, rfl, -⟩ := hg.open
  obtain ⟨pa, pc, rfl, -⟩ := hp.open
  clear hs hg hp hs1
  cases e0 : signB s
  · have HF : Hid (SaidQ s g p [] 1) := hid (Or.inl ⟨by unfold askedB givensB; rw [e0]; rfl, rfl, rfl⟩)
    rw [e0] at HSG
    clear e0
    go_enter Tryz.func62, Tryz.ntmps62
    go_wp2_with fail
    refine HSG.out.mono ?_
    rintro e w1 ⟨rfl, hb1⟩
    go_wp2
    go_ret2
    exact ⟨_, _, _, rfl, HF.out, terms_nilK _, hb1⟩
  rw [e0] at HSG
  clear e0
  cases e1 : givensB s g
  · have HF : Hid (SaidQ s g p [] 1) := hid (Or.inl ⟨by unfold askedB; rw [e1]; rfl, rfl, rfl⟩)
    simp only [e1] at HG
    clear e1
    go_enter Tryz.func62, Tryz.ntmps62
    go_wp2_with fail
    refine HSG.out.mono ?_
    rintro e w1 ⟨rfl, hb1⟩
    have HB1 := hid hb1
    have K1 := hid (HG.out w1 hb1)
    clear hb1
    go_wp2_with fail
    refine K1.out.mono ?_
    rintro e w2 ⟨rfl, hb2⟩
    go_wp2
    go_ret2
    exact ⟨_, _, _, rfl, HF.out, terms_nilK _, HB1.out.trans (hb2.mono HB1.out.size)⟩
  have h60 : g.length ≤ 60 := by
    have h := e1
    unfold givensB at h
    rw [Bool.and_eq_true, Bool.and_eq_true, decide_eq_true_eq] at h
    exact h.1.2
  have HP1 := hid (HP.out ⟨by omega, by omega⟩)
  simp only [e1] at HG
  have HAS : Hid (askedB s g p = proofB g.length p) := hid (by unfold askedB; rw [e1]; rfl)
  clear e1 HP
  cases e2 : proofB g.length p
  · have HF : Hid (SaidQ s g p [] 1) := hid (Or.inl ⟨HAS.out.trans e2, rfl, rfl⟩)
    simp only [e2] at HP1
    clear e2
    go_enter Tryz.func62, Tryz.ntmps62
    go_wp2_with fail
    refine HSG.out.mono ?_
    rintro e w1 ⟨rfl, hb1⟩
    have HB1 := hid hb1
    have K1 := hid (HG.out w1 hb1)
    clear hb1
    go_wp2_with fail
    refine K1.out.mono ?_
    rintro e w2 ⟨rfl, hb2⟩
    have HB2 := hid (HB1.out.trans (hb2.mono HB1.out.size))
    have K2 := hid (HP1.out w2 HB2.out)
    clear hb2
    go_wp2_with fail
    refine K2.out.mono ?_
    rintro e w3 ⟨rfl, hb3⟩
    go_wp2
    go_ret2
    exact ⟨_, _, _, rfl, HF.out, terms_nilK _, HB2.out.trans (hb3.mono HB2.out.size)⟩
  simp only [e2] at HP1
  have HASK := hid (HAS.out.trans e2)
  clear e2 HAS
  go_enter Tryz.func62, Tryz.ntmps62
  go_wp2_with fail
  refine HSG.out.mono ?_
  rintro e w1 ⟨rfl, hb1⟩
  have HB1 := hid hb1
  have K1 := hid (HG.out w1 hb1)
  clear hb1
  go_wp2_with fail
  refine K1.out.mono ?_
  rintro e w2 ⟨rfl, hb2⟩
  have HB2 := hid (HB1.out.trans (hb2.mono HB1.out.size))
  have K2 := hid (HP1.out w2 HB2.out)
  clear hb2
  go_wp2_with fail
  refine K2.out.mono ?_
  rintro e w3 ⟨rfl, hb3⟩
  have HB3 := hid (HB2.out.trans (hb3.mono HB2.out.size))
  have K3 := hid (HR.out w3 HB3.out)
  clear hb3
  go_wp2_with fail
  refine K3.out.mono ?_
  rintro e w4 ⟨u, l, n, er, rfl, hq, hT, hb4⟩
  have HB4 := hid (HB3.out.trans (hb4.mono HB3.out.size))
  have HT := hid hT
  obtain ⟨ua, uc, rfl, -⟩ := hT.open
  have HQ : Hid (RunR s g p l er) := hid (by
    rcases hq with ⟨h, -⟩ | ⟨-, h, -⟩
    · rw [HASK.out] at h; cases h
    · exact h)
  clear hq hT hb4
  by_cases h0 : er = 0
  · subst h0
    have HF : Hid (SaidQ s g p l 0) := hid (Or.inr ⟨HASK.out, l, 0, HQ.out, Or.inl ⟨rfl, rfl, rfl⟩⟩)
    go_wp2
    go_ret2
    exact ⟨_, _, _, rfl, HF.out, HT.out, HB4.out⟩
  · have n0 : (er != 0) = true := by simpa using h0
    have HF : Hid (SaidQ s g p [] 11) := hid (Or.inr ⟨HASK.out, l, er, HQ.out, Or.inr ⟨h0, rfl, rfl⟩⟩)
    clear h0
    go_wp2
    go_ret2
    exact ⟨_, _, _, rfl, HF.out, terms_nilK _, HB4.out⟩
end Go.Proofs.YtmpjaakkjhmpmaaGreatDoor
