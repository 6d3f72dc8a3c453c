/-
  WHAT IT HOLDS: contracts of Givens of the reference of layer 6, of ValidGivens, right, run and Says of the reference of layer 4. Conditions: the arguments read as data.
  WHAT IT HOLDS: contracts of Says of the reference of layer 4, of S and K of the reference of layer 8, of isS, isK and saying of package carry. Conditions: the arguments read as data; small signs, small libraries.
  WHAT IT HOLDS: contracts of S of the reference of layer 8, of saying of package carry. Conditions: the arguments read as data; small signs, small libraries.
-/
import Derived.Deep.RegionHeld3
import Derived.Test.YtpflkjldapmgdaaGreatZRCarryChains43
import Derived.Test.YtpflkjldapmgdaaGreatZRCarryChains44
import Derived.Test.YtpflkjldapmgdaaGreatZRCarryChains19
import Derived.Test.YtpflkjldapmgdaaGreatZRCarryChains39
namespace Go.Proofs.YtpflkjldapmgdaaGreat
open Go Go.RowKit Go.Maps
def GivQ (l : List En) (ns : List Nm) (w : World) (e : Ending) (w' : World) : Prop := ∃ u ts z, ((givL l ns = none ∧ ts = [] ∧ z = false) ∨ (givL l ns = some ts ∧ z = true)) ∧ e = .returned (.tuple #[u, .bool z]) ∧ Terms w' u ts ∧ Below w.heap.size w w'
theorem GivQ.mk {l : List En} {ns : List Nm} {w : World} {e : Ending} {w' : World} (u : Value) (ts : List (List Int)) (z : Bool) (h1 : (givL l ns = none ∧ ts = [] ∧ z = false) ∨ (givL l ns = some ts ∧ z = true)) (h2 : e = .returned (.tuple #[u, .bool z])) (h3 : Terms w' u ts) (h4 : Below w.heap.size w w') : GivQ l ns w e w' := ⟨u, ts, z, h1, h2, h3, h4⟩
set_option maxHeartbeats 2000000 in
theorem ref6_Givens (vl vS vU vP : Value) (l : List En) (x : En) (w : World) (hl : EntsAt w vl l) (he : EntAt w vS vU vP x) (hu1 : x.uses.length ≤ 1000) :
    Calls Tryz.prog 79 #[vl, .agg #[.string x.name, .string x.who, vS, vU, vP]] w fun e w' => GivQ l x.uses w e w' := by
  have HLL := hid hl
  obtain ⟨la, lc, rfl, -, ll, -, HC⟩ := hl.open
  obtain ⟨na, nc, rfl, -, -, -, NC⟩ := he.u.open
  have HC' := hid HC
  have NC' := hid NC
  have EB0 := EB.new w x vS (.slice na x.uses.length nc) vP 35
  have hb0 : Below w.heap.size w (w.alloc (.cells #[.string x.name, .string x.who, vS, .slice na x.uses.length nc, vP] 35)) := (Below.refl _ _).alloc (Nat.le_refl _) _
  obtain ⟨X, hX⟩ : ∃ X, w.alloc (.cells #[.string x.name, .string x.who, vS, .slice na x.uses.length nc, vP] 35) = X := ⟨_, rfl⟩
  have hXz : X.heap.size = w.heap.size + 1 := by rw [← hX]; simp
  rw [hX] at EB0 hb0
  have hown0 := World.ownsRow_nil X X.heap.size 28 1
  have HE0 := hid EB0
  have HB0 := hid hb0
  have HX := hid hX
  clear HC NC hl he EB0 hb0 hX
  go_enter Tryz.func79, Tryz.ntmps79
  go_wp2
  rw [HX.out]
  go_loopw [6, 7] (fun u kv wr => ∃ (k : Nat) (vvs : List Value) (ts : List (List Int)), k ≤ x.uses.length ∧ kv = .int .i64 k ∧ wr.ownsRow X.heap.size 28 1 u k vvs ∧ givL l (x.uses.take k) = some ts ∧ (∀ (i : Nat) (v : Value) (z : List Int), vvs[i]? = some v → ts[i]? = some z → Ints w v z) ∧ Below X.heap.size X wr) (fun _ kv _ => x.uses.length - (intOf kv).toNat)
  case atStart => exact ⟨0, [], [], by omega, rfl, hown0, by simp [givL], by simp, Below.refl _ _⟩
  case round =>
    clear hown0
    obtain ⟨k, vvs, ts, hk, rfl, hown, hgiv, hrd, hb⟩ := hrel
    have hsz := hb.size
    have hvl : vvs.length = k := by have := hown.1; simpa using this
    have htl : ts.length = k := by have := givL_len hgiv; rw [List.length_take] at this; omega
    have hbw := HB0.out.trans (hb.mono HB0.out.size)
    have q3 := (HE0.out.below hb).c3
    by_cases hlt : k < x.uses.length
    · obtain ⟨xb, xo, rfl, x0⟩ := NC'.out k hlt
      have x1 := (hbw.cell (World.block_lt_of_cell? _ _ x0)).trans x0
      have hsn := givL_snoc l (x.uses.take k) x.uses[k]
      rw [← List.take_succ_eq_append_getElem hlt, hgiv] at hsn
      have hno := fun h => givL_no (l := l) (List.getElem_mem hlt) h
      obtain ⟨y, hy⟩ : ∃ y, x.uses[k] = y := ⟨_, rfl⟩
      rw [hy] at x1 hsn hno
      have HFI := hid (ref6_Index (.slice la l.length lc) l y wr (HLL.out.below hbw))
      have HOWN := hid hown
      have HRD := hid hrd
      have HB := hid hb
      have HBW := hid hbw
      have HVL := hid hvl
      have HTL := hid htl
      cases hix : idxN l y with
      | none =>
        have HR : Hid (givL l x.uses = none) := hid (hno (saysN_none hix))
        have e1 : idxI l y = -1 := by unfold idxI; rw [hix]
        rw [e1] at HFI
        clear x0 hy hsn hno hix hown hrd hb hbw hvl htl hgiv e1
        go_wp2_with fail
        refine HFI.out.mono ?_
        rintro e w2 ⟨rfl, rfl⟩
        go_wp2
        refine bodyPost_ret (v := .tuple #[.slice none 0 0, .bool false]) ?_ rfl (GivQ.mk _ [] false (Or.inl ⟨HR.out, rfl, rfl⟩) rfl (terms_nilC _) HBW.out)
        simp only [results, Tryz.results79]
        go_simp
      | some j =>
        obtain ⟨hj, hsay⟩ := saysN_some hix
        rw [hsay] at hsn
        have e1 : idxI l y = (j : Int) := by unfold idxI; rw [hix]
        rw [e1] at HFI
        obtain ⟨eb, eo, eS, eu, ep, rfl, -, -, y2, -, -, ye⟩ := HC'.out j hj
        have y2' := (hbw.cell (World.block_lt_of_cell? _ _ y2)).trans y2
        obtain ⟨sa, sc, rfl, -⟩ := ye.s.open
        have hjl : j < l.length := hj
        have HSN : Hid (givL l (x.uses.take (k + 1)) = some (ts ++ [l[j].says])) := hid hsn
        have HYS := hid ye.s
        obtain ⟨t, ht⟩ : ∃ t, l[j].says = t := ⟨_, rfl⟩
        rw [ht] at y2' HSN HYS
        clear x0 hy hsn hno hix hown hrd hb hbw hvl htl hgiv hsay y2 ye ht e1
        go_wp2_with (first
          | (go_at_call 53; refine HFI.out.mono ?_; rintro e w2 ⟨rfl, rfl⟩)
          | (at_builtin; refine wpList_append_row rfl _ _ 56 rfl X.heap.size 28 el_term Tryz.underlying56 rfl (by decide) _ _ _ rfl (HOWN.out.alloc _) _ 1 [.slice sa t.length sc] rfl (row_one_new _ _ _) (oneCell_one rfl) (by omega) (by omega) (by simp; omega) ?_; intro v' w4 hown4 hgrow4 _))
        go_roundw
        case rel =>
          refine ⟨k + 1, _, _, by omega, by go_num, hown4, HSN.out, fun q v z hv hz => ?_, (HB.out.alloc hsz _).grown hgrow4 (by simp; omega) (fun q hq => (HOWN.out.lt q hq).1)⟩
          have e1 := HVL.out
          have e2 := HTL.out
          by_cases hq : q < k
          · rw [List.getElem?_append_left (by omega)] at hv hz
            exact HRD.out q v z hv hz
          · rw [List.getElem?_append_right (by omega)] at hv hz
            have e0 : q - k = 0 := by have := (List.getElem?_eq_some_iff.1 hv).1; simp at this; omega
            rw [e1, e0] at hv
            rw [e2, e0] at hz
            simp at hv hz
            subst hv; subst hz
            exact HYS.out
        case measure => simp [intOf]; omega
    · have hkl : k = x.uses.length := by omega
      subst hkl
      rw [List.take_of_length_le (Nat.le_refl _)] at hgiv
      have HT : Hid (Terms wr u6 ts) := hid ⟨vvs, by unfold Vals; rw [hvl]; exact RowK.of_owns hown (by omega), by omega, fun q v z h1 h2 => (hrd q v z h1 h2).below hbw⟩
      have HG := hid hgiv
      have HBW := hid hbw
      clear hgiv hown hrd hbw
      go_wp2
      refine bodyPost_ret (v := .tuple #[u6, .bool true]) ?_ rfl (GivQ.mk _ ts true (Or.inr ⟨HG.out, rfl⟩) rfl HT.out HBW.out)
      simp only [results, Tryz.results79]
      go_simp
theorem ref4_ValidGivens (v vl : Value) (s : Sg) (l : List (List Int)) (w : World) (hs : SignAt w v s) (hv : Terms w vl l) :
    Calls Tryz.prog 176 #[v, vl] w fun e w' => e = .returned (.bool (givensB s l)) ∧ Below w.heap.size w w' := by
  have HVS := hid (ref1_ValidSign v s w hs)
  have HAV := hid (fun (X : World) (hb : Below w.heap.size w X) => ref1_AllValid v vl s l X (hs.below hb) (hv.below hb))
  obtain ⟨sa, scap, rfl, _⟩ := hs.open
  obtain ⟨la, lcap, rfl, -, ll, -⟩ := hv.open
  have hin : inB (l.length : Int) 0 60 = decide (l.length ≤ 60) := by
    cases h : decide (l.length ≤ 60)
    · have := of_decide_eq_false h
      unfold inB
      simp
      omega
    · have := of_decide_eq_true h
      exact inB_true.2 (by omega)
  have HC := hid (fun (X : World) => ref4_isCount (l.length : Int) X)
  rw [hin] at HC
  unfold givensB
  clear hs hv hin
  cases h2 : signB s
  · rw [h2] at HVS
    go_enter Tryz.func176, Tryz.ntmps176
    go_wp2_with fail
    refine HVS.out.mono ?_
    rintro e w1 ⟨rfl, n1, rfl⟩
    go_wp2
    go_ret
    exact ⟨ret_bool rfl, below_self_drewN _ _⟩
  · rw [h2] at HVS
    cases h3 : decide (l.length ≤ 60)
    · rw [h3] at HC
      go_enter Tryz.func176, Tryz.ntmps176
      go_wp2_with fail
      refine HVS.out.mono ?_
      rintro e w1 ⟨rfl, n1, rfl⟩
      go_wp2_with fail
      refine (HC.out _).mono ?_
      rintro e w2 ⟨rfl, rfl⟩
      go_wp2
      go_ret
      exact ⟨ret_bool rfl, below_self_drewN _ _⟩
    · rw [h3] at HC
      go_enter Tryz.func176, Tryz.ntmps176
      go_wp2_with fail
      refine HVS.out.mono ?_
      rintro e w1 ⟨rfl, n1, rfl⟩
      go_wp2_with fail
      refine (HC.out _).mono ?_
      rintro e w2 ⟨rfl, rfl⟩
      go_wp2_with fail
      refine (HAV.out _ (below_self_drewN _ _)).mono ?_
      rintro e w3 ⟨rfl, n3, rfl⟩
      go_wp2
      go_ret
      exact ⟨ret_bool (by simp), below_self_drewN _ _⟩
theorem ref4_right (v vl vp : Value) (s : Sg) (l : List (List Int)) (p : List St) (w : World) (hs : SignAt w v s) (hv : Terms w vl l) (hp : StepsAt w vp p) :
    Calls Tryz.prog 136 #[v, vl, vp] w fun e w' => e = .returned (.bool (askedB s l p)) ∧ Below w.heap.size w w' := by
  have HVG := hid (ref4_ValidGivens v vl s l w hs hv)
  have HPP := hid hp
  obtain ⟨sa, scap, rfl, _⟩ := hs.open
  obtain ⟨la, lcap, rfl, -, ll, -⟩ := hv.open
  obtain ⟨pa, pcap, rfl, -, pl, -⟩ := hp.open
  clear hs hv hp
  cases h1 : givensB s l
  · have HF : Hid (askedB s l p = false) := hid (by unfold askedB; rw [h1]; rfl)
    rw [h1] at HVG
    go_enter Tryz.func136, Tryz.ntmps136
    go_wp2_with fail
    refine HVG.out.mono ?_
    rintro e w1 ⟨rfl, hb1⟩
    go_wp2
    go_ret
    exact ⟨ret_bool HF.out.symm, hb1⟩
  · have HF : Hid (askedB s l p = proofB l.length p) := hid (by unfold askedB; rw [h1]; rfl)
    have hl60 : l.length ≤ 60 := by
      unfold givensB at h1
      simp only [Bool.and_eq_true, decide_eq_true_eq] at h1
      exact h1.1.2
    rw [h1] at HVG
    go_enter Tryz.func136, Tryz.ntmps136
    go_wp2_with fail
    refine HVG.out.mono ?_
    rintro e w1 ⟨rfl, hb1⟩
    have HVP := hid (ref4_ValidProof (l.length : Int) (.slice pa p.length pcap) p w1 (by omega) (HPP.out.below hb1))
    have HB1 := hid hb1
    clear hb1
    go_wp2_with fail
    refine HVP.out.mono ?_
    rintro e w2 ⟨rfl, hb2⟩
    go_wp2
    go_ret
    exact ⟨ret_bool HF.out.symm, HB1.out.trans (hb2.mono HB1.out.size)⟩
theorem right_step {g k : Int} {x : St} (h : rightB g k x = true) : (x.1 = 1 ∧ 0 ≤ x.2.1 ∧ x.2.1 < g) ∨ (x.1 = 2 ∧ 0 ≤ x.2.1 ∧ x.2.1 < k ∧ 0 ≤ x.2.2 ∧ x.2.2 < k) := by
  unfold rightB at h
  split at h
  · rename_i h1
    simp only [Bool.and_eq_true] at h
    have := inB_true.1 h.1
    exact Or.inl ⟨h1, by omega, by omega⟩
  · split at h
    · rename_i h1 h2
      simp only [Bool.and_eq_true] at h
      have := inB_true.1 h.1
      have := inB_true.1 h.2
      exact Or.inr ⟨h2, by omega, by omega, by omega, by omega⟩
    · cases h
theorem say_snoc {s : Sg} {g : List (List Int)} {p : List St} {ts : List (List Int)} {st : St} {t : List Int} (h : ∀ i t, ts[i]? = some t → ∃ st, p[i]? = some st ∧ sayR s g (ts.take i) st (t, 0)) (hp : p[ts.length]? = some st) (hs : sayR s g ts st (t, 0)) :
    ∀ i u, (ts ++ [t])[i]? = some u → ∃ st, p[i]? = some st ∧ sayR s g ((ts ++ [t]).take i) st (u, 0) := by
  intro i u hi
  by_cases hlt : i < ts.length
  · rw [List.getElem?_append_left hlt] at hi
    obtain ⟨st', h1, h2⟩ := h i u hi
    exact ⟨st', h1, by rw [List.take_append_of_le_length (by omega)]; exact h2⟩
  · have e : i = ts.length := by have := (List.getElem?_eq_some_iff.1 hi).1; simp at this; omega
    subst e
    simp at hi
    subst hi
    exact ⟨st, hp, by rw [List.take_left]; exact hs⟩
set_option maxHeartbeats 4000000 in
set_option maxRecDepth 100000 in
theorem ref4_run (vs vg vp : Value) (s : Sg) (g : List (List Int)) (p : List St) (w : World) (hask : askedB s g p = true) (hs : SignAt w vs s) (hg : Terms w vg g) (hp : StepsAt w vp p) :
    Calls Tryz.prog 137 #[vs, vg, vp] w fun e w' => ∃ u l er, RunR s g p l er ∧ e = .returned (.tuple #[u, .int .i64 er]) ∧ Terms w' u l ∧ Below w.heap.size w w' := by
  obtain ⟨hgv, hpv⟩ := asked_parts hask
  have hp60 := proof60 hpv
  have HST := hid (fun (k : Nat) (hk : k < p.length) => right_step (proofB_at hpv hk))
  have HGV : Hid (∀ (k : Nat) (hk : k < g.length), termB s g[k] = true) := hid (fun k hk => by
    unfold givensB at hgv
    simp only [Bool.and_eq_true] at hgv
    exact List.all_eq_true.1 hgv.2 _ (List.getElem_mem hk))
  have HSG := hid hs
  obtain ⟨sa, sc, rfl, -⟩ := hs.open
  obtain ⟨ga, gc, rfl, -, gl, -, GC⟩ := hg.open
  obtain ⟨pa, pc, rfl, -, pl, -, PC⟩ := hp.open
  have GC' := hid GC
  have PC' := hid PC
  have h00 := hid (TeS.nil w w.heap.size)
  clear GC PC hs hg hp hask hgv hpv
  go_enter Tryz.func137, Tryz.ntmps137
  go_wp2
  go_loopw [8, 9] (fun u kv wr => ∃ (k : Nat) (vvs : List Value) (ts : List (List Int)), k ≤ p.length ∧ kv = .int .i64 k ∧ TeS wr w.heap.size u vvs ts ∧ ts.length = k ∧ (∀ i t, ts[i]? = some t → ∃ st, p[i]? = some st ∧ sayR s g (ts.take i) st (t, 0)) ∧ (∀ (i : Nat) (h : i < ts.length), termB s ts[i] = true) ∧ Below w.heap.size w wr) (fun _ kv _ => p.length - (intOf kv).toNat)
  case atStart => exact ⟨0, [], [], by omega, rfl, h00.out, rfl, by simp, by simp, Below.refl _ _⟩
  case round =>
    clear h00
    obtain ⟨k, vvs, ts, hk, rfl, hE, htl, hsay, hok, hb⟩ := hrel
    have hsz := hb.size
    by_cases hlt : k < p.length
    · obtain ⟨pb, po, rfl, p0, p1, p2⟩ := PC'.out k hlt
      have p0' := (hb.cell (World.block_lt_of_cell? _ _ p0)).trans p0
      have p1' := (hb.cell (World.block_lt_of_cell? _ _ p1)).trans p1
      have p2' := (hb.cell (World.block_lt_of_cell? _ _ p2)).trans p2
      have hst := HST.out k hlt
      have hpk : p[ts.length]? = some p[k] := by rw [htl]; exact List.getElem?_eq_getElem hlt
      obtain ⟨st, hst'⟩ : ∃ st, p[k] = st := ⟨_, rfl⟩
      rw [hst'] at p0' p1' p2' hst hpk
      obtain ⟨s1, s2, s3⟩ := st
      have HPK := hid hpk
      have HSAY := hid hsay
      have HOK := hid hok
      clear p0 p1 p2 hst' hpk hsay hok
      dsimp only at p0' p1' p2' hst
      rcases hst with ⟨rfl, h1, h2⟩ | ⟨rfl, h1, h2, h3, h4⟩
      · obtain ⟨n, rfl⟩ : ∃ n : Nat, s2 = n := ⟨s2.toNat, by omega⟩
        have hng : n < g.length := by omega
        obtain ⟨gb, go, ug, rfl, g0, gI⟩ := GC'.out n hng
        have g0' := (hb.cell (World.block_lt_of_cell? _ _ g0)).trans g0
        have gI' := gI.below hb
        have htv := HGV.out n hng
        have hgd : g.getD n [] = g[n] := by rw [List.getD_eq_getElem?_getD, List.getElem?_eq_getElem hng]; rfl
        obtain ⟨x, hx⟩ : ∃ x, g[n] = x := ⟨_, rfl⟩
        rw [hx] at gI' htv hgd
        have f4 := (termB_facts htv).2.2.2
        have HREN := hid (ref1_Renamed ug x wr gI' (termB_T htv).ne (by omega) (termB_wf htv))
        have HSAY2 := hid (say_snoc (t := canonL x) HSAY.out HPK.out (by unfold sayR; rw [if_pos rfl]; show (canonL x, (0 : Int)) = (canonL (g.getD (n : Int).toNat []), 0); rw [Int.toNat_natCast, hgd]))
        have HCV := hid (canon_termK htv)
        have HCL := hid (canonL_len x)
        obtain ⟨z, hz⟩ : ∃ z, canonL x = z := ⟨_, rfl⟩
        rw [hz] at HREN HSAY2 HCV HCL
        have hz60 : z.length ≤ 60 := by rw [HCL.out]; exact f4
        obtain ⟨xa, xc, rfl, -⟩ := gI'.open
        have HE := hid hE
        have HB := hid hb
        have HTL := hid htl
        clear g0 gI gI' hx hgd hE hb htv hz
        go_wp2_with fail
        refine HREN.out.mono ?_
        rintro e w3 ⟨v3, rfl, o3, hb3⟩
        obtain ⟨a3, c3, rfl⟩ := owns_slice o3
        have HE3 := hid (HE.out.below hb3)
        have HO3 := hid o3
        have HU := hid HE.out.top.lt
        have HB3 := hid (HB.out.trans (hb3.mono hsz))
        have hwz := HB3.out.size
        have HS3 := hid hb3.size
        have hown2 := HE3.out.top
        rw [htl] at hown2
        have hownA := hown2.alloc (.cells #[.slice a3 z.length c3] 28)
        clear o3 hb3 hown2
        go_wp2_with (at_builtin; refine wpList_append_lie rfl _ _ 56 rfl w.heap.size 28 el_term Tryz.underlying56 rfl (by decide) u8 k vvs rfl hownA _ 1 [.slice a3 z.length c3] rfl (row_one_new _ _ _) (oneCell_one rfl) (by omega) (by omega) (by omega) (by simp; omega) _ rfl ?_; intro g4 cap w4 hown4 hgrow4 hat4 hlt4)
        go_roundw
        case rel =>
          refine ⟨k + 1, vvs ++ [.slice a3 z.length c3], ts ++ [z], by omega, by go_num, ?_, by simp [HTL.out], HSAY2.out, ?_, (HB3.out.alloc hwz _).grown hgrow4 (by simp; have := hwz; omega) (fun q hq => (HU.out q hq).1)⟩
          · exact HE3.out.push (w1 := w3.alloc _) ((Below.refl _ _).alloc (Nat.le_refl _) _) (fun W' hW' => ints_own HO3.out (by omega) fun q h1 h2 => (hW' q (by simp; omega) (fun e => by
              have := (HU.out q e.symm).2
              omega)).trans (Below.heap_alloc _ _ _ h2)) HTL.out.symm hown4 hgrow4 rfl hat4
          · intro i hi
            by_cases hlt' : i < ts.length
            · rw [List.getElem_append_left hlt']; exact HOK.out i hlt'
            · rw [List.getElem_append_right (by omega)]; simpa using HCV.out
        case measure => simp [intOf]; omega
      · obtain ⟨n, rfl⟩ : ∃ n : Nat, s2 = n := ⟨s2.toNat, by omega⟩
        obtain ⟨m, rfl⟩ : ∃ m : Nat, s3 = m := ⟨s3.toNat, by omega⟩
        have hn : n < ts.length := by omega
        have hm : m < ts.length := by omega
        have hT := hE.terms (by omega)
        obtain ⟨oa, oc, rfl, ocap, -, -, OC⟩ := hT.open
        obtain ⟨ob, oo, un, rfl, k0, i0⟩ := OC n hn
        obtain ⟨ob', oo', um, he', k1, i1⟩ := OC m hm
        obtain ⟨rfl, rfl⟩ : ob = ob' ∧ oo = oo' := by simpa using he'
        have v0 := HOK.out n hn
        have v1 := HOK.out m hm
        have hgn : ts.getD n [] = ts[n] := by rw [List.getD_eq_getElem?_getD, List.getElem?_eq_getElem hn]; rfl
        have hgm : ts.getD m [] = ts[m] := by rw [List.getD_eq_getElem?_getD, List.getElem?_eq_getElem hm]; rfl
        obtain ⟨x, hx⟩ : ∃ x, ts[n] = x := ⟨_, rfl⟩
        obtain ⟨y, hy⟩ : ∃ y, ts[m] = y := ⟨_, rfl⟩
        rw [hx] at i0 v0 hgn
        rw [hy] at i1 v1 hgm
        have HDE := hid (fun (j : Nat) => ref4_detach (.slice sa s.length sc) un um s x y (wr.drewN j) v0 v1 ((HSG.out.below hb).drewN j) (i0.drewN j) (i1.drewN j))
        have HSR := hid (fun (t : List Int) (er : Int) (h : DetR s x y (t, er)) => (show sayR s g ts (2, (n : Int), (m : Int)) (t, er) from by unfold sayR; rw [if_neg (by simp)]; show DetR s (ts.getD (n : Int).toNat []) (ts.getD (m : Int).toNat []) (t, er); rw [Int.toNat_natCast, Int.toNat_natCast, hgn, hgm]; exact h))
        obtain ⟨na, nc, rfl, -⟩ := i0.open
        obtain ⟨ma, mc, rfl, -⟩ := i1.open
        rw [htl] at ocap hE hT ⊢
        have HE := hid hE
        have HB := hid hb
        have HTL := hid htl
        have HT := hid hT
        have hRlt : po + k * 3 < po + k * 3 + 1 := by omega
        clear OC he' hT hE hb i0 i1 v0 v1 hx hy hgn hgm hRlt
        go_wp2
        go_region_held3 (fun w' => w'.cell? ⟨ob, oo + n, none⟩ = some (.slice na x.length nc) ∧ w'.cell? ⟨ob, oo + m, none⟩ = some (.slice ma y.length mc) ∧ w'.cell? ⟨pb, po + k * 3 + 1, none⟩ = some (.int .i64 n) ∧ w'.cell? ⟨pb, po + k * 3 + 2, none⟩ = some (.int .i64 m)) (first | exact ⟨by assumption, by assumption, by assumption, by assumption⟩ | go_keep) (first
          | (go_at_call 114; refine (HDE.out _).mono ?_; rintro e w4 ⟨yy, u, hyy, rfl, hown, hb4'⟩; have hb4 : Below wr.heap.size wr w4 := (below_self_drewN wr _).trans hb4'; have e0 := (hb4.cell (World.block_lt_of_cell? _ _ k0)).trans k0; have e1 := (hb4.cell (World.block_lt_of_cell? _ _ k1)).trans k1; have e2 := (hb4.cell (World.block_lt_of_cell? _ _ p1')).trans p1'; have e3 := (hb4.cell (World.block_lt_of_cell? _ _ p2')).trans p2'))
        have HO4 : Hid (w4.ownsRow wr.heap.size 3 1 u yy.1.length (yy.1.map (Value.int .i64))) := hid hown
        have HB4 := hid (HB.out.trans (hb4.mono hsz))
        have HS4 := hid hb4.size
        have HE4 := hid (HE.out.below hb4)
        have HL60 := hid (det_len hyy)
        obtain ⟨y1, y2⟩ := yy
        have HU := hid HE.out.top.lt
        by_cases hy0 : y2 = 0
        · subst hy0
          obtain ⟨a4, c4, rfl⟩ := owns_slice hown
          have HDT := hid (det_term hyy).1
          have HSAY2 := hid (say_snoc HSAY.out HPK.out (HSR.out _ _ hyy))
          have hwz := HB4.out.size
          have hown2 := HE4.out.top
          rw [htl] at hown2
          have hownA := hown2.alloc (.cells #[.slice a4 y1.length c4] 28)
          clear hown hown2 hb4 hb4' e0 e1 e2 e3 k0 k1 hyy HDE HSR
          go_wp2_with (at_builtin; refine wpList_append_lie rfl _ _ 56 rfl w.heap.size 28 el_term Tryz.underlying56 rfl (by decide) _ k vvs rfl hownA _ 1 [.slice a4 y1.length c4] rfl (row_one_new _ _ _) (oneCell_one rfl) (by omega) (by omega) (by omega) (by simp; omega) _ rfl ?_; intro g4 cap w5 hown4 hgrow4 hat4 hlt4)
          go_roundw
          case rel =>
            refine ⟨k + 1, vvs ++ [.slice a4 y1.length c4], ts ++ [y1], by omega, by go_num, ?_, by simp [HTL.out], HSAY2.out, ?_, (HB4.out.alloc hwz _).grown hgrow4 (by simp; have := hwz; omega) (fun q hq => (HU.out q hq).1)⟩
            · exact HE4.out.push (w1 := w4.alloc _) ((Below.refl _ _).alloc (Nat.le_refl _) _) (fun W' hW' => ints_own HO4.out (by have := HL60.out; dsimp only at this ⊢; omega) fun q h1 h2 => (hW' q (by simp; omega) (fun e => by
                have := (HU.out q e.symm).2
                omega)).trans (Below.heap_alloc _ _ _ h2)) HTL.out.symm hown4 hgrow4 rfl hat4
            · intro i hi
              by_cases hlt' : i < ts.length
              · rw [List.getElem_append_left hlt']; exact HOK.out i hlt'
              · rw [List.getElem_append_right (by omega)]; simpa using HDT.out
          case measure => simp [intOf]; omega
        · have n0 : (y2 != 0) = true := by simpa using hy0
          have HRR : Hid (RunR s g p ts y2) := hid ⟨HSAY.out, Or.inr ⟨hy0, by omega, _, y1, HPK.out, HSR.out _ _ hyy⟩⟩
          have HT4 := hid (HT.out.below hb4)
          clear hown hb4 hb4' e0 e1 e2 e3 k0 k1 hyy HDE HSR hy0
          go_wp2
          go_ret2
          exact ⟨_, ts, y2, HRR.out, rfl, HT4.out, HB4.out⟩
    · have hkl : k = p.length := by omega
      subst hkl
      have HR : Hid (RunR s g p ts 0) := hid ⟨hsay, Or.inl ⟨rfl, htl⟩⟩
      have HT := hid (hE.terms (by omega))
      clear hsay hok hE
      go_wp2
      go_ret2
      exact ⟨_, ts, 0, HR.out, rfl, HT.out, hb⟩
end Go.Proofs.YtpflkjldapmgdaaGreat
namespace Go.Proofs.YtpflkjldapmgdaaGreat
open Go Go.RowKit Go.Maps
set_option maxHeartbeats 1000000 in
theorem ref4_Says (vs vg vp : Value) (s : Sg) (g : List (List Int)) (p : List St) (w : World) (hs : SignAt w vs s) (hg : Terms w vg g) (hp : StepsAt w vp p) :
    Calls Tryz.prog 80 #[vs, vg, vp] w fun e w' => ∃ x u, SayP s g p x ∧ e = .returned (.tuple #[u, .int .i64 x.2]) ∧ Ints w' u x.1 ∧ Below w.heap.size w w' := by
  have HR := hid (ref4_right vs vg vp s g p w hs hg hp)
  cases ha : askedB s g p
  · have HX : Hid (SayP s g p ([], 1)) := hid (Or.inl ⟨ha, rfl⟩)
    rw [ha] at HR
    clear ha hs hg hp
    go_enter Tryz.func80, Tryz.ntmps80
    go_wp2_with fail
    refine HR.out.mono ?_
    rintro e w1 ⟨rfl, hb⟩
    go_wp2
    go_ret2
    exact ⟨([], 1), _, HX.out, rfl, Ints.nil _, hb⟩
  have HRN := hid (fun (X : World) (hb : Below w.heap.size w X) => ref4_run vs vg vp s g p X ha (hs.below hb) (hg.below hb) (hp.below hb))
  have HA := hid ha
  rw [ha] at HR
  clear ha hs hg hp
  go_enter Tryz.func80, Tryz.ntmps80
  go_wp2_with fail
  refine HR.out.mono ?_
  rintro e w1 ⟨rfl, hb1⟩
  have HR1 := hid (HRN.out w1 hb1)
  go_wp2_with fail
  refine HR1.out.mono ?_
  rintro e w2 ⟨u, l, er, hr, rfl, hT, hb2⟩
  have HB := hid (hb1.trans (hb2.mono hb1.size))
  clear hb1 hb2 HR1 HRN HR
  by_cases h0 : er = 0
  · subst h0
    have hlen : 1 ≤ l.length := by
      have h1 := proof1 (asked_parts HA.out).2
      rcases hr.2 with ⟨-, h⟩ | ⟨h, -⟩
      · omega
      · exact absurd rfl h
    obtain ⟨a, cap, rfl, hc, hl, -, HC⟩ := hT.open
    obtain ⟨b, o, u, rfl, c, hi⟩ := HC (l.length - 1) (by omega)
    have HX : Hid (SayP s g p (l[l.length - 1], 0)) := hid (Or.inr ⟨HA.out, l, hr, Or.inl ⟨rfl, by rw [List.getLast?_eq_getElem?, List.getElem?_eq_getElem (by omega)]⟩⟩)
    have HI := hid hi
    obtain ⟨x, hx⟩ : ∃ x, l[l.length - 1] = x := ⟨_, rfl⟩
    rw [hx] at HX HI
    obtain ⟨q, hq⟩ : ∃ q : Nat, l.length = q + 1 := ⟨l.length - 1, by omega⟩
    rw [hq] at hc hl c ⊢
    simp only [Nat.add_sub_cancel] at c
    have hw : IntKind.i64.wrap (((q + 1 : Nat) : Int) - 1) = q := by rw [IntWalk.i64_in _ (by omega)]; omega
    clear hi hx HC hT hr hq hlen
    go_wp2
    go_ret2
    exact ⟨(x, 0), _, HX.out, rfl, HI.out, HB.out⟩
  · have n0 : (er != 0) = true := by simpa using h0
    have HX : Hid (SayP s g p ([], er)) := hid (Or.inr ⟨HA.out, l, hr, Or.inr ⟨h0, rfl⟩⟩)
    clear hr hT h0
    go_wp2
    go_ret2
    exact ⟨([], er), _, HX.out, rfl, Ints.nil _, HB.out⟩
def sL : List Int := [0, 0, -1, 0, -2, -3, 0, 0, -1, -2, 0, -1, -3]
def kL : List Int := [0, -1, 0, -2, -1]
theorem carry_isS (w : World) :
    Calls Tryz.prog 67 #[] w fun e w' => ∃ u, e = .returned u ∧ Ints w' u sL ∧ Below w.heap.size w w' := by
  have q := intsL w sL 3
  have HB : Hid (Below w.heap.size w (w.alloc _)) := hid ((Below.refl _ _).alloc (Nat.le_refl _) (.cells #[.int .i64 0, .int .i64 0, .int .i64 (-1), .int .i64 0, .int .i64 (-2), .int .i64 (-3), .int .i64 0, .int .i64 0, .int .i64 (-1), .int .i64 (-2), .int .i64 0, .int .i64 (-1), .int .i64 (-3)] 3))
  have Q := hid q
  clear q
  go_enter Tryz.func67, Tryz.ntmps67
  go_wp2
  go_ret
  exact ⟨_, rfl, Q.out, HB.out⟩
theorem carry_isK (w : World) :
    Calls Tryz.prog 68 #[] w fun e w' => ∃ u, e = .returned u ∧ Ints w' u kL ∧ Below w.heap.size w w' := by
  have q := intsL w kL 3
  have HB : Hid (Below w.heap.size w (w.alloc _)) := hid ((Below.refl _ _).alloc (Nat.le_refl _) (.cells #[.int .i64 0, .int .i64 (-1), .int .i64 0, .int .i64 (-2), .int .i64 (-1)] 3))
  have Q := hid q
  clear q
  go_enter Tryz.func68, Tryz.ntmps68
  go_wp2
  go_ret
  exact ⟨_, rfl, Q.out, HB.out⟩
/-- 'implies' of lists that lie. -/
theorem imp_next (va vb : Value) (a b : List Int) (w0 w : World) (hb : Below w0.heap.size w0 w) (ra : Ints w va a) (rb : Ints w vb b) (la : a.length ≤ 100) (lb : b.length ≤ 100) :
    Calls Tryz.prog 87 #[va, vb] w fun e w' => ∃ u, e = .returned u ∧ Ints w' u (0 :: (a ++ b)) ∧ Below w.heap.size w w' ∧ Below w0.heap.size w0 w' := by
  refine (ref8_implies va vb a b w ra rb (by omega) (by omega)).mono ?_
  rintro e w' ⟨u, rfl, hown, hb'⟩
  exact ⟨u, rfl, Ints.of_owns hown (by simp; omega), hb', hb.trans (hb'.mono hb.size)⟩
set_option maxHeartbeats 1000000 in
theorem ref8_K (w : World) :
    Calls Tryz.prog 76 #[] w fun e w' => ∃ u, e = .returned u ∧ Ints w' u kL ∧ Below w.heap.size w w' := by
  have b1 : Below w.heap.size w (w.alloc (.cells #[.int .i64 (-1)] 3)) := (Below.refl _ _).alloc (Nat.le_refl _) _
  have q1 := intsL w [-1] 3
  obtain ⟨W1, e1⟩ : ∃ W, w.alloc (.cells #[.int .i64 (-1)] 3) = W := ⟨_, rfl⟩
  have z1 : W1.heap.size = w.heap.size + 1 := by rw [← e1]; simp
  have b2 : Below W1.heap.size W1 (W1.alloc (.cells #[.int .i64 (-2)] 3)) := (Below.refl _ _).alloc (Nat.le_refl _) _
  have q2 := intsL W1 [-2] 3
  obtain ⟨W2, e2⟩ : ∃ W, W1.alloc (.cells #[.int .i64 (-2)] 3) = W := ⟨_, rfl⟩
  have z2 : W2.heap.size = w.heap.size + 1 + 1 := by rw [← e2]; simp [z1]
  have b3 : Below W2.heap.size W2 (W2.alloc (.cells #[.int .i64 (-1)] 3)) := (Below.refl _ _).alloc (Nat.le_refl _) _
  have q3 := intsL W2 [-1] 3
  obtain ⟨W3, e3⟩ : ∃ W, W2.alloc (.cells #[.int .i64 (-1)] 3) = W := ⟨_, rfl⟩
  rw [show (([-1] : List Int).map (Value.int .i64)).toArray = #[.int .i64 (-1)] from rfl, e1] at q1
  rw [e1] at b1
  rw [show (([-2] : List Int).map (Value.int .i64)).toArray = #[.int .i64 (-2)] from rfl, e2, z1] at q2
  rw [e2] at b2
  rw [show (([-1] : List Int).map (Value.int .i64)).toArray = #[.int .i64 (-1)] from rfl, e3, z2] at q3
  rw [e3] at b3
  have b23 := b2.trans (b3.mono b2.size)
  have B3 := hid (b1.trans (b23.mono b1.size))
  have Q1 := hid (q1.below b23)
  have H4 := hid (imp_next _ _ _ _ w W3 B3.out (q2.below b3) q3 (by decide) (by decide))
  have E1 := hid e1
  have E2 := hid e2
  have E3 := hid e3
  have Z1 := hid z1
  clear e1 e2 e3 q1 q2 q3 b1 b2 b3 b23 z1 z2
  go_enter Tryz.func76, Tryz.ntmps76
  go_wp2_with fail
  rw [E1.out, E2.out, E3.out]
  refine H4.out.mono ?_
  rintro e w4 ⟨u4, rfl, i4, b4, b4'⟩
  have H5 := hid (imp_next _ _ _ _ w w4 b4' (Q1.out.below b4) i4 (by decide) (by decide))
  obtain ⟨a4, c4, rfl, -⟩ := i4.open
  go_wp2_with fail
  refine H5.out.mono ?_
  rintro e w5 ⟨u5, rfl, i5, b5, b5'⟩
  go_wp2
  go_ret
  exact ⟨_, rfl, i5, b5'⟩
end Go.Proofs.YtpflkjldapmgdaaGreat
namespace Go.Proofs.YtpflkjldapmgdaaGreat
open Go Go.RowKit Go.Maps
set_option maxHeartbeats 2000000 in
theorem ref8_S (w : World) :
    Calls Tryz.prog 75 #[] w fun e w' => ∃ u, e = .returned u ∧ Ints w' u sL ∧ Below w.heap.size w w' := by
  have b1 : Below w.heap.size w (w.alloc (.cells #[.int .i64 (-1)] 3)) := (Below.refl _ _).alloc (Nat.le_refl _) _
  have q1 := intsL w [-1] 3
  obtain ⟨W1, e1⟩ : ∃ W, w.alloc (.cells #[.int .i64 (-1)] 3) = W := ⟨_, rfl⟩
  have z1 : W1.heap.size = w.heap.size + 1 := by rw [← e1]; simp
  have b2 : Below W1.heap.size W1 (W1.alloc (.cells #[.int .i64 (-2)] 3)) := (Below.refl _ _).alloc (Nat.le_refl _) _
  have q2 := intsL W1 [-2] 3
  obtain ⟨W2, e2⟩ : ∃ W, W1.alloc (.cells #[.int .i64 (-2)] 3) = W := ⟨_, rfl⟩
  have z2 : W2.heap.size = w.heap.size + 1 + 1 := by rw [← e2]; simp [z1]
  have b3 : Below W2.heap.size W2 (W2.alloc (.cells #[.int .i64 (-3)] 3)) := (Below.refl _ _).alloc (Nat.le_refl _) _
  have q3 := intsL W2 [-3] 3
  obtain ⟨W3, e3⟩ : ∃ W, W2.alloc (.cells #[.int .i64 (-3)] 3) = W := ⟨_, rfl⟩
  rw [show (([-1] : List Int).map (Value.int .i64)).toArray = #[.int .i64 (-1)] from rfl, e1] at q1
  rw [e1] at b1
  rw [show (([-2] : List Int).map (Value.int .i64)).toArray = #[.int .i64 (-2)] from rfl, e2, z1] at q2
  rw [e2] at b2
  rw [show (([-3] : List Int).map (Value.int .i64)).toArray = #[.int .i64 (-3)] from rfl, e3, z2] at q3
  rw [e3] at b3
  have b23 := b2.trans (b3.mono b2.size)
  have B3 := hid (b1.trans (b23.mono b1.size))
  have Q1 := hid (q1.below b23)
  have Q2 := hid (q2.below b3)
  have Q3 := hid q3
  have H4 := hid (imp_next _ _ _ _ w W3 B3.out Q2.out Q3.out (by decide) (by decide))
  have E1 := hid e1
  have E2 := hid e2
  have E3 := hid e3
  clear e1 e2 e3 q1 q2 q3 b1 b2 b3 b23 z1 z2
  go_enter Tryz.func75, Tryz.ntmps75
  go_wp2_with fail
  rw [E1.out, E2.out, E3.out]
  refine H4.out.mono ?_
  rintro e w4 ⟨u4, rfl, i4, b4, b4'⟩
  have H5 := hid (imp_next _ _ _ _ w w4 b4' (Q1.out.below b4) i4 (by decide) (by decide))
  have B4 := hid b4
  obtain ⟨a4, c4, rfl, -⟩ := i4.open
  clear b4 b4'
  go_wp2_with fail
  refine H5.out.mono ?_
  rintro e w5 ⟨u5, rfl, i5, b5, b5'⟩
  have B35 := hid (B4.out.trans (b5.mono B4.out.size))
  have H6 := hid (imp_next _ _ _ _ w w5 b5' (Q1.out.below B35.out) (Q2.out.below B35.out) (by decide) (by decide))
  have I5 := hid i5
  obtain ⟨a5, c5, rfl, -⟩ := i5.open
  clear b5 b5' i5
  go_wp2_with fail
  refine H6.out.mono ?_
  rintro e w6 ⟨u6, rfl, i6, b6, b6'⟩
  have B36 := hid (B35.out.trans (b6.mono B35.out.size))
  have H7 := hid (imp_next _ _ _ _ w w6 b6' (Q1.out.below B36.out) (Q3.out.below B36.out) (by decide) (by decide))
  have I6 := hid i6
  have B6 := hid b6
  obtain ⟨a6, c6, rfl, -⟩ := i6.open
  clear b6 b6' i6
  go_wp2_with fail
  refine H7.out.mono ?_
  rintro e w7 ⟨u7, rfl, i7, b7, b7'⟩
  have H8 := hid (imp_next _ _ _ _ w w7 b7' (I6.out.below b7) i7 (by decide) (by decide))
  have B57 := hid (B6.out.trans (b7.mono B6.out.size))
  obtain ⟨a7, c7, rfl, -⟩ := i7.open
  clear b7 b7'
  go_wp2_with fail
  refine H8.out.mono ?_
  rintro e w8 ⟨u8, rfl, i8, b8, b8'⟩
  have H9 := hid (imp_next _ _ _ _ w w8 b8' (I5.out.below (B57.out.trans (b8.mono B57.out.size))) i8 (by decide) (by decide))
  obtain ⟨a8, c8, rfl, -⟩ := i8.open
  clear b8 b8'
  go_wp2_with fail
  refine H9.out.mono ?_
  rintro e w9 ⟨u9, rfl, i9, b9, b9'⟩
  go_wp2
  go_ret
  exact ⟨_, rfl, i9, b9'⟩
/-- the index of the first entry that says a statement alike another one. -/
def sayI (s : Sg) (l : List En) (t : List Int) : Int := firstI l.length fun i => alikeB s ((l.map En.says).getD i []) t
/-- its name. -/
def sayN (s : Sg) (l : List En) (t : List Int) : Nm := if sayI s l t < 0 then ⟨#[]⟩ else (l.getD (sayI s l t).toNat en0).name
theorem carry_saying1 (ps pt : Nat) (vs vt vS vU vP : Value) (s : Sg) (t : List Int) (x : En) (w : World) (hps : w.cell? ⟨ps, 0, none⟩ = some vs) (hpt : w.cell? ⟨pt, 0, none⟩ = some vt) (hs : SignAt w vs s) (ht : Ints w vt t) (hx : EntAt w vS vU vP x) (hs1 : s.length ≤ 1000) :
    Calls Tryz.prog 129 #[.agg #[.string x.name, .string x.who, vS, vU, vP], .pointer (some ⟨ps, 0, none⟩), .pointer (some ⟨pt, 0, none⟩)] w fun e w' => e = .returned (.bool (alikeB s x.says t)) ∧ Below w.heap.size w w' := by
  have hb0 : Below w.heap.size w (w.alloc (.cells #[.string x.name, .string x.who, vS, vU, vP] 35)) := (Below.refl _ _).alloc (Nat.le_refl _) _
  have HAL := hid (term_Alike vs vS vt s x.says t _ (hs.below hb0) (hx.s.below hb0) (ht.below hb0) hs1)
  have HB0 := hid hb0
  have k1 := World.block_lt_of_cell? _ _ hps
  have k2 := World.block_lt_of_cell? _ _ hpt
  obtain ⟨sa, sc, rfl, -⟩ := hs.open
  obtain ⟨ta, tc, rfl, -⟩ := ht.open
  obtain ⟨xa, xc, rfl, -⟩ := hx.s.open
  clear hs ht hx hb0
  go_enter Tryz.func129, Tryz.ntmps129
  go_wp2_with fail
  refine HAL.out.mono ?_
  rintro e w1 ⟨rfl, hb1⟩
  go_wp2
  go_ret
  exact ⟨rfl, HB0.out.trans (hb1.mono HB0.out.size)⟩
set_option maxHeartbeats 1000000 in
theorem carry_saying (vs vl vt : Value) (s : Sg) (l : List En) (t : List Int) (w : World) (hs : SignAt w vs s) (hl : EntsAt w vl l) (ht : Ints w vt t) (hs1 : s.length ≤ 1000) :
    Calls Tryz.prog 66 #[vs, vl, vt] w fun e w' => e = .returned (.string (sayN s l t)) ∧ Below w.heap.size w w' := by
  have HLL := hid hl
  obtain ⟨sa, sc, rfl, -⟩ := hs.open
  obtain ⟨ta, tc, rfl, -⟩ := ht.open
  obtain ⟨la, lc, rfl, lcap, ll, -, HC⟩ := hl.open
  have HC' := hid HC
  have b1 : Below w.heap.size w (w.alloc (.cells #[.slice sa s.length sc] 23)) := (Below.refl _ _).alloc (Nat.le_refl _) _
  obtain ⟨W1, e1⟩ : ∃ W, w.alloc (.cells #[.slice sa s.length sc] 23) = W := ⟨_, rfl⟩
  have z1 : W1.heap.size = w.heap.size + 1 := by rw [← e1]; simp
  have c1 : W1.cell? ⟨w.heap.size, 0, none⟩ = some (.slice sa s.length sc) := by rw [← e1]; exact cell_new1 w _ _
  rw [e1] at b1
  have b2 : Below W1.heap.size W1 (W1.alloc (.cells #[.slice ta t.length tc] 28)) := (Below.refl _ _).alloc (Nat.le_refl _) _
  have c2 := cell_new1 W1 (.slice ta t.length tc) 28
  obtain ⟨W2, e2⟩ : ∃ W, W1.alloc (.cells #[.slice ta t.length tc] 28) = W := ⟨_, rfl⟩
  rw [e2] at b2 c2
  rw [z1] at c2
  have c1' := (b2.cell (World.block_lt_of_cell? _ _ c1)).trans c1
  have bw2 := b1.trans (b2.mono b1.size)
  have HIF := hid (sl_IndexFunc_ents 129 #[.pointer (some ⟨w.heap.size, 0, none⟩), .pointer (some ⟨w.heap.size + 1, 0, none⟩)] (enters_of Tryz.func129 (by kernel_rfl) rfl) (.slice la l.length lc) l W2 (hl.below bw2) (fun i => alikeB s ((l.map En.says).getD i []) t) (by
    intro i hi vS vU vP X hX hE
    have e1 : (l.map En.says).getD i [] = l[i].says := by simp [List.getD, hi]
    simp only [e1]
    have hbx := bw2.trans (hX.mono bw2.size)
    exact carry_saying1 w.heap.size (w.heap.size + 1) _ _ vS vU vP s t l[i] X ((hX.cell (World.block_lt_of_cell? _ _ c1')).trans c1') ((hX.cell (World.block_lt_of_cell? _ _ c2)).trans c2) (hs.below hbx) (ht.below hbx) hE hs1))
  have HB2 := hid bw2
  have E1 := hid e1
  have E2 := hid e2
  have hbnd := firstI_bound l.length (fun i => alikeB s ((l.map En.says).getD i []) t)
  have HSN : Hid (sayN s l t = if firstI l.length (fun i => alikeB s ((l.map En.says).getD i []) t) < 0 then ⟨#[]⟩ else (l.getD (firstI l.length (fun i => alikeB s ((l.map En.says).getD i []) t)).toNat en0).name) := hid rfl
  obtain ⟨I, hI⟩ : ∃ I, firstI l.length (fun i => alikeB s ((l.map En.says).getD i []) t) = I := ⟨_, rfl⟩
  rw [hI] at HIF hbnd HSN
  clear hs hl ht HC e1 e2 c1 c1' c2 b1 b2 bw2 z1 hI
  go_enter Tryz.func66, Tryz.ntmps66
  go_wp2_with fail
  rw [E1.out, E2.out]
  refine HIF.out.mono ?_
  rintro e w3 ⟨rfl, hb3⟩
  have hbw3 := HB2.out.trans (hb3.mono HB2.out.size)
  by_cases h0 : I < 0
  · have HF : Hid (sayN s l t = ⟨#[]⟩) := hid (by rw [HSN.out, if_pos h0])
    have hlt : (decide (I < 0)) = true := by simpa using h0
    go_wp2
    go_ret
    exact ⟨by rw [HF.out]; rfl, hbw3⟩
  · obtain ⟨i, rfl⟩ : ∃ i : Nat, I = i := ⟨I.toNat, by omega⟩
    have hi : i < l.length := by omega
    obtain ⟨b, o, vS, vu, vp, rfl, k0, -, -, -, -, -⟩ := HC'.out i hi
    have k1 := (hbw3.cell (World.block_lt_of_cell? _ _ k0)).trans k0
    have HF : Hid (sayN s l t = l[i].name) := hid (by rw [HSN.out, if_neg h0, Int.toNat_natCast, List.getD_eq_getElem?_getD, List.getElem?_eq_getElem hi]; rfl)
    obtain ⟨y, hy⟩ : ∃ y, l[i].name = y := ⟨_, rfl⟩
    rw [hy] at k1 HF
    clear k0 hy hbnd h0
    go_wp2
    go_ret
    exact ⟨by rw [HF.out]; rfl, hbw3⟩
end Go.Proofs.YtpflkjldapmgdaaGreat
