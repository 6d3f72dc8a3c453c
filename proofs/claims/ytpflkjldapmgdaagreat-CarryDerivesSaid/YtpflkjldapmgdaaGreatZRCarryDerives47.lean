/-
  WHAT IT HOLDS: contract of Derived of the reference of layer 8. Conditions: the arguments read as data; small signs, small libraries.
  WHAT IT HOLDS: the walk of the law CarryDerives: it returns true. Conditions: the arguments read as data.
-/
import Derived.Test.YtpflkjldapmgdaaGreatZRCarryDerives46
import Derived.Test.YtpflkjldapmgdaaGreatZRCarryDerives35
import Derived.Test.YtpflkjldapmgdaaGreatZRCarryDerives38
import Derived.Test.YtpflkjldapmgdaaGreatZRCarryDerives29
import Derived.Test.YtpflkjldapmgdaaGreatZRCarryDerives18
namespace Go.Proofs.YtpflkjldapmgdaaGreat
open Go Go.RowKit Go.Maps
theorem ints_old {w W' : World} {v : Value} {l : List Int} (h : Ints w v l) (hs : ∀ q, q < w.heap.size → W'.heap[q]? = w.heap[q]?) : Ints W' v l := by
  obtain ⟨h1, a, cap, h2, h3, h4, h5, h6⟩ := h
  refine ⟨h1, a, cap, h2, h3, h4, h5, fun j u hj => ?_⟩
  obtain ⟨b, o, e, hc⟩ := h6 j u hj
  exact ⟨b, o, e, (World.cell?_of_block (hs b (World.block_lt_of_cell? _ _ hc))).trans hc⟩
set_option maxHeartbeats 8000000 in
set_option maxRecDepth 100000 in
theorem ref8_Derived (vs vl : Value) (s : Sg) (l : List En) (w : World) (hs : SignAt w vs s) (hl : EntsAt w vl l) (hs1 : s.length ≤ 1000) (hl1 : l.length ≤ 1000) :
    Calls Tryz.prog 32 #[vs, vl] w fun e w' => ∃ u L er, DrvA s l L er ∧ e = .returned (.tuple #[u, .int .i64 er]) ∧ Terms w' u L ∧ Below w.heap.size w w' := by
  have HV := hid (ref6_Valid vs vl s l w hs hl hs1 hl1)
  have HLL := hid hl
  have HSG := hid hs
  obtain ⟨la, lc, rfl, -, -, -, HC⟩ := hl.open
  have HC' := hid HC
  clear hl HC hs
  cases g : libB s l
  · have HR : Hid (DrvA s l [] 1) := hid (Or.inl ⟨g, rfl, rfl⟩)
    rw [g] at HV
    clear g
    go_enter Tryz.func32, Tryz.ntmps32
    go_wp2_with fail
    refine HV.out.mono ?_
    rintro e w1 ⟨rfl, hb1⟩
    go_wp2
    go_ret2
    exact ⟨_, [], 1, HR.out, rfl, terms_nilC _, hb1⟩
  · rw [g] at HV
    have HGG := hid g
    have hOK := libB_iff.1 g
    have hl60 := hOK.len
    have HTE := hid (fun x (hx : x ∈ l) => (hOK.ents x hx).says)
    clear g hOK
    have h00 := hid (fun W : World => TeS.nil W w.heap.size)
    go_enter Tryz.func32, Tryz.ntmps32
    go_wp2_with fail
    refine HV.out.mono ?_
    rintro e w1 ⟨rfl, hb1⟩
    have HB1 := hid hb1
    clear hb1
    go_wp2
    go_loopw [6, 7] (fun u iv wr => ∃ (i : Nat) (vs : List Value) (raw : List (List Int)), i ≤ l.length ∧ iv = .int .i64 i ∧ RwQ s (l.take i) ((l.take i).flatMap fun x => l.map fun y => (x, y)) raw ∧ raw.length ≤ i * 61 ∧ (∀ t ∈ raw, t.length ≤ 60) ∧ TeS wr w.heap.size u vs raw ∧ Below w.heap.size w wr) (fun _ iv _ => l.length - (intOf iv).toNat)
    case atStart => exact ⟨0, [], [], by omega, rfl, RwQ.nil s, by simp, (fun t h => by simp at h), h00.out _, HB1.out⟩
    case round =>
      clear h00
      rename World => wo
      obtain ⟨i, vvs, raw, hi, rfl, hR, hrl, hr60, hT, hb⟩ := hrel
      have hsz := hb.size
      by_cases hlti : i < l.length
      · obtain ⟨b, o, vS, vu, vp, rfl, -, -, e2, -, -, he⟩ := HC'.out i hlti
        obtain ⟨xa, xc, rfl, -⟩ := he.s.open
        have htx := HTE.out l[i] (List.getElem_mem hlti)
        have hxl := (termB_facts htx).2.2.2
        have HTKX : Hid (l.take (i + 1) = l.take i ++ [l[i]]) := hid (List.take_succ_eq_append_getElem hlti)
        have HNX : Hid (((l.take (i + 1)).flatMap fun x => l.map fun y => (x, y)) = ((l.take i).flatMap fun x => l.map fun y => (x, y)) ++ l.map fun y => (l[i], y)) := hid (by rw [List.take_succ_eq_append_getElem hlti, List.flatMap_append]; simp)
        obtain ⟨x, hx⟩ : ∃ x, l[i] = x := ⟨_, rfl⟩
        rw [hx] at e2 he hxl HTKX HNX
        have d2 := (hb.cell (World.block_lt_of_cell? _ _ e2)).trans e2
        have HE2 := hid e2
        have HXS := hid he.s
        have hsay := hR.say x
        rw [← HTKX.out] at hsay
        have HSAY := hid hsay
        have HR60 : Hid (∀ t ∈ raw ++ [x.says], t.length ≤ 60) := hid (fun t ht => by
          rcases List.mem_append.1 ht with h | h
          · exact hr60 t h
          · rw [List.mem_singleton] at h; subst h; exact hxl)
        have HT := hid hT
        have HB := hid hb
        obtain ⟨ua, uc, rfl⟩ := hT.slice
        have hTA := hT.top.alloc (.cells #[.slice xa x.says.length xc] 28)
        have HTA := hid hTA
        have y0 : (i : Int) < (l.length : Int) := by omega
        clear he htx hx hR hsay hr60 hT hb e2 hTA
        go_wp2_with (at_builtin; refine wpList_append_lie rfl _ _ 56 rfl w.heap.size 28 el_term Tryz.underlying56 rfl (by decide) _ _ _ rfl HTA.out _ 1 [.slice xa x.says.length xc] rfl (row_one_new _ _ _) (oneCell_one rfl) (by omega) (by omega) (by omega) (by simp; omega) _ rfl ?_; intro g1 c1 w4 hown4 hgrow4 hat4 hlt4)
        have hT4 := HT.out.push ((Below.refl _ _).alloc (Nat.le_refl _) (.cells #[.slice xa x.says.length xc] 28)) (x := x.says) (v := .slice xa x.says.length xc) (fun W' hW' => ints_old HXS.out (fun q hq => by
          have hbq := HB.out.block q hq
          rw [hW' q (by simp; omega) (fun e => by have := (HT.out.top.lt q e.symm).1; omega), Below.heap_alloc _ _ _ (by omega), hbq])) rfl hown4 hgrow4 rfl hat4
        have hB4 := ((HB.out.alloc hsz (.cells #[.slice xa x.says.length xc] 28)).grown hgrow4 (by simp; omega) (fun q hq => (HT.out.top.lt q hq).1))
        have HST : Hid (RwQ s (l.take (i + 1)) (((l.take i).flatMap fun x => l.map fun y => (x, y)) ++ (l.take 0).map (fun y => (x, y))) (raw ++ [x.says]) ∧ (raw ++ [x.says]).length ≤ i * 61 + 1 + 0 ∧ (∀ t ∈ raw ++ [x.says], t.length ≤ 60) ∧ TeS w4 w.heap.size (.slice (some ⟨g1, 0, none⟩) (raw.length + 1) c1) (vvs ++ [.slice xa x.says.length xc]) (raw ++ [x.says]) ∧ Below w.heap.size w w4) :=
          hid ⟨by simpa using HSAY.out, by simp; omega, HR60.out, hT4, hB4⟩
        clear hT4 hB4 hown4 hgrow4 hat4 hlt4 HSAY HR60 HT HB d2
        go_wp2
        go_loopw [6, 8] (fun u kv wr => ∃ (k : Nat) (vs : List Value) (raw : List (List Int)), k ≤ l.length ∧ kv = .int .i64 k ∧ (RwQ s (l.take (i + 1)) (((l.take i).flatMap fun x => l.map fun y => (x, y)) ++ (l.take k).map (fun y => (x, y))) raw ∧ raw.length ≤ i * 61 + 1 + k ∧ (∀ t ∈ raw, t.length ≤ 60) ∧ TeS wr w.heap.size u vs raw ∧ Below w.heap.size w wr)) (fun _ kv _ => l.length - (intOf kv).toNat)
        case atStart => exact ⟨0, _, _, by omega, rfl, HST.out⟩
        case round =>
          clear HST
          obtain ⟨k, vvs, raw, hk, rfl, hR, hrl, hr60, hT, hb⟩ := hrel
          have hsz := hb.size
          by_cases hltk : k < l.length
          · obtain ⟨b', o', yS, yu, yp, hbo, -, -, f2, -, -, hy⟩ := HC'.out k hltk
            obtain ⟨rfl, rfl⟩ : b = b' ∧ o = o' := by simpa using hbo
            obtain ⟨ya, yc, rfl, -⟩ := hy.s.open
            have HNY : Hid ((l.take (k + 1)).map (fun y => (x, y)) = (l.take k).map (fun y => (x, y)) ++ [(x, l[k])]) := hid (by rw [List.take_succ_eq_append_getElem hltk, List.map_append]; rfl)
            obtain ⟨y, hyy⟩ : ∃ y, l[k] = y := ⟨_, rfl⟩
            rw [hyy] at f2 hy HNY
            have ea := (hb.cell (World.block_lt_of_cell? _ _ HE2.out)).trans HE2.out
            have eb := (hb.cell (World.block_lt_of_cell? _ _ f2)).trans f2
            have HDE := hid (fun (X : World) (hX : Below wr.heap.size wr X) => ref4_Detach vs (.slice xa x.says.length xc) (.slice ya y.says.length yc) s x.says y.says X ((HSG.out.below hb).below hX) ((HXS.out.below hb).below hX) ((hy.s.below hb).below hX))
            have HT := hid hT
            have HB := hid hb
            have HRR := hid hR
            have HR60 := hid hr60
            obtain ⟨ua2, uc2, rfl⟩ := hT.slice
            have y1 : (k : Int) < (l.length : Int) := by omega
            have y2 : (0 : Int) ≤ (k : Int) := by omega
            have y3 : (0 : Int) ≤ (i : Int) := by omega
            clear hy hyy hbo f2 hR hr60 hT hb
            go_wp2
            go_region_held3 (fun w' => w'.cell? ⟨b, o + i * 5 + 2, none⟩ = some (.slice xa x.says.length xc) ∧ w'.cell? ⟨b, o + k * 5 + 2, none⟩ = some (.slice ya y.says.length yc))
              (first | exact ⟨by assumption, by assumption⟩ | go_keep)
              (first
              | (go_at_call 44; (with_reducible refine (HDE.out _ (Below.refl _ _)).mono ?_); rintro e w5 ⟨z, u5, hdet, rfl, hou, hb5⟩; have hbr5 : Below wr.heap.size wr w5 := hb5; have ea' := (hbr5.cell (World.block_lt_of_cell? _ _ ea)).trans ea; have eb' := (hbr5.cell (World.block_lt_of_cell? _ _ eb)).trans eb)
              | (go_at_call 44; (with_reducible refine (HDE.out _ (Below.drew (Below.refl _ _))).mono ?_); rintro e w5 ⟨z, u5, hdet, rfl, hou, hb5⟩; have hbr5 : Below wr.heap.size wr w5 := (below_self_drew _).trans hb5; have ea' := (hbr5.cell (World.block_lt_of_cell? _ _ ea)).trans ea; have eb' := (hbr5.cell (World.block_lt_of_cell? _ _ eb)).trans eb))
            obtain ⟨t0, e0⟩ := z
            have htl : t0.length ≤ 60 := det_len hdet
            dsimp only at hou ⊢
            have hbw5 := HB.out.trans (hbr5.mono hsz)
            have HB5 := hid hbw5
            have hsz5 := hbw5.size
            have hszr := hbr5.size
            have HT5 := hid (HT.out.below hbr5)
            have HDT := hid hdet
            obtain ⟨au, ku, rfl⟩ := owns_slice hou
            have HOU : Hid (w5.ownsRow wr.heap.size 3 1 (.slice au t0.length ku) t0.length (t0.map (Value.int .i64))) := hid hou
            have HLT := hid HT.out.top.lt
            clear hdet hou hbr5 hb5 hbw5 ea' eb' ea eb HDE HT HB
            by_cases h0 : e0 = 0
            · subst h0
              have HY := hid (HRR.out.yes (p := (x, y)) HDT.out)
              rw [List.append_assoc, ← HNY.out] at HY
              have HTA := hid (HT5.out.top.alloc (.cells #[.slice au t0.length ku] 28))
              have HR61 : Hid (∀ t ∈ raw ++ [t0], t.length ≤ 60) := hid (fun t ht => by
                rcases List.mem_append.1 ht with h | h
                · exact HR60.out t h
                · rw [List.mem_singleton] at h; subst h; exact htl)
              have hrb : raw.length ≤ 3800 := by omega
              go_wp2_with (at_builtin; refine wpList_append_lie rfl _ _ 56 rfl w.heap.size 28 el_term Tryz.underlying56 rfl (by decide) _ _ _ rfl HTA.out _ 1 [.slice au t0.length ku] rfl (row_one_new _ _ _) (oneCell_one rfl) (by omega) (by omega) (by omega) (by simp; omega) _ rfl ?_; intro g2 c2 w7 hown7 hgrow7 hat7 hlt7)
              have hT7 := HT5.out.push ((Below.refl _ _).alloc (Nat.le_refl _) (.cells #[.slice au t0.length ku] 28)) (x := t0) (v := .slice au t0.length ku) (fun W' hW' => ints_own HOU.out (by omega) (fun q h1 h2 => by
                rw [hW' q (by simp; omega) (fun e => by have := (HLT.out q e.symm).2; omega), Below.heap_alloc _ _ _ h2])) rfl hown7 hgrow7 rfl hat7
              have HT7 := hid hT7
              have HB7 := hid ((HB5.out.alloc hsz5 (.cells #[.slice au t0.length ku] 28)).grown hgrow7 (by simp; omega) (fun q hq => (HT5.out.top.lt q hq).1))
              have HL7 : Hid ((raw ++ [t0]).length ≤ i * 61 + 1 + (k + 1)) := hid (by simp; omega)
              clear hT7 hown7 hgrow7 hat7 hlt7
              go_roundw
              case rel => exact ⟨k + 1, _, _, by omega, by go_num, HY.out, HL7.out, HR61.out, HT7.out, HB7.out⟩
              case measure => simp [intOf]; omega
            · have n0 : (e0 == 0) = false := by simpa using h0
              have HY := hid (HRR.out.no (p := (x, y)) HDT.out h0)
              rw [List.append_assoc, ← HNY.out] at HY
              clear h0
              go_wp2
              go_roundw
              case rel => exact ⟨k + 1, _, _, by omega, by go_num, HY.out, by omega, HR60.out, HT5.out, HB5.out⟩
              case measure => simp [intOf]; omega
          · have hkl : k = l.length := by omega
            subst hkl
            rw [List.take_of_length_le (Nat.le_refl _), ← HNX.out] at hR
            have HST2 : Hid (RwQ s (l.take (i + 1)) ((l.take (i + 1)).flatMap fun x => l.map fun y => (x, y)) raw ∧ raw.length ≤ (i + 1) * 61 ∧ (∀ t ∈ raw, t.length ≤ 60) ∧ TeS wr w.heap.size u6 vvs raw ∧ Below w.heap.size w wr) := hid ⟨hR, by omega, hr60, hT, hb⟩
            clear hR hrl hr60 hT hb
            go_wp2
            go_roundw
            case rel => exact ⟨i + 1, vvs, raw, by omega, by go_num, HST2.out⟩
            case measure => simp [intOf]; omega
      · have hil : i = l.length := by omega
        subst hil
        rw [List.take_of_length_le (Nat.le_refl _)] at hR
        have HAN : Hid (DrvA s l (sortedL raw) 0) := hid (DrvA.of_raw HGG.out rfl hR)
        have HTM := hid (ref7_Terms u6 raw wo (hT.terms (by omega)) (by omega) (fun t ht => by have := hr60 t ht; omega))
        have HB := hid hb
        have HSL := hid (sortedL_len raw)
        clear hR hr60 hT hb
        go_wp2_with fail
        refine HTM.out.mono ?_
        rintro e w5 ⟨u5, vs5, rfl, hT5, hb5⟩
        have HT5 := hid (hT5.terms (by have := HSL.out; omega))
        have HB5 := hid (HB.out.trans (hb5.mono HB.out.size))
        clear hT5 hb5
        go_wp2
        go_ret2
        exact ⟨_, _, 0, HAN.out, rfl, HT5.out, HB5.out⟩
end Go.Proofs.YtpflkjldapmgdaaGreat
namespace Go.Proofs.YtpflkjldapmgdaaGreat
open Go Go.RowKit Go.Maps
theorem saysN_in {l : List En} {n : Nm} {p : List Int} (h : saysN l n = some p) : ∃ x ∈ l, x.says = p := by
  cases hi : idxN l n with
  | none => rw [saysN_none hi] at h; cases h
  | some i =>
    obtain ⟨hl, e⟩ := saysN_some hi
    rw [e] at h
    cases h
    exact ⟨l[i], List.getElem_mem hl, rfl⟩
/-- what goes along is derived. -/
theorem along_derived {s : Sg} {l : List En} {a n : Nm} {t : List Int} {L : List (List Int)} {e : Int} (h : AloR s l a n (t, 0)) (k : DrvA s l L e) : t ∈ L := by
  rcases h with ⟨h1, h2⟩ | ⟨-, hlib, p, q, hp, hq, hd⟩
  · exact absurd (congrArg Prod.snd h2).symm h1
  · rcases k with ⟨k1, -⟩ | ⟨-, -, -, km⟩
    · rw [hlib] at k1; cases k1
    · obtain ⟨x, hx, rfl⟩ := saysN_in hp
      obtain ⟨y, hy, rfl⟩ := saysN_in hq
      exact (km t).2 (Or.inr ⟨(x, y), prsL_mem.2 ⟨hx, hy⟩, hd⟩)
/-- one entry as a library. -/
theorem ents_one {w : World} {x : En} {vS vU vP : Value} (h : EntAt w vS vU vP x) (T : TypeId) : EntsAt (w.alloc (.cells #[.string x.name, .string x.who, vS, vU, vP] T)) (.slice (some ⟨w.heap.size, 0, none⟩) 1 1) [x] := by
  have hb : Below w.heap.size w (w.alloc (.cells #[.string x.name, .string x.who, vS, vU, vP] T)) := (Below.refl _ _).alloc (Nat.le_refl _) _
  exact ⟨[(vS, vU, vP)], by simpa [ensC, enC] using row_one_ent w (.string x.name) (.string x.who) vS vU vP T, rfl, fun j h1 _ => by
    have : j = 0 := by simp at h1; omega
    subst this
    exact h.below hb⟩
set_option maxHeartbeats 8000000 in
set_option maxRecDepth 100000 in
theorem walk_CarryDerives (vs vl vS vU vP : Value) (s : Sg) (l : List En) (x : En) (a n : Nm) (w : World) (hs : SignAt w vs s) (hl : EntsAt w vl l) (hx : EntAt w vS vU vP x) (ha : a.size ≤ 140737488355328) (hn : n.size ≤ 140737488355328) :
    Calls Tryz.prog 6 #[vs, vl, .agg #[.string x.name, .string x.who, vS, vU, vP], .string a, .string n] w fun e w' => e = .returned (.bool true) ∧ Below w.heap.size w w' := by
  obtain ⟨x1, c1, rfl, -⟩ := hx.s.open
  obtain ⟨x2, c2, rfl, -⟩ := hx.u.open
  obtain ⟨x3, c3, rfl, -⟩ := hx.p.open
  have EB0 := EB.new w x (.slice x1 x.says.length c1) (.slice x2 x.uses.length c2) (.slice x3 x.proof.length c3) 35
  obtain ⟨W, hW⟩ : ∃ W, w.alloc (.cells #[.string x.name, .string x.who, .slice x1 x.says.length c1, .slice x2 x.uses.length c2, .slice x3 x.proof.length c3] 35) = W := ⟨_, rfl⟩
  have hbW : Below w.heap.size w W := hW ▸ (Below.refl _ _).alloc (Nat.le_refl _) _
  rw [hW] at EB0
  have HSG := hid (hs.below hbW)
  have HLL := hid (hl.below hbW)
  have HX := hid (hx.below hbW)
  have HW := hid hW
  have HEB := hid EB0
  have HBW := hid hbW
  clear hs hl hx hW EB0 hbW
  go_enter Tryz.func6, Tryz.ntmps6
  go_wp2_with fail
  rw [HW.out]
  refine (law8_awake W).mono ?_
  rintro e w1 ⟨rfl, hb1⟩
  go_wp2_with fail
  refine (law8_heavy vs vl s l w1 (HSG.out.below hb1) (HLL.out.below hb1)).mono ?_
  rintro e w2 ⟨z, rfl, hz, hb2'⟩
  have hb2 := hb1.trans (hb2'.mono hb1.size)
  clear hb1 hb2'
  cases z
  case true =>
    clear hz
    go_wp2
    go_ret
    exact ⟨rfl, HBW.out.trans (hb2.mono HBW.out.size)⟩
  obtain ⟨hs20, hl100⟩ := hz rfl
  have HS1 := hid (show s.length ≤ 1000 by omega)
  have HL1 := hid (show l.length ≤ 1000 by omega)
  have HB2 := hid hb2
  obtain ⟨d0, d1, d2, d3, d4⟩ := HEB.out.below hb2
  have hone := ents_one (HX.out.below hb2) 35
  have hbo : Below w2.heap.size w2 (w2.alloc (.cells #[.string x.name, .string x.who, .slice x1 x.says.length c1, .slice x2 x.uses.length c2, .slice x3 x.proof.length c3] 35)) := (Below.refl _ _).alloc (Nat.le_refl _) _
  have HBO := hid (hb2.trans (hbo.mono hb2.size))
  have HHV := hid (law8_heavy vs _ s [x] _ (HSG.out.below HBO.out) hone)
  clear hz hs20 hl100 hb2 hbo hone
  go_wp2_with fail
  refine HHV.out.mono ?_
  rintro e w3 ⟨z, rfl, -, hb3'⟩
  have HB3 := hid (HBO.out.trans (hb3'.mono HBO.out.size))
  clear d0 d1 d2 d3 d4 hb3'
  cases z
  case true =>
    go_wp2
    go_ret
    exact ⟨rfl, HBW.out.trans (HB3.out.mono HBW.out.size)⟩
  by_cases e1 : (a.size : Int) > 100
  · go_wp2
    go_ret
    exact ⟨rfl, HBW.out.trans (HB3.out.mono HBW.out.size)⟩
  by_cases e2 : (n.size : Int) > 100
  · go_wp2
    go_ret
    exact ⟨rfl, HBW.out.trans (HB3.out.mono HBW.out.size)⟩
  go_wp2_with fail
  refine (carry_Derived vs vl s l w3 (HSG.out.below HB3.out) (HLL.out.below HB3.out) HS1.out HL1.out).mono ?_
  rintro e w4 ⟨u4, L, r4, hq4, rfl, ht4, hb4⟩
  have HB4 := hid (HB3.out.trans (hb4.mono HB3.out.size))
  have HT4 := hid ht4
  have HQ4 := hid hq4
  clear hb4 ht4 hq4
  go_wp2_with fail
  refine (ref8_Derived vs vl s l w4 (HSG.out.below HB4.out) (HLL.out.below HB4.out) HS1.out HL1.out).mono ?_
  rintro e w5 ⟨u5, L', r5, hq5, rfl, ht5, hb5⟩
  obtain ⟨rfl, rfl⟩ := hq5.unique HQ4.out
  have HB5 := hid (HB4.out.trans (hb5.mono HB4.out.size))
  have HT4a := hid (HT4.out.below hb5)
  have HT5 := hid ht5
  obtain ⟨d0, d1, d2, d3, d4⟩ := HEB.out.below HB5.out
  have HAD := hid (carry_Added vs vl _ _ _ s l x w5 (HSG.out.below HB5.out) (HLL.out.below HB5.out) (HX.out.below HB5.out) HS1.out HL1.out)
  obtain ⟨m, r6, hm⟩ : ∃ m r6, addR s l x = (m, r6) := ⟨_, _, rfl⟩
  rw [hm] at HAD
  dsimp only at HAD
  have HM := hid hm
  clear hb5 ht5 hq5 HT4 hm
  go_wp2_with fail
  refine HAD.out.mono ?_
  rintro e w6 ⟨u6, rfl, hm6, hb6⟩
  have HB6 := hid (HB5.out.trans (hb6.mono HB5.out.size))
  have HT4b := hid (HT4a.out.below hb6)
  have HT5a := hid (HT5.out.below hb6)
  have HM6 := hid hm6
  have HRD := hid (ref8_Added vs vl _ _ _ s l x w6 (HSG.out.below HB6.out) (HLL.out.below HB6.out) (HX.out.below HB6.out) HS1.out HL1.out)
  rw [HM.out] at HRD
  dsimp only at HRD
  clear hb6 hm6 HT4a HT5 HAD d0 d1 d2 d3 d4
  obtain ⟨d0, d1, d2, d3, d4⟩ := HEB.out.below HB6.out
  go_wp2_with fail
  refine HRD.out.mono ?_
  rintro e w7 ⟨u7, rfl, hm7, hb7⟩
  have HB7 := hid (HB6.out.trans (hb7.mono HB6.out.size))
  have HT4c := hid (HT4b.out.below hb7)
  have HT5b := hid (HT5a.out.below hb7)
  have HM6a := hid (HM6.out.below hb7)
  have HM7 := hid hm7
  have n1 : (r5 != r5) = false := by simp
  have n2 : (r6 != r6) = false := by simp
  have HST := hid (ref7_SameTermsE u4 u5 L' w7 HT4c.out HT5b.out)
  clear hb7 hm7 HT4b HT5a HM6 HRD d0 d1 d2 d3 d4
  go_wp2_with fail
  refine HST.out.mono ?_
  rintro e w8 ⟨rfl, n8, hw8⟩
  have hb8 : Below w7.heap.size w7 w8 := hw8 ▸ below_self_drewN _ _
  have HB8 := hid (HB7.out.trans (hb8.mono HB7.out.size))
  have HSL := hid (ref6_SameLibraryE u6 u7 m w8 (HM6a.out.below hb8) (HM7.out.below hb8))
  have HT8 := hid (HT4c.out.below hb8)
  clear hw8 hb8 HST
  go_wp2_with fail
  refine HSL.out.mono ?_
  rintro e w9 ⟨rfl, hb9⟩
  have HB9 := hid (HB8.out.trans (hb9.mono HB8.out.size))
  have HT9 := hid (HT8.out.below hb9)
  clear hb9 HSL
  go_wp2_with fail
  refine (carry_Along vs vl s l a n w9 (HSG.out.below HB9.out) (HLL.out.below HB9.out) HS1.out HL1.out ha hn).mono ?_
  rintro e wa ⟨⟨t, ra⟩, ua, hxa, rfl, hia, hba⟩
  have HBA := hid (HB9.out.trans (hba.mono HB9.out.size))
  have HTA := hid (HT9.out.below hba)
  have HIA := hid hia
  simp only
  by_cases h0 : ra = 0
  case neg =>
    have n0 : (ra != 0) = true := by simpa using h0
    clear h0 hxa hia hba
    go_wp2
    go_ret
    exact ⟨rfl, HBW.out.trans (HBA.out.mono HBW.out.size)⟩
  subst h0
  have HIN := hid (along_derived hxa HQ4.out)
  obtain ⟨ta, tc, rfl, -, tl, -, TC⟩ := HTA.out.open
  have TC' := hid TC
  obtain ⟨sa, sc, rfl, -⟩ := hia.open
  clear hxa hia hba TC
  simp only at HIA
  go_wp2
  go_loopw [21] (fun kv wr => ∃ k : Nat, k ≤ L'.length ∧ kv = .int .i64 k ∧ Below wa.heap.size wa wr ∧ ∀ i (h : i < L'.length), i < k → L'[i] ≠ t) (fun kv _ => L'.length - (intOf kv).toNat)
  case atStart => exact ⟨0, by omega, rfl, Below.refl _ _, fun _ _ h => by omega⟩
  case round =>
    obtain ⟨k, hk, rfl, hb, hrel⟩ := hrel
    have HR := hid hrel
    have HB := hid hb
    have hsz := hb.size
    clear hrel
    by_cases hlt : k < L'.length
    · obtain ⟨b, o, y, rfl, f0, fi⟩ := TC'.out k hlt
      have f1 := (hb.cell (World.block_lt_of_cell? _ _ f0)).trans f0
      have HSM := hid (ref6_SameTerm y (.slice sa t.length sc) L'[k] t wr (fi.below hb) (HIA.out.below hb))
      obtain ⟨ya, yc, rfl, -⟩ := fi.open
      obtain ⟨q, hq⟩ : ∃ q, L'[k] = q := ⟨_, rfl⟩
      have HQK := hid hq
      rw [hq] at f1 HSM
      have y0 : (k : Int) < (L'.length : Int) := by omega
      clear f0 fi hq hb
      by_cases hqt : q = t
      · rw [decide_eq_true hqt] at HSM
        clear hqt
        go_wp2_with fail
        refine HSM.out.mono ?_
        rintro e wz ⟨rfl, nz, hwz⟩
        have HBZ := hid (show Below wa.heap.size wa wz from hwz ▸ below_drewN HB.out nz)
        clear hwz
        go_wp2
        go_ret
        exact ⟨rfl, HBW.out.trans ((HBA.out.trans (HBZ.out.mono HBA.out.size)).mono HBW.out.size)⟩
      · rw [decide_eq_false hqt] at HSM
        have HQT := hid hqt
        clear hqt
        go_wp2_with fail
        refine HSM.out.mono ?_
        rintro e wz ⟨rfl, nz, hwz⟩
        have HBZ := hid (show Below wa.heap.size wa wz from hwz ▸ below_drewN HB.out nz)
        clear hwz
        go_wp2
        go_roundw
        case rel =>
          refine ⟨k + 1, by omega, by go_num, HBZ.out, fun i hi hik => ?_⟩
          rcases Nat.lt_succ_iff_lt_or_eq.1 hik with h1 | h1
          · exact HR.out i hi h1
          · subst h1; rw [HQK.out]; exact HQT.out
        case measure => simp [intOf]; omega
    · exfalso
      obtain ⟨i, hi, e⟩ := List.getElem_of_mem HIN.out
      exact HR.out i hi (by omega) e
end Go.Proofs.YtpflkjldapmgdaaGreat
