/-
  WHAT IT HOLDS: the contract of Added of package carry. Conditions: the arguments read as data; small signs, small libraries.
  WHAT IT HOLDS: contracts of Added of the reference of layer 8, of SameTerms of the reference of layer 7 and SameLibrary of that of layer 6 at lists that are the same. Conditions: the arguments read as data; small signs, small libraries.
-/
import Derived.Deep.RegionHeld3
import Derived.BigQuiet
import Derived.Test.YtpflkjldapmgdaaGreatZRCarryDerives37
import Derived.Test.YtpflkjldapmgdaaGreatZRCarryDerives31
import Derived.Test.YtpflkjldapmgdaaGreatZRCarryDerives28
namespace Go.Proofs.YtpflkjldapmgdaaGreat
open Go Go.RowKit Go.Maps
theorem EB.block {w w' : World} {b : Nat} {x : En} {vS vU vP : Value} (h : EB w b x vS vU vP) (hb : w'.heap[b]? = w.heap[b]?) : EB w' b x vS vU vP :=
  ⟨(World.cell?_of_block hb).trans h.c0, (World.cell?_of_block hb).trans h.c1, (World.cell?_of_block hb).trans h.c2, (World.cell?_of_block hb).trans h.c3, (World.cell?_of_block hb).trans h.c4⟩
theorem carry_Added1 (p : Nat) (x y : En) (vS vU vP uS uU uP : Value) (w : World) (hE : EB w p x uS uU uP) :
    Calls Tryz.prog 59 #[.agg #[.string y.name, .string y.who, vS, vU, vP], .pointer (some ⟨p, 0, none⟩)] w fun e w' => e = .returned (.bool (decide (y.name = x.name))) ∧ Below w.heap.size w w' := by
  have c0 := hE.c0
  have HB := hid (show Below w.heap.size w (w.alloc (.cells #[.string y.name, .string y.who, vS, vU, vP] 35)) from (Below.refl _ _).alloc (Nat.le_refl _) _)
  have hlt : p < w.heap.size := World.block_lt_of_cell? _ _ c0
  by_cases h : y.name = x.name
  · have q : (y.name.toList == x.name.toList) = true := by rw [bytes_eq]; simpa using h
    have HF := hid (decide_eq_true h)
    clear h
    go_enter Tryz.func59, Tryz.ntmps59
    go_wp2
    go_ret
    exact ⟨ret_bool HF.out.symm, HB.out⟩
  · have q : (y.name.toList == x.name.toList) = false := by rw [bytes_eq]; simpa using h
    have HF := hid (decide_eq_false h)
    clear h
    go_enter Tryz.func59, Tryz.ntmps59
    go_wp2
    go_ret
    exact ⟨ret_bool HF.out.symm, HB.out⟩
theorem carry_Added2 (y : En) (v : Value) (B : Nat) (w : World) (hB : B ≤ w.heap.size) (hO : EnO w B v y) :
    Calls Tryz.prog 61 #[v] w fun e w' => ∃ v', e = .returned v' ∧ EnO w' B v' y ∧ Below B w w' := by
  obtain ⟨vS, vU, vP, rfl, hO⟩ := hO
  obtain ⟨a1, k1, rfl⟩ := owns_slice hO.s
  obtain ⟨a2, k2, rfl⟩ := owns_slice hO.u
  obtain ⟨a3, k3, rfl⟩ := owns_slice hO.p
  have HO := hid hO
  clear hO
  go_enter Tryz.func61, Tryz.ntmps61
  go_wp2
  (try simp only [Exit.inBlock, Exit.then])
  refine bodyPost_ret (v := .agg #[.string y.name, .string y.who, .slice a1 y.says.length k1, .slice a2 y.uses.length k2, .slice a3 y.proof.length k3]) ?_ rfl ?_
  · simp only [results, Tryz.results61]
    go_simp
  · have h2 := ((Below.refl w.heap.size w).alloc (Nat.le_refl _) (.cells #[.string y.name, .string y.who, .slice a1 y.says.length k1, .slice a2 y.uses.length k2, .slice a3 y.proof.length k3] 35)).alloc (by simp) (.cells #[.string y.name, .string y.who, .slice a1 y.says.length k1, .slice a2 y.uses.length k2, .slice a3 y.proof.length k3] 35)
    exact ⟨_, rfl, ⟨_, _, _, rfl, HO.out.blocks (Nat.le_refl _) fun q _ hq => h2.block q hq⟩, h2.mono hB⟩
/-- what Added answers. -/
def addR (s : Sg) (l : List En) (x : En) : List En × Int := if libB s l && entryB s x then (if (idxN l x.name).isSome then ([], 6) else if l.length = 60 then ([], 4) else (l ++ [x], 0)) else ([], 1)
theorem addR_1 {s : Sg} {l : List En} {x : En} (h : libB s l = false ∨ entryB s x = false) : addR s l x = ([], 1) := by
  unfold addR; rcases h with h | h <;> simp [h]
theorem addR_2 {s : Sg} {l : List En} {x : En} (h1 : libB s l = true) (h2 : entryB s x = true) : addR s l x = if (idxN l x.name).isSome then ([], 6) else if l.length = 60 then ([], 4) else (l ++ [x], 0) := by
  unfold addR; rw [h1, h2]; rfl
theorem names_any (l : List En) (n : Nm) (p : Nat → Bool) (hp : ∀ i (h : i < l.length), p i = decide (l[i].name = n)) : (List.range l.length).any p = (idxN l n).isSome := by
  rw [Bool.eq_iff_iff, List.any_eq_true]
  constructor
  · rintro ⟨i, hi, h⟩
    have hi := List.mem_range.1 hi
    rw [hp i hi, decide_eq_true_eq] at h
    cases e : idxN l n with
    | some _ => rfl
    | none => exact absurd h (idxN_none e _ (List.getElem_mem hi))
  · intro h
    obtain ⟨i, hi⟩ := Option.isSome_iff_exists.1 h
    obtain ⟨h1, h2⟩ := idxN_some hi
    exact ⟨i, List.mem_range.2 h1, by rw [hp i h1]; simpa using h2⟩
theorem ent_sm {s : Sg} {x : En} (h : entryB s x = true) : EnSm x := by
  have h1 := entryB_iff.1 h
  have h2 := h1.len
  have h3 := (termB_T h1.says).ne
  have h4 := (termB_facts h1.says).2.2.2
  refine ⟨h3, by omega, by omega, ?_⟩
  by_cases h0 : x.proof.length = 0
  · omega
  · have := proof60 (h1.proof h0); omega
theorem EntsAt.nil' (w : World) : EntsAt w (.slice none 0 0) [] := EntsAt.nil w
set_option maxHeartbeats 4000000 in
set_option maxRecDepth 100000 in
theorem carry_Added (vs vl vS vU vP : Value) (s : Sg) (l : List En) (x : En) (w : World) (hs : SignAt w vs s) (hl : EntsAt w vl l) (hx : EntAt w vS vU vP x) (hs1 : s.length ≤ 1000) (hl1 : l.length ≤ 1000) :
    Calls Tryz.prog 18 #[vs, vl, .agg #[.string x.name, .string x.who, vS, vU, vP]] w fun e w' => ∃ u, e = .returned (.tuple #[u, .int .i64 (addR s l x).2]) ∧ EntsAt w' u (addR s l x).1 ∧ Below w.heap.size w w' := by
  obtain ⟨xa, xc, rfl, -⟩ := hx.s.open
  obtain ⟨ya, yc, rfl, -⟩ := hx.u.open
  obtain ⟨za, zc, rfl, -⟩ := hx.p.open
  obtain ⟨la, lc, rfl, -, ll, -⟩ := hl.open
  have EB0 := EB.new w x (.slice xa x.says.length xc) (.slice ya x.uses.length yc) (.slice za x.proof.length zc) 35
  obtain ⟨W, hW⟩ : ∃ W, w.alloc (.cells #[.string x.name, .string x.who, .slice xa x.says.length xc, .slice ya x.uses.length yc, .slice za x.proof.length zc] 35) = W := ⟨_, rfl⟩
  have hbW : Below w.heap.size w W := hW ▸ (Below.refl _ _).alloc (Nat.le_refl _) _
  rw [hW] at EB0
  have HV := hid (deps_Valid vs _ s l W (hs.below hbW) (hl.below hbW) hs1 hl1)
  have HVE := hid (fun (X : World) (hX : Below w.heap.size w X) => deps_ValidEntry vs _ _ _ s x X (hs.below hX) (hx.below hX) hs1)
  have HLL := hid hl
  have HX := hid hx
  have HW := hid hW
  have HEB := hid EB0
  have HBW := hid hbW
  clear hW EB0 hbW hl hs hx
  cases g1 : libB s l
  · have HF := hid (addR_1 (l := l) (x := x) (Or.inl g1))
    rw [g1] at HV
    clear g1
    go_enter Tryz.func18, Tryz.ntmps18
    go_wp2_with fail
    rw [HW.out]
    refine HV.out.mono ?_
    rintro e w1 ⟨rfl, hb1⟩
    go_wp2
    go_ret2
    exact ⟨_, by rw [HF.out]; rfl, by rw [HF.out]; exact EntsAt.nil' _, HBW.out.trans (hb1.mono HBW.out.size)⟩
  rw [g1] at HV
  cases g2 : entryB s x
  · have HF := hid (addR_1 (l := l) (x := x) (Or.inr g2))
    simp only [g2] at HVE
    clear g1 g2
    go_enter Tryz.func18, Tryz.ntmps18
    go_wp2_with fail
    rw [HW.out]
    refine HV.out.mono ?_
    rintro e w1 ⟨rfl, hb1⟩
    have hbw1 := HBW.out.trans (hb1.mono HBW.out.size)
    obtain ⟨c0, c1, c2, c3, c4⟩ := HEB.out.below hb1
    have HV1 := hid (HVE.out w1 hbw1)
    go_wp2_with fail
    refine HV1.out.mono ?_
    rintro e w2 ⟨rfl, hb2⟩
    go_wp2
    go_ret2
    exact ⟨_, by rw [HF.out]; rfl, by rw [HF.out]; exact EntsAt.nil' _, hbw1.trans (hb2.mono hbw1.size)⟩
  simp only [g2] at HVE
  have HAR := hid (addR_2 g1 g2)
  have HLIB := hid g1
  have HSM := hid (ent_sm g2)
  have HSL := hid (fun (y : En) (hy : y ∈ l) => ent_sm (entryB_iff.2 ((libB_iff.1 g1).ents y hy)))
  clear g1 g2
  go_enter Tryz.func18, Tryz.ntmps18
  go_wp2_with fail
  rw [HW.out]
  refine HV.out.mono ?_
  rintro e w1 ⟨rfl, hb1⟩
  have hbw1 := HBW.out.trans (hb1.mono HBW.out.size)
  have HV1 := hid (HVE.out w1 hbw1)
  have EB1 := HEB.out.below hb1
  obtain ⟨c0, c1, c2, c3, c4⟩ := EB1
  go_wp2_with fail
  refine HV1.out.mono ?_
  rintro e w2 ⟨rfl, hb2⟩
  have hbw2 := hbw1.trans (hb2.mono hbw1.size)
  have EB2 := (EB.below (x := x) ⟨c0, c1, c2, c3, c4⟩ hb2)
  have HCF := hid (sl_ContainsFunc_ents 59 #[.pointer (some ⟨w.heap.size, 0, none⟩)] (enters_of Tryz.func59 (by kernel_rfl) rfl) (.slice la l.length lc) l w2 (HLL.out.below hbw2) (fun i => decide ((l.getD i en0).name = x.name)) (by
    intro i hi vs vu vp X hX _
    have e1 : l.getD i en0 = l[i] := by rw [List.getD_eq_getElem?_getD, List.getElem?_eq_getElem hi]; rfl
    simp only [e1]
    exact carry_Added1 w.heap.size x l[i] vs vu vp _ _ _ X (EB2.below hX)))
  rw [names_any l x.name _ (fun i h => by rw [List.getD_eq_getElem?_getD, List.getElem?_eq_getElem h]; rfl)] at HCF
  have HEB2 := hid EB2
  have HB2 := hid hbw2
  clear c0 c1 c2 c3 c4 hb1 hb2 hbw1 hbw2 EB2
  go_wp2_with fail
  refine HCF.out.mono ?_
  rintro e w3 ⟨rfl, hb3⟩
  have hbw3 := HB2.out.trans (hb3.mono HB2.out.size)
  have HEB3 := hid (HEB2.out.below hb3)
  cases g3 : (idxN l x.name).isSome
  case true =>
    have HF : Hid (addR s l x = ([], 6)) := hid (by rw [HAR.out, g3]; rfl)
    clear g3
    go_wp2
    go_ret2
    exact ⟨_, by rw [HF.out]; rfl, by rw [HF.out]; exact EntsAt.nil' _, hbw3⟩
  by_cases g4 : l.length = 60
  · have HF : Hid (addR s l x = ([], 4)) := hid (by rw [HAR.out, g3, if_neg (by simp), if_pos g4])
    have q4 : ((l.length : Int) == 60) = true := by simp [g4]
    clear g3 g4
    go_wp2
    go_ret2
    exact ⟨_, by rw [HF.out]; rfl, by rw [HF.out]; exact EntsAt.nil' _, hbw3⟩
  have HF : Hid (addR s l x = (l ++ [x], 0)) := hid (by rw [HAR.out, g3, if_neg (by simp), if_neg g4])
  have q4 : ((l.length : Int) == 60) = false := by rw [beq_eq_false_iff_ne]; omega
  have HB3 := hid hbw3
  have HL60 : Hid (l.length ≤ 60) := hid (libB_iff.1 HLIB.out).len
  have HEA := hid (fun (X : World) (hX : Below w3.heap.size w3 X) => carry_each 61 #[] (enters_of Tryz.func61 (by kernel_rfl) rfl) (.slice la l.length lc) l id X ((HLL.out.below hbw3).below hX) hl1 HSL.out (fun i h W v B _ hB _ hO => carry_Added2 l[i] v B W hB hO))
  have HCP := hid (fun (X : World) (hX : Below w3.heap.size w3 X) => carry_copied (.slice xa x.says.length xc) (.slice ya x.uses.length yc) (.slice za x.proof.length zc) x X ((HX.out.below hbw3).below hX) HSM.out.1 HSM.out.2.1 HSM.out.2.2.1 HSM.out.2.2.2)
  obtain ⟨c0, c1, c2, c3, c4⟩ := HEB3.out
  have d0 := c0
  clear g3 g4 hb3 hbw3 HEB HEB2 HEB3
  go_wp2
  have hbZ : Below w3.heap.size w3 w3 := Below.refl _ _
  refine wp_region_held_drew (S := fun w' => w'.cell? ⟨w.heap.size, 0, none⟩ = some (.string x.name) ∧ w'.cell? ⟨w.heap.size, 1, none⟩ = some (.string x.who) ∧ w'.cell? ⟨w.heap.size, 2, none⟩ = some (.slice xa x.says.length xc) ∧ w'.cell? ⟨w.heap.size, 3, none⟩ = some (.slice ya x.uses.length yc) ∧ w'.cell? ⟨w.heap.size, 4, none⟩ = some (.slice za x.proof.length zc)) (by kernel_rfl) ?_ (fun hHeld => ?_)
  · exact ⟨c0, c1, c2, c3, c4⟩
  refine wpAnyH_take (i := 0) (oi := { dst := some 27, op := Op.move (Operand.tmp 1), type := 24, pos := _, after := _, guard := none }) (v := ?_) rfl (by kernel_rfl) (by kernel_rfl) (by kernel_rfl) (fun _ _ _ h => h) (Or.inl ⟨by rfl, ?_⟩) hHeld ?_
  rotate_left
  · (intro w hSw; (try dsimp only at hSw); go_simp; (try with_reducible rfl))
  (try simp only [Act.put, List.setIfInBounds_toArray, List.set_cons_zero, List.set_cons_succ])
  refine wpAnyH_take (i := 2) (oi := { dst := some 29, op := Op.load 35 (Operand.tmp 5), type := 35, pos := _, after := _, guard := none }) (v := ?_) rfl (by kernel_rfl) (by kernel_rfl) (by kernel_rfl) (fun _ _ _ h => h) (Or.inl ⟨by rfl, ?_⟩) hHeld ?_
  rotate_left
  · (intro w hSw; (try dsimp only at hSw); go_simp; (try with_reducible rfl))
  (try simp only [Act.put, List.setIfInBounds_toArray, List.set_cons_zero, List.set_cons_succ])
  refine wpAnyH_ready (rs := [1]) (by kernel_rfl) (by simp) ?_
  refine AllReadyH.cons (o := { dst := some 28, op := Op.call { callee := Callee.value (Operand.func 60), args := #[Operand.tmp 27, Operand.func 61], argTypes := #[24, 87] }, type := 24, pos := _, after := _, guard := none }) rfl (fun K hK => ?_) AllReadyH.nil
  (try go_simp)
  (go_at_call 60; refine (HEA.out _ (by first | exact hbZ | exact hbZ.drew | exact below_drewN hbZ _)).mono ?_; rintro e wz ⟨ue, vvs, rfl, hE0, hb1⟩; have hbZ := Below.trans (show Below w3.heap.size w3 _ from (by first | exact hbZ | exact hbZ.drew | exact below_drewN hbZ _)) (hb1.mono (by first | exact hbZ.size | (simp; exact hbZ.size))); obtain ⟨c0, c1, c2, c3, c4⟩ := EB.below (x := x) ⟨c0, c1, c2, c3, c4⟩ hbZ; rw [List.map_id] at hE0; have hE0 : EnS wz w3.heap.size ue vvs l := hE0; obtain ⟨ea, ec, rfl⟩ := hE0.slice)
  refine hK.out _ _ ?_ (fun hHeld => ?_)
  · exact ⟨c0, c1, c2, c3, c4⟩
  clear hK K
  (try simp only [Act.put, List.setIfInBounds_toArray, List.set_cons_zero, List.set_cons_succ])
  refine wpAnyH_ready (rs := [3]) (by kernel_rfl) (by simp) ?_
  refine AllReadyH.cons (o := { dst := some 30, op := Op.call { callee := Callee.value (Operand.func 62), args := #[Operand.tmp 29], argTypes := #[35] }, type := 35, pos := _, after := _, guard := none }) rfl (fun K hK => ?_) AllReadyH.nil
  (try go_simp)
  (go_at_call 62; refine (HCP.out _ hbZ).mono ?_; rintro e wc ⟨vc, rfl, ⟨uS, uU, uP, rfl, hO⟩, hb2⟩; have hE2 := hE0.below hb2; have hbY := hbZ.trans (hb2.mono hbZ.size); obtain ⟨c0, c1, c2, c3, c4⟩ := EB.below (x := x) ⟨c0, c1, c2, c3, c4⟩ hb2; obtain ⟨a1, k1, rfl⟩ := owns_slice hO.s; obtain ⟨a2, k2, rfl⟩ := owns_slice hO.u; obtain ⟨a3, k3, rfl⟩ := owns_slice hO.p)
  refine hK.out _ _ ?_ (fun hHeld => ?_)
  · exact ⟨c0, c1, c2, c3, c4⟩
  clear hK K
  (try simp only [Act.put, List.setIfInBounds_toArray, List.set_cons_zero, List.set_cons_succ])
  refine wpAnyH_ready (rs := [4]) (by kernel_rfl) (by simp) ?_
  refine AllReadyH.cons (o := { dst := some 31, op := Op.buildSlice 24 1 #[(0, Operand.tmp 30)], type := 24, pos := _, after := _, guard := none }) rfl (fun K hK => ?_) AllReadyH.nil
  (try go_simp)
  (have hbA : Below wc.heap.size wc (wc.alloc (.cells #[.string x.name, .string x.who, .slice a1 x.says.length k1, .slice a2 x.uses.length k2, .slice a3 x.proof.length k3] 35)) := (Below.refl _ _).alloc (Nat.le_refl _) _; obtain ⟨c0, c1, c2, c3, c4⟩ := EB.below (x := x) ⟨c0, c1, c2, c3, c4⟩ hbA; have HROW := row_one_ent wc (.string x.name) (.string x.who) (.slice a1 x.says.length k1) (.slice a2 x.uses.length k2) (.slice a3 x.proof.length k3) 35; have hownA := hE2.top.alloc (.cells #[.string x.name, .string x.who, .slice a1 x.says.length k1, .slice a2 x.uses.length k2, .slice a3 x.proof.length k3] 35))
  refine hK.out _ _ ?_ (fun hHeld => ?_)
  · exact ⟨c0, c1, c2, c3, c4⟩
  clear hK K
  (try simp only [Act.put, List.setIfInBounds_toArray, List.set_cons_zero, List.set_cons_succ])
  refine wpAnyH_ready (rs := [5]) (by kernel_rfl) (by simp) ?_
  refine AllReadyH.cons (o := { dst := some 32, op := Op.call { callee := Callee.builtin Builtin.append, args := #[Operand.tmp 28, Operand.tmp 31], argTypes := #[24, 24] }, type := 24, pos := _, after := _, guard := none }) rfl (fun K hK => ?_) AllReadyH.nil
  (refine step_append_lie rfl (.tmp 28) (.tmp 31) 24 rfl w3.heap.size 35 el_ent Tryz.underlying24 rfl (by decide) _ l.length (ensC l vvs) rfl hownA _ 1 (enC x (.slice a1 x.says.length k1, .slice a2 x.uses.length k2, .slice a3 x.proof.length k3)) rfl HROW (enC_one _ _ _ _ _ _ _ _ _ _) (by omega) (by omega) (by omega) (by have := hbY.size; simp; omega) _ rfl ?_; intro g cap w4 hown4 hgrow4 hat4 hlt4; have hpw : w.heap.size < w3.heap.size := World.block_lt_of_cell? _ _ d0; obtain ⟨c0, c1, c2, c3, c4⟩ := EB.block (x := x) ⟨c0, c1, c2, c3, c4⟩ (hgrow4.block w.heap.size (by have := hbY.size; simp; omega) (fun e => by have := (hE2.top.lt w.heap.size e.symm).1; omega)))
  refine hK.out _ _ ?_ (fun hHeld => ?_)
  · exact ⟨c0, c1, c2, c3, c4⟩
  clear hK K
  (try simp only [Act.put, List.setIfInBounds_toArray, List.set_cons_zero, List.set_cons_succ])
  refine wpAnyH_take (i := 6) (oi := { dst := some 6, op := Op.assign (Operand.tmp 32), type := 24, pos := _, after := _, guard := none }) (v := ?_) rfl (by kernel_rfl) (by kernel_rfl) (by kernel_rfl) (fun _ _ _ h => h) (Or.inl ⟨by rfl, ?_⟩) hHeld ?_
  rotate_left
  · (intro w hSw; (try dsimp only at hSw); go_simp; (try with_reducible rfl))
  (try simp only [Act.put, List.setIfInBounds_toArray, List.set_cons_zero, List.set_cons_succ])
  refine wpAnyH_take (i := 7) (oi := { dst := some 7, op := Op.assign (Operand.const (Value.int IntKind.i64 0)), type := 29, pos := _, after := _, guard := none }) (v := ?_) rfl (by kernel_rfl) (by kernel_rfl) (by kernel_rfl) (fun _ _ _ h => h) (Or.inl ⟨by rfl, ?_⟩) hHeld ?_
  rotate_left
  · (intro w hSw; (try dsimp only at hSw); go_simp; (try with_reducible rfl))
  (try simp only [Act.put, List.setIfInBounds_toArray, List.set_cons_zero, List.set_cons_succ])
  refine wpAnyH_done (by kernel_rfl) ?_ _
  have hE4 := hE2.push (w1 := wc.alloc (.cells #[.string x.name, .string x.who, .slice a1 x.says.length k1, .slice a2 x.uses.length k2, .slice a3 x.proof.length k3] 35)) ((Below.refl _ _).alloc (Nat.le_refl _) _) (x := x) (v := (.slice a1 x.says.length k1, .slice a2 x.uses.length k2, .slice a3 x.proof.length k3)) (fun W' hW' => (hO.blocks (base' := 0) (Nat.zero_le _) fun q h1 h2 => (hW' q (by simp; omega) (fun e => by
    have := (hE0.top.lt q e.symm).2
    omega)).trans (Below.heap_alloc _ _ _ h2)).ent) rfl hown4 hgrow4 rfl hat4
  have HEN : Hid (EntsAt w4 (.slice (some ⟨g, 0, none⟩) (l.length + 1) cap) (l ++ [x])) := hid ⟨_, hE4.ents (by simp; have := HL60.out; omega)⟩
  have HB4 : Hid (Below w.heap.size w w4) := hid (((HB3.out.trans (hbY.mono HB3.out.size)).alloc (by have := hbY.size; have := HB3.out.size; omega) _).grown hgrow4 (by have := hbY.size; have := HB3.out.size; simp; omega) (fun q hq => by have := (hE2.top.lt q hq).1; omega))
  clear hE4 hE2 hE0 hO hown4 hgrow4 hat4 hlt4 hbA HROW hownA hbY hbZ hb1 hb2 hHeld c0 c1 c2 c3 c4 d0
  go_wp2
  go_ret2
  exact ⟨_, by rw [HF.out]; rfl, by rw [HF.out]; exact HEN.out, HB4.out⟩
end Go.Proofs.YtpflkjldapmgdaaGreat
namespace Go.Proofs.YtpflkjldapmgdaaGreat
open Go Go.RowKit Go.Maps
set_option maxHeartbeats 2000000 in
theorem ref7_SameTermsE (v u : Value) (l : List (List Int)) (w : World) (hv : Terms w v l) (hu : Terms w u l) :
    Calls Tryz.prog 34 #[v, u] w fun e w' => e = .returned (.bool true) ∧ ∃ n, w' = w.drewN n := by
  obtain ⟨a, cap, rfl, h1, hl, h3, HC⟩ := hv.open
  obtain ⟨a', cap', rfl, h1', hl', h3', HD⟩ := hu.open
  have HC' := hid HC
  have HD' := hid HD
  have hne : (((l.length : Nat) : Int) != (l.length : Int)) = false := by simp
  clear HC hv h3 HD hu h3'
  go_enter Tryz.func34, Tryz.ntmps34
  go_wp2
  go_loopw [5] (fun i wr => ∃ k q : Nat, k ≤ l.length ∧ i = .int .i64 k ∧ wr = w.drewN q) (fun i _ => l.length - (intOf i).toNat)
  case atStart => exact ⟨0, 0, by omega, rfl, rfl⟩
  case round =>
    obtain ⟨k, q, hk, rfl, hw⟩ := hrel
    have HW := hid hw
    by_cases hlt : k < l.length
    · obtain ⟨b, o, x, rfl, hcell, hx⟩ := HC'.out k hlt
      obtain ⟨b', o', y, rfl, hcell', hy⟩ := HD'.out k hlt
      have hbq : Below w.heap.size w wr := hw ▸ below_self_drewN _ _
      have c1 := (hbq.cell (World.block_lt_of_cell? _ _ hcell)).trans hcell
      have c2 := (hbq.cell (World.block_lt_of_cell? _ _ hcell')).trans hcell'
      have HST : ∀ n, Hid (Calls Tryz.prog 16 #[x, y] (wr.drewN n) fun e w' => e = .returned (.bool true) ∧ ∃ n', w' = (wr.drewN n).drewN n') := fun n => hid (by
        have := ref6_SameTerm x y l[k] l[k] (wr.drewN n) ((hx.below hbq).drewN n) ((hy.below hbq).drewN n)
        rwa [decide_eq_true (rfl : l[k] = l[k])] at this)
      obtain ⟨xa, xc, rfl, -⟩ := hx.open
      obtain ⟨ya, yc, rfl, -⟩ := hy.open
      obtain ⟨n, hn⟩ : ∃ n, l[k].length = n := ⟨_, rfl⟩
      rw [hn] at c1 c2
      simp only [hn] at HST
      have y0 : (0 : Int) ≤ (k : Int) := by omega
      have y1 : (k : Int) < (l.length : Int) := by omega
      clear hw hbq hcell hcell' hx hy hn
      go_wp2
      go_quiet ((go_at_call 16; exact Calls.quiet_of (HST _).out))
      go_wp2
      go_roundw
      case rel => exact ⟨k + 1, _, by omega, by go_num, by rw [HW.out, World.drewN_drewN]⟩
      case measure => simp [intOf]; omega
    · clear hw
      go_wp2
      go_ret
      exact ⟨rfl, q, HW.out⟩
set_option maxHeartbeats 4000000 in
set_option maxRecDepth 100000 in
theorem ref6_SameLibraryE (v u : Value) (l : List En) (w : World) (hv : EntsAt w v l) (hu : EntsAt w u l) :
    Calls Tryz.prog 35 #[v, u] w fun e w' => e = .returned (.bool true) ∧ Below w.heap.size w w' := by
  obtain ⟨a, cap, rfl, h1, hl, h3, HC⟩ := hv.open
  obtain ⟨a', cap', rfl, h1', hl', h3', HD⟩ := hu.open
  have HC' := hid HC
  have HD' := hid HD
  have hne : (((l.length : Nat) : Int) != (l.length : Int)) = false := by simp
  clear HC hv h3 HD hu h3'
  go_enter Tryz.func35, Tryz.ntmps35
  go_wp2
  go_loopw [5] (fun i wr => ∃ k : Nat, k ≤ l.length ∧ i = .int .i64 k ∧ Below w.heap.size w wr) (fun i _ => l.length - (intOf i).toNat)
  case atStart => exact ⟨0, by omega, rfl, Below.refl _ _⟩
  case round =>
    obtain ⟨k, hk, rfl, hb⟩ := hrel
    have hsz := hb.size
    by_cases hlt : k < l.length
    · obtain ⟨b, o, xS, xU, xP, rfl, c0, c1, c2, c3, c4, hx⟩ := HC'.out k hlt
      obtain ⟨b', o', yS, yU, yP, rfl, f0, f1, f2, f3, f4, hy⟩ := HD'.out k hlt
      have c0 := (hb.cell (World.block_lt_of_cell? _ _ c0)).trans c0
      have c1 := (hb.cell (World.block_lt_of_cell? _ _ c1)).trans c1
      have c2 := (hb.cell (World.block_lt_of_cell? _ _ c2)).trans c2
      have c3 := (hb.cell (World.block_lt_of_cell? _ _ c3)).trans c3
      have c4 := (hb.cell (World.block_lt_of_cell? _ _ c4)).trans c4
      have f0 := (hb.cell (World.block_lt_of_cell? _ _ f0)).trans f0
      have f1 := (hb.cell (World.block_lt_of_cell? _ _ f1)).trans f1
      have f2 := (hb.cell (World.block_lt_of_cell? _ _ f2)).trans f2
      have f3 := (hb.cell (World.block_lt_of_cell? _ _ f3)).trans f3
      have f4 := (hb.cell (World.block_lt_of_cell? _ _ f4)).trans f4
      obtain ⟨x, hxe⟩ : ∃ x, l[k] = x := ⟨_, rfl⟩
      rw [hxe] at c0 c1 f0 f1 hx hy
      have HSE := hid (fun (X : World) (hX : Below wr.heap.size wr X) => ref6_SameEntry xS xU xP yS yU yP x x X ((hx.below hb).below hX) ((hy.below hb).below hX))
      rw [decide_eq_true (rfl : x = x)] at HSE
      obtain ⟨a1, k1, rfl, -⟩ := hx.s.open
      obtain ⟨a2, k2, rfl, -⟩ := hx.u.open
      obtain ⟨a3, k3, rfl, -⟩ := hx.p.open
      obtain ⟨b1, j1, rfl, -⟩ := hy.s.open
      obtain ⟨b2, j2, rfl, -⟩ := hy.u.open
      obtain ⟨b3, j3, rfl, -⟩ := hy.p.open
      have HB := hid hb
      have y0 : (0 : Int) ≤ (k : Int) := by omega
      have y1 : (k : Int) < (l.length : Int) := by omega
      clear hb hx hy hxe
      go_wp2
      go_region_held3 (fun w' => w'.cell? ⟨b, o + k * 5, none⟩ = some (.string x.name) ∧ w'.cell? ⟨b, o + k * 5 + 1, none⟩ = some (.string x.who) ∧ w'.cell? ⟨b, o + k * 5 + 2, none⟩ = some (.slice a1 x.says.length k1) ∧ w'.cell? ⟨b, o + k * 5 + 3, none⟩ = some (.slice a2 x.uses.length k2) ∧ w'.cell? ⟨b, o + k * 5 + 4, none⟩ = some (.slice a3 x.proof.length k3) ∧
          w'.cell? ⟨b', o' + k * 5, none⟩ = some (.string x.name) ∧ w'.cell? ⟨b', o' + k * 5 + 1, none⟩ = some (.string x.who) ∧ w'.cell? ⟨b', o' + k * 5 + 2, none⟩ = some (.slice b1 x.says.length j1) ∧ w'.cell? ⟨b', o' + k * 5 + 3, none⟩ = some (.slice b2 x.uses.length j2) ∧ w'.cell? ⟨b', o' + k * 5 + 4, none⟩ = some (.slice b3 x.proof.length j3))
        (first | exact ⟨by assumption, by assumption, by assumption, by assumption, by assumption, by assumption, by assumption, by assumption, by assumption, by assumption⟩ | go_keep)
        (first
        | (go_at_call 17; (with_reducible refine (HSE.out _ (Below.refl _ _)).mono ?_); rintro e w5 ⟨rfl, hb5⟩; have hbr5 : Below wr.heap.size wr w5 := hb5; have q0 := (hbr5.cell (World.block_lt_of_cell? _ _ c0)).trans c0; have q1 := (hbr5.cell (World.block_lt_of_cell? _ _ c1)).trans c1; have q2 := (hbr5.cell (World.block_lt_of_cell? _ _ c2)).trans c2; have q3 := (hbr5.cell (World.block_lt_of_cell? _ _ c3)).trans c3; have q4 := (hbr5.cell (World.block_lt_of_cell? _ _ c4)).trans c4; have r0 := (hbr5.cell (World.block_lt_of_cell? _ _ f0)).trans f0; have r1 := (hbr5.cell (World.block_lt_of_cell? _ _ f1)).trans f1; have r2 := (hbr5.cell (World.block_lt_of_cell? _ _ f2)).trans f2; have r3 := (hbr5.cell (World.block_lt_of_cell? _ _ f3)).trans f3; have r4 := (hbr5.cell (World.block_lt_of_cell? _ _ f4)).trans f4)
        | (go_at_call 17; (with_reducible refine (HSE.out _ (Below.drew (Below.refl _ _))).mono ?_); rintro e w5 ⟨rfl, hb5⟩; have hbr5 : Below wr.heap.size wr w5 := (below_self_drew _).trans hb5; have q0 := (hbr5.cell (World.block_lt_of_cell? _ _ c0)).trans c0; have q1 := (hbr5.cell (World.block_lt_of_cell? _ _ c1)).trans c1; have q2 := (hbr5.cell (World.block_lt_of_cell? _ _ c2)).trans c2; have q3 := (hbr5.cell (World.block_lt_of_cell? _ _ c3)).trans c3; have q4 := (hbr5.cell (World.block_lt_of_cell? _ _ c4)).trans c4; have r0 := (hbr5.cell (World.block_lt_of_cell? _ _ f0)).trans f0; have r1 := (hbr5.cell (World.block_lt_of_cell? _ _ f1)).trans f1; have r2 := (hbr5.cell (World.block_lt_of_cell? _ _ f2)).trans f2; have r3 := (hbr5.cell (World.block_lt_of_cell? _ _ f3)).trans f3; have r4 := (hbr5.cell (World.block_lt_of_cell? _ _ f4)).trans f4))
      have HB5 := hid (HB.out.trans (hbr5.mono hsz))
      clear hb5 hbr5 q0 q1 q2 q3 q4 r0 r1 r2 r3 r4 c0 c1 c2 c3 c4 f0 f1 f2 f3 f4
      go_wp2
      go_roundw
      case rel => exact ⟨k + 1, by omega, by go_num, HB5.out⟩
      case measure => simp [intOf]; omega
    · go_wp2
      go_ret
      exact ⟨rfl, hb⟩
set_option maxHeartbeats 4000000 in
set_option maxRecDepth 100000 in
theorem ref8_Added (vs vl vS vU vP : Value) (s : Sg) (l : List En) (x : En) (w : World) (hs : SignAt w vs s) (hl : EntsAt w vl l) (hx : EntAt w vS vU vP x) (hs1 : s.length ≤ 1000) (hl1 : l.length ≤ 1000) :
    Calls Tryz.prog 33 #[vs, vl, .agg #[.string x.name, .string x.who, vS, vU, vP]] w fun e w' => ∃ u, e = .returned (.tuple #[u, .int .i64 (addR s l x).2]) ∧ EntsAt w' u (addR s l x).1 ∧ Below w.heap.size w w' := by
  obtain ⟨xa, xc, rfl, -⟩ := hx.s.open
  obtain ⟨ya, yc, rfl, -⟩ := hx.u.open
  obtain ⟨za, zc, rfl, -⟩ := hx.p.open
  obtain ⟨la, lc, rfl, -, ll, -, HC⟩ := hl.open
  have HC' := hid HC
  have EB0 := EB.new w x (.slice xa x.says.length xc) (.slice ya x.uses.length yc) (.slice za x.proof.length zc) 35
  obtain ⟨W, hW⟩ : ∃ W, w.alloc (.cells #[.string x.name, .string x.who, .slice xa x.says.length xc, .slice ya x.uses.length yc, .slice za x.proof.length zc] 35) = W := ⟨_, rfl⟩
  have hbW : Below w.heap.size w W := hW ▸ (Below.refl _ _).alloc (Nat.le_refl _) _
  rw [hW] at EB0
  have HV := hid (ref6_Valid vs _ s l W (hs.below hbW) (hl.below hbW) hs1 hl1)
  have HVE := hid (fun (X : World) (hX : Below w.heap.size w X) => ref6_ValidEntry vs _ _ _ s x X (hs.below hX) (hx.below hX) hs1)
  have HLL := hid hl
  have HX := hid hx
  have HW := hid hW
  have HEB := hid EB0
  have HBW := hid hbW
  clear hW EB0 hbW hl hs hx HC
  cases g1 : libB s l
  · have HF := hid (addR_1 (l := l) (x := x) (Or.inl g1))
    rw [g1] at HV
    clear g1
    go_enter Tryz.func33, Tryz.ntmps33
    go_wp2_with fail
    rw [HW.out]
    refine HV.out.mono ?_
    rintro e w1 ⟨rfl, hb1⟩
    go_wp2
    go_ret2
    exact ⟨_, by rw [HF.out]; rfl, by rw [HF.out]; exact EntsAt.nil' _, HBW.out.trans (hb1.mono HBW.out.size)⟩
  rw [g1] at HV
  cases g2 : entryB s x
  · have HF := hid (addR_1 (l := l) (x := x) (Or.inr g2))
    simp only [g2] at HVE
    clear g1 g2
    go_enter Tryz.func33, Tryz.ntmps33
    go_wp2_with fail
    rw [HW.out]
    refine HV.out.mono ?_
    rintro e w1 ⟨rfl, hb1⟩
    have hbw1 := HBW.out.trans (hb1.mono HBW.out.size)
    obtain ⟨c0, c1, c2, c3, c4⟩ := HEB.out.below hb1
    have HV1 := hid (HVE.out w1 hbw1)
    go_wp2_with fail
    refine HV1.out.mono ?_
    rintro e w2 ⟨rfl, hb2⟩
    go_wp2
    go_ret2
    exact ⟨_, by rw [HF.out]; rfl, by rw [HF.out]; exact EntsAt.nil' _, hbw1.trans (hb2.mono hbw1.size)⟩
  simp only [g2] at HVE
  have HAR := hid (addR_2 g1 g2)
  have HLIB := hid g1
  have HSM := hid (ent_sm g2)
  have HSL := hid (fun (y : En) (hy : y ∈ l) => ent_sm (entryB_iff.2 ((libB_iff.1 g1).ents y hy)))
  clear g1 g2
  go_enter Tryz.func33, Tryz.ntmps33
  go_wp2_with fail
  rw [HW.out]
  refine HV.out.mono ?_
  rintro e w1 ⟨rfl, hb1⟩
  have hbw1 := HBW.out.trans (hb1.mono HBW.out.size)
  have HV1 := hid (HVE.out w1 hbw1)
  have EB1 := HEB.out.below hb1
  obtain ⟨c0, c1, c2, c3, c4⟩ := EB1
  go_wp2_with fail
  refine HV1.out.mono ?_
  rintro e w2 ⟨rfl, hb2⟩
  have hbw2 := hbw1.trans (hb2.mono hbw1.size)
  have EB2 := (EB.below (x := x) ⟨c0, c1, c2, c3, c4⟩ hb2)
  have HIX := hid (ref6_Index (.slice la l.length lc) l x.name w2 (HLL.out.below hbw2))
  have HEB2 := hid EB2
  have d0 := EB2.c0
  have HB2 := hid hbw2
  clear c0 c1 c2 c3 c4 hb1 hb2 hbw1 hbw2 EB2
  cases g3 : idxN l x.name
  case some i =>
    have HF : Hid (addR s l x = ([], 6)) := hid (by rw [HAR.out, g3]; rfl)
    have hi : idxI l x.name = (i : Int) := by unfold idxI; rw [g3]
    rw [hi] at HIX
    have y0 : (0 : Int) ≤ (i : Int) := by omega
    clear g3 hi
    go_wp2_with (go_at_call 53; refine HIX.out.mono ?_; rintro e w3 ⟨rfl, rfl⟩)
    go_ret2
    exact ⟨_, by rw [HF.out]; rfl, by rw [HF.out]; exact EntsAt.nil' _, HB2.out⟩
  have hi : idxI l x.name = -1 := by unfold idxI; rw [g3]
  rw [hi] at HIX
  by_cases g4 : l.length = 60
  · have HF : Hid (addR s l x = ([], 4)) := hid (by rw [HAR.out, g3, if_neg (by simp), if_pos g4])
    have q4 : ((l.length : Int) == 60) = true := by simp [g4]
    clear g3 g4 hi
    go_wp2_with (go_at_call 53; refine HIX.out.mono ?_; rintro e w3 ⟨rfl, rfl⟩)
    go_ret2
    exact ⟨_, by rw [HF.out]; rfl, by rw [HF.out]; exact EntsAt.nil' _, HB2.out⟩
  have HF : Hid (addR s l x = (l ++ [x], 0)) := hid (by rw [HAR.out, g3, if_neg (by simp), if_neg g4])
  have q4 : ((l.length : Int) == 60) = false := by rw [beq_eq_false_iff_ne]; omega
  have hl60 : l.length ≤ 60 := (libB_iff.1 HLIB.out).len
  clear g3 g4 hi
  go_wp2_with (go_at_call 53; refine HIX.out.mono ?_; rintro e w3 ⟨rfl, rfl⟩)
  rename World => wa
  have h00 := hid (EnS.nil wa wa.heap.size)
  clear d0
  go_loopw [8, 9] (fun u kv wr => ∃ (k : Nat) (vvs : List V3), k ≤ l.length ∧ kv = .int .i64 k ∧ EnS wr wa.heap.size u vvs (l.take k) ∧ Below wa.heap.size wa wr) (fun _ kv _ => l.length - (intOf kv).toNat)
  case atStart => exact ⟨0, [], by omega, rfl, by simpa using h00.out, Below.refl _ _⟩
  case round =>
    clear h00
    obtain ⟨k, vvs, hk, rfl, hE, hb⟩ := hrel
    have hsz := hb.size
    have hbw := HB2.out.trans (hb.mono HB2.out.size)
    by_cases hlt : k < l.length
    · obtain ⟨b, o, yS, yU, yP, rfl, c0, c1, c2, c3, c4, hy⟩ := HC'.out k hlt
      have d0 := (hbw.cell (World.block_lt_of_cell? _ _ c0)).trans c0
      have d1 := (hbw.cell (World.block_lt_of_cell? _ _ c1)).trans c1
      have d2 := (hbw.cell (World.block_lt_of_cell? _ _ c2)).trans c2
      have d3 := (hbw.cell (World.block_lt_of_cell? _ _ c3)).trans c3
      have d4 := (hbw.cell (World.block_lt_of_cell? _ _ c4)).trans c4
      obtain ⟨t0, t1, t2, t3⟩ := HSL.out _ (List.getElem_mem hlt)
      have HTK := hid (show l.take (k + 1) = l.take k ++ [l[k]] from List.take_succ_eq_append_getElem hlt)
      have HLEN : Hid ((l.take k).length = k) := hid (by simp; omega)
      obtain ⟨y, hye⟩ : ∃ y, l[k] = y := ⟨_, rfl⟩
      rw [hye] at d0 d1 hy t0 t1 t2 t3 HTK
      have HCP := hid (ref8_copied yS yU yP y wr (hy.below hbw) t1 t2 t3)
      obtain ⟨p1, q1, rfl, -⟩ := hy.s.open
      obtain ⟨p2, q2, rfl, -⟩ := hy.u.open
      obtain ⟨p3, q3, rfl, -⟩ := hy.p.open
      obtain ⟨L, hL⟩ : ∃ L, l.take k = L := ⟨_, rfl⟩
      rw [hL] at hE HTK HLEN
      have HE := hid hE
      have HB := hid hb
      have y0 : (k : Int) < (l.length : Int) := by omega
      clear c0 c1 c2 c3 c4 hy hye hL hE hb hbw
      go_wp2_with fail
      refine HCP.out.mono ?_
      rintro e w5 ⟨v, rfl, ⟨uS, uU, uP, rfl, hO⟩, hb5⟩
      obtain ⟨a1, k1, rfl⟩ := owns_slice hO.s
      obtain ⟨a2, k2, rfl⟩ := owns_slice hO.u
      obtain ⟨a3, k3, rfl⟩ := owns_slice hO.p
      have HE5 := hid (HE.out.below hb5)
      have HU := hid HE.out.top.lt
      have HO5 := hid hO
      have HB5 := hid (HB.out.trans (hb5.mono hsz))
      have hs5 := HB5.out.size
      have hsr := hb5.size
      have hown2 := HE5.out.top
      rw [HLEN.out] at hown2
      have HOWA := hid (hown2.alloc (.cells #[.string y.name, .string y.who, .slice a1 y.says.length k1, .slice a2 y.uses.length k2, .slice a3 y.proof.length k3] 35))
      have HROW := hid (row_one_ent w5 (.string y.name) (.string y.who) (.slice a1 y.says.length k1) (.slice a2 y.uses.length k2) (.slice a3 y.proof.length k3) 35)
      clear hO hb5 hown2 d0 d1 d2 d3 d4
      go_wp2_with (at_builtin; refine wpList_append_lie rfl _ _ 24 rfl wa.heap.size 35 el_ent Tryz.underlying24 rfl (by decide) u8 k (ensC L vvs) rfl HOWA.out _ 1 (enC y (.slice a1 y.says.length k1, .slice a2 y.uses.length k2, .slice a3 y.proof.length k3)) rfl HROW.out (enC_one _ _ _ _ _ _ _ _ _ _) (by omega) (by omega) (by omega) (by simp; omega) _ rfl ?_; intro g cap w7 hown7 hgrow7 hat7 hlt7)
      go_roundw
      case rel =>
        refine ⟨k + 1, vvs ++ [(.slice a1 y.says.length k1, .slice a2 y.uses.length k2, .slice a3 y.proof.length k3)], by omega, by go_num, ?_, (HB5.out.alloc hs5 _).grown hgrow7 (by simp; omega) (fun q hq => (HU.out q hq).1)⟩
        rw [HTK.out]
        exact HE5.out.push (w1 := w5.alloc _) ((Below.refl _ _).alloc (Nat.le_refl _) _) (fun W' hW' => (HO5.out.blocks (base' := 0) (Nat.zero_le _) fun q h1 h2 => (hW' q (by simp; omega) (fun e => by
          have := (HU.out q e.symm).2
          omega)).trans (Below.heap_alloc _ _ _ h2)).ent) HLEN.out.symm hown7 hgrow7 rfl hat7
      case measure => simp [intOf]; omega
    · have hkl : k = l.length := by omega
      subst hkl
      rw [List.take_of_length_le (Nat.le_refl _)] at hE
      obtain ⟨c0, c1, c2, c3, c4⟩ := HEB2.out.below hb
      have HCP := hid (ref8_copied (.slice xa x.says.length xc) (.slice ya x.uses.length yc) (.slice za x.proof.length zc) x wr (HX.out.below hbw) HSM.out.2.1 HSM.out.2.2.1 HSM.out.2.2.2)
      have HE := hid hE
      have HB := hid hb
      clear hE hb hbw
      go_wp2_with fail
      refine HCP.out.mono ?_
      rintro e w5 ⟨v, rfl, ⟨uS, uU, uP, rfl, hO⟩, hb5⟩
      obtain ⟨a1, k1, rfl⟩ := owns_slice hO.s
      obtain ⟨a2, k2, rfl⟩ := owns_slice hO.u
      obtain ⟨a3, k3, rfl⟩ := owns_slice hO.p
      have HE5 := hid (HE.out.below hb5)
      have HU := hid HE.out.top.lt
      have HO5 := hid hO
      have HB5 := hid (HB.out.trans (hb5.mono hsz))
      have hs5 := HB5.out.size
      have hsr := hb5.size
      have HOWA := hid (HE5.out.top.alloc (.cells #[.string x.name, .string x.who, .slice a1 x.says.length k1, .slice a2 x.uses.length k2, .slice a3 x.proof.length k3] 35))
      have HROW := hid (row_one_ent w5 (.string x.name) (.string x.who) (.slice a1 x.says.length k1) (.slice a2 x.uses.length k2) (.slice a3 x.proof.length k3) 35)
      clear hO hb5 c0 c1 c2 c3 c4
      go_wp2_with (at_builtin; refine wpList_append_lie rfl _ _ 24 rfl wa.heap.size 35 el_ent Tryz.underlying24 rfl (by decide) u8 l.length (ensC l vvs) rfl HOWA.out _ 1 (enC x (.slice a1 x.says.length k1, .slice a2 x.uses.length k2, .slice a3 x.proof.length k3)) rfl HROW.out (enC_one _ _ _ _ _ _ _ _ _ _) (by omega) (by omega) (by omega) (by simp; omega) _ rfl ?_; intro g cap w7 hown7 hgrow7 hat7 hlt7)
      have hE7 := HE5.out.push (w1 := w5.alloc _) ((Below.refl _ _).alloc (Nat.le_refl _) _) (fun W' hW' => (HO5.out.blocks (base' := 0) (Nat.zero_le _) fun q h1 h2 => (hW' q (by simp; omega) (fun e => by
          have := (HU.out q e.symm).2
          omega)).trans (Below.heap_alloc _ _ _ h2)).ent) rfl hown7 hgrow7 rfl hat7
      have HEN : Hid (EntsAt w7 (.slice (some ⟨g, 0, none⟩) (l.length + 1) cap) (l ++ [x])) := hid ⟨_, hE7.ents (by simp; omega)⟩
      have HB7 : Hid (Below w.heap.size w w7) := hid (HB2.out.trans (((HB5.out.alloc hs5 _).grown hgrow7 (by simp; omega) (fun q hq => (HU.out q hq).1)).mono HB2.out.size))
      clear hE7 hown7 hgrow7 hat7 hlt7
      go_wp2
      go_ret2
      exact ⟨_, by rw [HF.out]; rfl, by rw [HF.out]; exact HEN.out, HB7.out⟩
end Go.Proofs.YtpflkjldapmgdaaGreat
