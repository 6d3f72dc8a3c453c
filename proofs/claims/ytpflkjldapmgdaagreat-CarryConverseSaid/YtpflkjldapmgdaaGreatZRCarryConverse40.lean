/-
  WHAT IT HOLDS: the contract of Added of package carry. Conditions: the arguments read as data; small signs, small libraries.
  WHAT IT HOLDS: contract of the iterator that pairs of package carry hands back, and of pairs. Conditions: the arguments read as data.
-/
import Derived.Test.YtpflkjldapmgdaaGreatZRCarryConverse39
import Derived.Test.YtpflkjldapmgdaaGreatZRCarryConverse36
import Derived.Test.YtpflkjldapmgdaaGreatZRCarryConverse6
import Derived.Test.YtpflkjldapmgdaaGreatZRCarryConverse29
namespace Go.Proofs.YtpflkjldapmgdaaGreat
open Go Go.RowKit Go.Maps
theorem EB.block {w w' : World} {b : Nat} {x : En} {vS vU vP : Value} (h : EB w b x vS vU vP) (hb : w'.heap[b]? = w.heap[b]?) : EB w' b x vS vU vP :=
  ⟨(World.cell?_of_block hb).trans h.c0, (World.cell?_of_block hb).trans h.c1, (World.cell?_of_block hb).trans h.c2, (World.cell?_of_block hb).trans h.c3, (World.cell?_of_block hb).trans h.c4⟩
theorem carry_Added1 (p : Nat) (x y : En) (vS vU vP uS uU uP : Value) (w : World) (hE : EB w p x uS uU uP) :
    Calls Tryz.prog 59 #[.agg #[.string y.name, .string y.who, vS, vU, vP], .pointer (some ⟨p, 0, none⟩)] w fun e w' => e = .returned (.bool (decide (y.name = x.name))) ∧ Below w.heap.size w w' := by
  have c0 := hE.c0
  have HB := hid (show Below w.heap.size w (w.alloc (.cells #[.string y.name, .string y.who, vS, vU, vP] 35)) from (Below.refl _ _).alloc (Nat.le_refl _) _)
  have hlt : p < w.heap.size := World.block_lt_of_cell? _ _ c0
  by_cases h : y.name = x.name
  · have q : (y.name.toList == x.name.toList) = true := by rw [bytes_eq]; simpa using h
    have HF := hid (decide_eq_true h)
    clear h
    go_enter Tryz.func59, Tryz.ntmps59
    go_wp2
    go_ret
    exact ⟨ret_bool HF.out.symm, HB.out⟩
  · have q : (y.name.toList == x.name.toList) = false := by rw [bytes_eq]; simpa using h
    have HF := hid (decide_eq_false h)
    clear h
    go_enter Tryz.func59, Tryz.ntmps59
    go_wp2
    go_ret
    exact ⟨ret_bool HF.out.symm, HB.out⟩
theorem carry_Added2 (y : En) (v : Value) (B : Nat) (w : World) (hB : B ≤ w.heap.size) (hO : EnO w B v y) :
    Calls Tryz.prog 61 #[v] w fun e w' => ∃ v', e = .returned v' ∧ EnO w' B v' y ∧ Below B w w' := by
  obtain ⟨vS, vU, vP, rfl, hO⟩ := hO
  obtain ⟨a1, k1, rfl⟩ := owns_slice hO.s
  obtain ⟨a2, k2, rfl⟩ := owns_slice hO.u
  obtain ⟨a3, k3, rfl⟩ := owns_slice hO.p
  have HO := hid hO
  clear hO
  go_enter Tryz.func61, Tryz.ntmps61
  go_wp2
  (try simp only [Exit.inBlock, Exit.then])
  refine bodyPost_ret (v := .agg #[.string y.name, .string y.who, .slice a1 y.says.length k1, .slice a2 y.uses.length k2, .slice a3 y.proof.length k3]) ?_ rfl ?_
  · simp only [results, Tryz.results61]
    go_simp
  · have h2 := ((Below.refl w.heap.size w).alloc (Nat.le_refl _) (.cells #[.string y.name, .string y.who, .slice a1 y.says.length k1, .slice a2 y.uses.length k2, .slice a3 y.proof.length k3] 35)).alloc (by simp) (.cells #[.string y.name, .string y.who, .slice a1 y.says.length k1, .slice a2 y.uses.length k2, .slice a3 y.proof.length k3] 35)
    exact ⟨_, rfl, ⟨_, _, _, rfl, HO.out.blocks (Nat.le_refl _) fun q _ hq => h2.block q hq⟩, h2.mono hB⟩
/-- what Added answers. -/
def addR (s : Sg) (l : List En) (x : En) : List En × Int := if libB s l && entryB s x then (if (idxN l x.name).isSome then ([], 6) else if l.length = 60 then ([], 4) else (l ++ [x], 0)) else ([], 1)
theorem addR_1 {s : Sg} {l : List En} {x : En} (h : libB s l = false ∨ entryB s x = false) : addR s l x = ([], 1) := by
  unfold addR; rcases h with h | h <;> simp [h]
theorem addR_2 {s : Sg} {l : List En} {x : En} (h1 : libB s l = true) (h2 : entryB s x = true) : addR s l x = if (idxN l x.name).isSome then ([], 6) else if l.length = 60 then ([], 4) else (l ++ [x], 0) := by
  unfold addR; rw [h1, h2]; rfl
theorem names_any (l : List En) (n : Nm) (p : Nat → Bool) (hp : ∀ i (h : i < l.length), p i = decide (l[i].name = n)) : (List.range l.length).any p = (idxN l n).isSome := by
  rw [Bool.eq_iff_iff, List.any_eq_true]
  constructor
  · rintro ⟨i, hi, h⟩
    have hi := List.mem_range.1 hi
    rw [hp i hi, decide_eq_true_eq] at h
    cases e : idxN l n with
    | some _ => rfl
    | none => exact absurd h (idxN_none e _ (List.getElem_mem hi))
  · intro h
    obtain ⟨i, hi⟩ := Option.isSome_iff_exists.1 h
    obtain ⟨h1, h2⟩ := idxN_some hi
    exact ⟨i, List.mem_range.2 h1, by rw [hp i h1]; simpa using h2⟩
theorem ent_sm {s : Sg} {x : En} (h : entryB s x = true) : EnSm x := by
  have h1 := entryB_iff.1 h
  have h2 := h1.len
  have h3 := (termB_T h1.says).ne
  have h4 := (termB_facts h1.says).2.2.2
  refine ⟨h3, by omega, by omega, ?_⟩
  by_cases h0 : x.proof.length = 0
  · omega
  · have := proof60 (h1.proof h0); omega
theorem EntsAt.nil' (w : World) : EntsAt w (.slice none 0 0) [] := EntsAt.nil w
set_option maxHeartbeats 4000000 in
set_option maxRecDepth 100000 in
theorem carry_Added (vs vl vS vU vP : Value) (s : Sg) (l : List En) (x : En) (w : World) (hs : SignAt w vs s) (hl : EntsAt w vl l) (hx : EntAt w vS vU vP x) (hs1 : s.length ≤ 1000) (hl1 : l.length ≤ 1000) :
    Calls Tryz.prog 18 #[vs, vl, .agg #[.string x.name, .string x.who, vS, vU, vP]] w fun e w' => ∃ u, e = .returned (.tuple #[u, .int .i64 (addR s l x).2]) ∧ EntsAt w' u (addR s l x).1 ∧ Below w.heap.size w w' := by
  obtain ⟨xa, xc, rfl, -⟩ := hx.s.open
  obtain ⟨ya, yc, rfl, -⟩ := hx.u.open
  obtain ⟨za, zc, rfl, -⟩ := hx.p.open
  obtain ⟨la, lc, rfl, -, ll, -⟩ := hl.open
  have EB0 := EB.new w x (.slice xa x.says.length xc) (.slice ya x.uses.length yc) (.slice za x.proof.length zc) 35
  obtain ⟨W, hW⟩ : ∃ W, w.alloc (.cells #[.string x.name, .string x.who, .slice xa x.says.length xc, .slice ya x.uses.length yc, .slice za x.proof.length zc] 35) = W := ⟨_, rfl⟩
  have hbW : Below w.heap.size w W := hW ▸ (Below.refl _ _).alloc (Nat.le_refl _) _
  rw [hW] at EB0
  have HV := hid (deps_Valid vs _ s l W (hs.below hbW) (hl.below hbW) hs1 hl1)
  have HVE := hid (fun (X : World) (hX : Below w.heap.size w X) => deps_ValidEntry vs _ _ _ s x X (hs.below hX) (hx.below hX) hs1)
  have HLL := hid hl
  have HX := hid hx
  have HW := hid hW
  have HEB := hid EB0
  have HBW := hid hbW
  clear hW EB0 hbW hl hs hx
  cases g1 : libB s l
  · have HF := hid (addR_1 (l := l) (x := x) (Or.inl g1))
    rw [g1] at HV
    clear g1
    go_enter Tryz.func18, Tryz.ntmps18
    go_wp2_with fail
    rw [HW.out]
    refine HV.out.mono ?_
    rintro e w1 ⟨rfl, hb1⟩
    go_wp2
    go_ret2
    exact ⟨_, by rw [HF.out]; rfl, by rw [HF.out]; exact EntsAt.nil' _, HBW.out.trans (hb1.mono HBW.out.size)⟩
  rw [g1] at HV
  cases g2 : entryB s x
  · have HF := hid (addR_1 (l := l) (x := x) (Or.inr g2))
    simp only [g2] at HVE
    clear g1 g2
    go_enter Tryz.func18, Tryz.ntmps18
    go_wp2_with fail
    rw [HW.out]
    refine HV.out.mono ?_
    rintro e w1 ⟨rfl, hb1⟩
    have hbw1 := HBW.out.trans (hb1.mono HBW.out.size)
    obtain ⟨c0, c1, c2, c3, c4⟩ := HEB.out.below hb1
    have HV1 := hid (HVE.out w1 hbw1)
    go_wp2_with fail
    refine HV1.out.mono ?_
    rintro e w2 ⟨rfl, hb2⟩
    go_wp2
    go_ret2
    exact ⟨_, by rw [HF.out]; rfl, by rw [HF.out]; exact EntsAt.nil' _, hbw1.trans (hb2.mono hbw1.size)⟩
  simp only [g2] at HVE
  have HAR := hid (addR_2 g1 g2)
  have HLIB := hid g1
  have HSM := hid (ent_sm g2)
  have HSL := hid (fun (y : En) (hy : y ∈ l) => ent_sm (entryB_iff.2 ((libB_iff.1 g1).ents y hy)))
  clear g1 g2
  go_enter Tryz.func18, Tryz.ntmps18
  go_wp2_with fail
  rw [HW.out]
  refine HV.out.mono ?_
  rintro e w1 ⟨rfl, hb1⟩
  have hbw1 := HBW.out.trans (hb1.mono HBW.out.size)
  have HV1 := hid (HVE.out w1 hbw1)
  have EB1 := HEB.out.below hb1
  obtain ⟨c0, c1, c2, c3, c4⟩ := EB1
  go_wp2_with fail
  refine HV1.out.mono ?_
  rintro e w2 ⟨rfl, hb2⟩
  have hbw2 := hbw1.trans (hb2.mono hbw1.size)
  have EB2 := (EB.below (x := x) ⟨c0, c1, c2, c3, c4⟩ hb2)
  have HCF := hid (sl_ContainsFunc_ents 59 #[.pointer (some ⟨w.heap.size, 0, none⟩)] (enters_of Tryz.func59 (by kernel_rfl) rfl) (.slice la l.length lc) l w2 (HLL.out.below hbw2) (fun i => decide ((l.getD i en0).name = x.name)) (by
    intro i hi vs vu vp X hX _
    have e1 : l.getD i en0 = l[i] := by rw [List.getD_eq_getElem?_getD, List.getElem?_eq_getElem hi]; rfl
    simp only [e1]
    exact carry_Added1 w.heap.size x l[i] vs vu vp _ _ _ X (EB2.below hX)))
  rw [names_any l x.name _ (fun i h => by rw [List.getD_eq_getElem?_getD, List.getElem?_eq_getElem h]; rfl)] at HCF
  have HEB2 := hid EB2
  have HB2 := hid hbw2
  clear c0 c1 c2 c3 c4 hb1 hb2 hbw1 hbw2 EB2
  go_wp2_with fail
  refine HCF.out.mono ?_
  rintro e w3 ⟨rfl, hb3⟩
  have hbw3 := HB2.out.trans (hb3.mono HB2.out.size)
  have HEB3 := hid (HEB2.out.below hb3)
  cases g3 : (idxN l x.name).isSome
  case true =>
    have HF : Hid (addR s l x = ([], 6)) := hid (by rw [HAR.out, g3]; rfl)
    clear g3
    go_wp2
    go_ret2
    exact ⟨_, by rw [HF.out]; rfl, by rw [HF.out]; exact EntsAt.nil' _, hbw3⟩
  by_cases g4 : l.length = 60
  · have HF : Hid (addR s l x = ([], 4)) := hid (by rw [HAR.out, g3, if_neg (by simp), if_pos g4])
    have q4 : ((l.length : Int) == 60) = true := by simp [g4]
    clear g3 g4
    go_wp2
    go_ret2
    exact ⟨_, by rw [HF.out]; rfl, by rw [HF.out]; exact EntsAt.nil' _, hbw3⟩
  have HF : Hid (addR s l x = (l ++ [x], 0)) := hid (by rw [HAR.out, g3, if_neg (by simp), if_neg g4])
  have q4 : ((l.length : Int) == 60) = false := by rw [beq_eq_false_iff_ne]; omega
  have HB3 := hid hbw3
  have HL60 : Hid (l.length ≤ 60) := hid (libB_iff.1 HLIB.out).len
  have HEA := hid (fun (X : World) (hX : Below w3.heap.size w3 X) => carry_each 61 #[] (enters_of Tryz.func61 (by kernel_rfl) rfl) (.slice la l.length lc) l id X ((HLL.out.below hbw3).below hX) hl1 HSL.out (fun i h W v B _ hB _ hO => carry_Added2 l[i] v B W hB hO))
  have HCP := hid (fun (X : World) (hX : Below w3.heap.size w3 X) => carry_copied (.slice xa x.says.length xc) (.slice ya x.uses.length yc) (.slice za x.proof.length zc) x X ((HX.out.below hbw3).below hX) HSM.out.1 HSM.out.2.1 HSM.out.2.2.1 HSM.out.2.2.2)
  obtain ⟨c0, c1, c2, c3, c4⟩ := HEB3.out
  have d0 := c0
  clear g3 g4 hb3 hbw3 HEB HEB2 HEB3
  go_wp2
  have hbZ : Below w3.heap.size w3 w3 := Below.refl _ _
  refine wp_region_held_drew (S := fun w' => w'.cell? ⟨w.heap.size, 0, none⟩ = some (.string x.name) ∧ w'.cell? ⟨w.heap.size, 1, none⟩ = some (.string x.who) ∧ w'.cell? ⟨w.heap.size, 2, none⟩ = some (.slice xa x.says.length xc) ∧ w'.cell? ⟨w.heap.size, 3, none⟩ = some (.slice ya x.uses.length yc) ∧ w'.cell? ⟨w.heap.size, 4, none⟩ = some (.slice za x.proof.length zc)) (by kernel_rfl) ?_ (fun hHeld => ?_)
  · exact ⟨c0, c1, c2, c3, c4⟩
  refine wpAnyH_take (i := 0) (oi := { dst := some 27, op := Op.move (Operand.tmp 1), type := 24, pos := _, after := _, guard := none }) (v := ?_) rfl (by kernel_rfl) (by kernel_rfl) (by kernel_rfl) (fun _ _ _ h => h) (Or.inl ⟨by rfl, ?_⟩) hHeld ?_
  rotate_left
  · (intro w hSw; (try dsimp only at hSw); go_simp; (try with_reducible rfl))
  (try simp only [Act.put, List.setIfInBounds_toArray, List.set_cons_zero, List.set_cons_succ])
  refine wpAnyH_take (i := 2) (oi := { dst := some 29, op := Op.load 35 (Operand.tmp 5), type := 35, pos := _, after := _, guard := none }) (v := ?_) rfl (by kernel_rfl) (by kernel_rfl) (by kernel_rfl) (fun _ _ _ h => h) (Or.inl ⟨by rfl, ?_⟩) hHeld ?_
  rotate_left
  · (intro w hSw; (try dsimp only at hSw); go_simp; (try with_reducible rfl))
  (try simp only [Act.put, List.setIfInBounds_toArray, List.set_cons_zero, List.set_cons_succ])
  refine wpAnyH_ready (rs := [1]) (by kernel_rfl) (by simp) ?_
  refine AllReadyH.cons (o := { dst := some 28, op := Op.call { callee := Callee.value (Operand.func 60), args := #[Operand.tmp 27, Operand.func 61], argTypes := #[24, 87] }, type := 24, pos := _, after := _, guard := none }) rfl (fun K hK => ?_) AllReadyH.nil
  (try go_simp)
  (go_at_call 60; refine (HEA.out _ (by first | exact hbZ | exact hbZ.drew | exact below_drewN hbZ _)).mono ?_; rintro e wz ⟨ue, vvs, rfl, hE0, hb1⟩; have hbZ := Below.trans (show Below w3.heap.size w3 _ from (by first | exact hbZ | exact hbZ.drew | exact below_drewN hbZ _)) (hb1.mono (by first | exact hbZ.size | (simp; exact hbZ.size))); obtain ⟨c0, c1, c2, c3, c4⟩ := EB.below (x := x) ⟨c0, c1, c2, c3, c4⟩ hbZ; rw [List.map_id] at hE0; have hE0 : EnS wz w3.heap.size ue vvs l := hE0; obtain ⟨ea, ec, rfl⟩ := hE0.slice)
  refine hK.out _ _ ?_ (fun hHeld => ?_)
  · exact ⟨c0, c1, c2, c3, c4⟩
  clear hK K
  (try simp only [Act.put, List.setIfInBounds_toArray, List.set_cons_zero, List.set_cons_succ])
  refine wpAnyH_ready (rs := [3]) (by kernel_rfl) (by simp) ?_
  refine AllReadyH.cons (o := { dst := some 30, op := Op.call { callee := Callee.value (Operand.func 62), args := #[Operand.tmp 29], argTypes := #[35] }, type := 35, pos := _, after := _, guard := none }) rfl (fun K hK => ?_) AllReadyH.nil
  (try go_simp)
  (go_at_call 62; refine (HCP.out _ hbZ).mono ?_; rintro e wc ⟨vc, rfl, ⟨uS, uU, uP, rfl, hO⟩, hb2⟩; have hE2 := hE0.below hb2; have hbY := hbZ.trans (hb2.mono hbZ.size); obtain ⟨c0, c1, c2, c3, c4⟩ := EB.below (x := x) ⟨c0, c1, c2, c3, c4⟩ hb2; obtain ⟨a1, k1, rfl⟩ := owns_slice hO.s; obtain ⟨a2, k2, rfl⟩ := owns_slice hO.u; obtain ⟨a3, k3, rfl⟩ := owns_slice hO.p)
  refine hK.out _ _ ?_ (fun hHeld => ?_)
  · exact ⟨c0, c1, c2, c3, c4⟩
  clear hK K
  (try simp only [Act.put, List.setIfInBounds_toArray, List.set_cons_zero, List.set_cons_succ])
  refine wpAnyH_ready (rs := [4]) (by kernel_rfl) (by simp) ?_
  refine AllReadyH.cons (o := { dst := some 31, op := Op.buildSlice 24 1 #[(0, Operand.tmp 30)], type := 24, pos := _, after := _, guard := none }) rfl (fun K hK => ?_) AllReadyH.nil
  (try go_simp)
  (have hbA : Below wc.heap.size wc (wc.alloc (.cells #[.string x.name, .string x.who, .slice a1 x.says.length k1, .slice a2 x.uses.length k2, .slice a3 x.proof.length k3] 35)) := (Below.refl _ _).alloc (Nat.le_refl _) _; obtain ⟨c0, c1, c2, c3, c4⟩ := EB.below (x := x) ⟨c0, c1, c2, c3, c4⟩ hbA; have HROW := row_one_ent wc (.string x.name) (.string x.who) (.slice a1 x.says.length k1) (.slice a2 x.uses.length k2) (.slice a3 x.proof.length k3) 35; have hownA := hE2.top.alloc (.cells #[.string x.name, .string x.who, .slice a1 x.says.length k1, .slice a2 x.uses.length k2, .slice a3 x.proof.length k3] 35))
  refine hK.out _ _ ?_ (fun hHeld => ?_)
  · exact ⟨c0, c1, c2, c3, c4⟩
  clear hK K
  (try simp only [Act.put, List.setIfInBounds_toArray, List.set_cons_zero, List.set_cons_succ])
  refine wpAnyH_ready (rs := [5]) (by kernel_rfl) (by simp) ?_
  refine AllReadyH.cons (o := { dst := some 32, op := Op.call { callee := Callee.builtin Builtin.append, args := #[Operand.tmp 28, Operand.tmp 31], argTypes := #[24, 24] }, type := 24, pos := _, after := _, guard := none }) rfl (fun K hK => ?_) AllReadyH.nil
  (refine step_append_lie rfl (.tmp 28) (.tmp 31) 24 rfl w3.heap.size 35 el_ent Tryz.underlying24 rfl (by decide) _ l.length (ensC l vvs) rfl hownA _ 1 (enC x (.slice a1 x.says.length k1, .slice a2 x.uses.length k2, .slice a3 x.proof.length k3)) rfl HROW (enC_one _ _ _ _ _ _ _ _ _ _) (by omega) (by omega) (by omega) (by have := hbY.size; simp; omega) _ rfl ?_; intro g cap w4 hown4 hgrow4 hat4 hlt4; have hpw : w.heap.size < w3.heap.size := World.block_lt_of_cell? _ _ d0; obtain ⟨c0, c1, c2, c3, c4⟩ := EB.block (x := x) ⟨c0, c1, c2, c3, c4⟩ (hgrow4.block w.heap.size (by have := hbY.size; simp; omega) (fun e => by have := (hE2.top.lt w.heap.size e.symm).1; omega)))
  refine hK.out _ _ ?_ (fun hHeld => ?_)
  · exact ⟨c0, c1, c2, c3, c4⟩
  clear hK K
  (try simp only [Act.put, List.setIfInBounds_toArray, List.set_cons_zero, List.set_cons_succ])
  refine wpAnyH_take (i := 6) (oi := { dst := some 6, op := Op.assign (Operand.tmp 32), type := 24, pos := _, after := _, guard := none }) (v := ?_) rfl (by kernel_rfl) (by kernel_rfl) (by kernel_rfl) (fun _ _ _ h => h) (Or.inl ⟨by rfl, ?_⟩) hHeld ?_
  rotate_left
  · (intro w hSw; (try dsimp only at hSw); go_simp; (try with_reducible rfl))
  (try simp only [Act.put, List.setIfInBounds_toArray, List.set_cons_zero, List.set_cons_succ])
  refine wpAnyH_take (i := 7) (oi := { dst := some 7, op := Op.assign (Operand.const (Value.int IntKind.i64 0)), type := 29, pos := _, after := _, guard := none }) (v := ?_) rfl (by kernel_rfl) (by kernel_rfl) (by kernel_rfl) (fun _ _ _ h => h) (Or.inl ⟨by rfl, ?_⟩) hHeld ?_
  rotate_left
  · (intro w hSw; (try dsimp only at hSw); go_simp; (try with_reducible rfl))
  (try simp only [Act.put, List.setIfInBounds_toArray, List.set_cons_zero, List.set_cons_succ])
  refine wpAnyH_done (by kernel_rfl) ?_ _
  have hE4 := hE2.push (w1 := wc.alloc (.cells #[.string x.name, .string x.who, .slice a1 x.says.length k1, .slice a2 x.uses.length k2, .slice a3 x.proof.length k3] 35)) ((Below.refl _ _).alloc (Nat.le_refl _) _) (x := x) (v := (.slice a1 x.says.length k1, .slice a2 x.uses.length k2, .slice a3 x.proof.length k3)) (fun W' hW' => (hO.blocks (base' := 0) (Nat.zero_le _) fun q h1 h2 => (hW' q (by simp; omega) (fun e => by
    have := (hE0.top.lt q e.symm).2
    omega)).trans (Below.heap_alloc _ _ _ h2)).ent) rfl hown4 hgrow4 rfl hat4
  have HEN : Hid (EntsAt w4 (.slice (some ⟨g, 0, none⟩) (l.length + 1) cap) (l ++ [x])) := hid ⟨_, hE4.ents (by simp; have := HL60.out; omega)⟩
  have HB4 : Hid (Below w.heap.size w w4) := hid (((HB3.out.trans (hbY.mono HB3.out.size)).alloc (by have := hbY.size; have := HB3.out.size; omega) _).grown hgrow4 (by have := hbY.size; have := HB3.out.size; simp; omega) (fun q hq => by have := (hE2.top.lt q hq).1; omega))
  clear hE4 hE2 hE0 hO hown4 hgrow4 hat4 hlt4 hbA HROW hownA hbY hbZ hb1 hb2 hHeld c0 c1 c2 c3 c4 d0
  go_wp2
  go_ret2
  exact ⟨_, by rw [HF.out]; rfl, by rw [HF.out]; exact HEN.out, HB4.out⟩
end Go.Proofs.YtpflkjldapmgdaaGreat
namespace Go.Proofs.YtpflkjldapmgdaaGreat
open Go Go.RowKit Go.Maps Go.Shelf
attribute [local go_sem] Oper.semAt_some
/-- an entry with its three slices, as the iterator yields it. -/
abbrev VE := V3 × En
def veV (x : VE) : Value := .agg #[.string x.2.name, .string x.2.who, x.1.1, x.1.2.1, x.1.2.2]
def veAt (W : World) (x : VE) : Prop := EntAt W x.1.1 x.1.2.1 x.1.2.2 x.2
abbrev PE := VE × VE
def pqX (x : PE) : Array Value := #[veV x.1, veV x.2]
def pqN (x : PE) : En × En := (x.1.2, x.2.2)
/-- what the iterator promises of the two entries: they read in the world wb. -/
def pqE (wb : World) (l : List En) (pre : List PE) (x : PE) (_ : Nat → Prop) (_ : World) : Prop := pre.length < l.length * l.length ∧ x.1.2 ∈ l ∧ x.2.2 ∈ l ∧ veAt wb x.1 ∧ veAt wb x.2
theorem prs_len {l : List En} {x : En} {k j : Nat} (hk : k < l.length) (hj : j < l.length) {pre : List PE} (h : pre.map pqN = ((l.take k).flatMap fun x => l.map fun y => (x, y)) ++ (l.take j).map (fun y => (x, y))) : pre.length < l.length * l.length := by
  have h1 := congrArg List.length h
  have h2 : ∀ m : List En, (m.flatMap fun x => l.map fun y => (x, y)).length = m.length * l.length := by
    intro m
    induction m with
    | nil => simp
    | cons y m ih => rw [List.flatMap_cons, List.length_append, ih, List.length_map, List.length_cons, Nat.add_mul]; omega
  rw [List.length_append, h2, List.length_map, List.length_map, List.length_take, List.length_take, Nat.min_eq_left (by omega), Nat.min_eq_left (by omega)] at h1
  have h3 : (k + 1) * l.length ≤ l.length * l.length := Nat.mul_le_mul_right _ hk
  rw [Nat.add_mul] at h3
  omega
set_option maxHeartbeats 4000000 in
set_option maxRecDepth 100000 in
theorem pairs_seq (bx : Nat) (v : Value) (l : List En) (wb w0 : World) (hv : EntsAt wb v l) (hb : Below wb.heap.size wb w0) (hc : w0.cell? ⟨bx, 0, none⟩ = some v) :
    SeqG Tryz.prog 148 #[.pointer (some ⟨bx, 0, none⟩)] pqX (pqE wb l) (fun xs => xs.map pqN = prsL l) (fun k => k < wb.heap.size ∨ k = bx) w0 := fun l' J Jx M0 W hW hM0 hJ hJx hY h0 => by
  have c1 := (hW.cell (World.block_lt_of_cell? _ _ hc)).trans hc
  have hbW := hb.trans (hW.mono hb.size)
  refine callsIn_of_wp Tryz.func148 rfl trivial ?_ rfl
  simp only [Tryz.ntmps148, List.size_toArray, List.length_cons, List.length_nil, Nat.reduceAdd, Nat.reduceSub, Array.replicate_succ, Array.replicate_zero, List.push_toArray, List.append_toArray, List.nil_append, List.cons_append]
  have HJ := hid hJ
  have HY := hid hY
  clear hJ hJx hY
  obtain ⟨la, lc, rfl, -, ll, -, HC⟩ := hv.open
  have HC' := hid HC
  have hl1 : bx < W.heap.size := World.block_lt_of_cell? _ _ c1
  have HST : Hid (J [] M0 W ∧ (∀ q, M0 q → wb.heap.size ≤ q ∧ q ≠ bx ∧ q < W.heap.size) ∧ Below wb.heap.size wb W ∧ W.cell? ⟨bx, 0, none⟩ = some (.slice la l.length lc)) :=
    hid ⟨h0, fun q hq => by
      have := hM0 q hq
      exact ⟨by have h := this.1; omega, fun h => this.1 (Or.inr h), this.2⟩, hbW, c1⟩
  clear HC hv h0 hM0 hW hb hc hbW
  gi_wp2
  clear c1
  gi_loopw [9] (fun kv wr => ∃ (k : Nat) (pre : List PE) (M : Nat → Prop), k ≤ l.length ∧ kv = .int .i64 k ∧ pre.map pqN = ((l.take k).flatMap fun x => l.map fun y => (x, y)) ∧ (J pre M wr ∧ (∀ q, M q → wb.heap.size ≤ q ∧ q ≠ bx ∧ q < wr.heap.size) ∧ Below wb.heap.size wb wr ∧ wr.cell? ⟨bx, 0, none⟩ = some (.slice la l.length lc))) (fun kv _ => l.length - (intOf kv).toNat)
  case atStart => exact ⟨0, [], M0, by omega, rfl, rfl, HST.out⟩
  case round =>
    clear HST
    rename World => w1
    obtain ⟨k, pre, M, hk, rfl, hpre, hJ1, hM1, hbr, cx⟩ := hrel
    have hsz := hbr.size
    have hbl := World.block_lt_of_cell? _ _ cx
    by_cases hlt : k < l.length
    · obtain ⟨b, o, vS, vu, vp, rfl, c0, c1, c2, c3, c4, he⟩ := HC'.out k hlt
      obtain ⟨sa, sc, rfl, -⟩ := he.s.open
      obtain ⟨ua, uc, rfl, -⟩ := he.u.open
      obtain ⟨pa, pc, rfl, -⟩ := he.p.open
      have d0 := (hbr.cell (World.block_lt_of_cell? _ _ c0)).trans c0
      have d1 := (hbr.cell (World.block_lt_of_cell? _ _ c1)).trans c1
      have d2 := (hbr.cell (World.block_lt_of_cell? _ _ c2)).trans c2
      have d3 := (hbr.cell (World.block_lt_of_cell? _ _ c3)).trans c3
      have d4 := (hbr.cell (World.block_lt_of_cell? _ _ c4)).trans c4
      have HXM := hid (List.getElem_mem hlt)
      have HNX : Hid (((l.take (k + 1)).flatMap fun x => l.map fun y => (x, y)) = ((l.take k).flatMap fun x => l.map fun y => (x, y)) ++ l.map fun y => (l[k], y)) := hid (by rw [List.take_succ_eq_append_getElem hlt, List.flatMap_append]; simp)
      have HPRE := hid hpre
      obtain ⟨x, hx⟩ : ∃ x, l[k] = x := ⟨_, rfl⟩
      rw [hx] at d0 d1 d2 d3 d4 he HXM HNX
      have HE := hid he
      have EB0 := EB.new w1 x (.slice sa x.says.length sc) (.slice ua x.uses.length uc) (.slice pa x.proof.length pc) 35
      obtain ⟨wa, hwa⟩ : ∃ wa, w1.alloc (.cells #[.string x.name, .string x.who, .slice sa x.says.length sc, .slice ua x.uses.length uc, .slice pa x.proof.length pc] 35) = wa := ⟨_, rfl⟩
      have hba : Below w1.heap.size w1 wa := hwa ▸ (Below.refl _ _).alloc (Nat.le_refl _) _
      have hsa : wa.heap.size = w1.heap.size + 1 := by rw [← hwa]; simp
      rw [hwa] at EB0
      have HST : Hid (J pre M wa ∧ (∀ q, M q → wb.heap.size ≤ q ∧ q ≠ bx ∧ q ≠ w1.heap.size ∧ q < wa.heap.size) ∧ Below wb.heap.size wb wa ∧ wa.cell? ⟨bx, 0, none⟩ = some (.slice (some ⟨b, o, none⟩) l.length lc) ∧ EB wa w1.heap.size x (.slice sa x.says.length sc) (.slice ua x.uses.length uc) (.slice pa x.proof.length pc)) :=
        hid ⟨HJ.out _ _ _ _ hJ1 hba, fun q hq => by have := hM1 q hq; exact ⟨this.1, this.2.1, by omega, by omega⟩, hbr.trans (hba.mono hsz), (hba.cell hbl).trans cx, EB0⟩
      have HWA := hid hwa
      have hbl2 : bx ≠ w1.heap.size := by have h : bx < w1.heap.size := hbl; omega
      have cxa := HST.out.2.2.2.1
      rw [← hwa] at cxa
      clear hpre hJ1 hM1 c0 c1 c2 c3 c4 he EB0 hba hx hwa hsa hbr hbl
      gi_wp2
      clear cxa d0 d1 d2 d3 d4 cx
      gi_loopw [15] (fun jv wr => ∃ (j : Nat) (pre' : List PE) (M' : Nat → Prop), j ≤ l.length ∧ jv = .int .i64 j ∧ pre'.map pqN = ((l.take k).flatMap fun x => l.map fun y => (x, y)) ++ (l.take j).map (fun y => (x, y)) ∧ (J pre' M' wr ∧ (∀ q, M' q → wb.heap.size ≤ q ∧ q ≠ bx ∧ q ≠ w1.heap.size ∧ q < wr.heap.size) ∧ Below wb.heap.size wb wr ∧ wr.cell? ⟨bx, 0, none⟩ = some (.slice (some ⟨b, o, none⟩) l.length lc) ∧ EB wr w1.heap.size x (.slice sa x.says.length sc) (.slice ua x.uses.length uc) (.slice pa x.proof.length pc))) (fun jv _ => l.length - (intOf jv).toNat)
      case atStart => exact ⟨0, pre, M, by omega, rfl, by rw [HPRE.out]; simp, by rw [HWA.out]; exact HST.out⟩
      case round =>
        clear HST HPRE
        obtain ⟨j, pre', M', hj, rfl, hpre', hJ2, hM2, hbr2, cx2, hEB⟩ := hrel
        have hsz2 := hbr2.size
        have hbl2' := World.block_lt_of_cell? _ _ cx2
        have hbl3 := World.block_lt_of_cell? _ _ hEB.c0
        by_cases hltj : j < l.length
        · obtain ⟨b', o', yS, yu, yp, hbo, f0, f1, f2, f3, f4, hy'⟩ := HC'.out j hltj
          obtain ⟨rfl, rfl⟩ : b = b' ∧ o = o' := by simpa using hbo
          obtain ⟨ta, tc, rfl, -⟩ := hy'.s.open
          obtain ⟨va, vc, rfl, -⟩ := hy'.u.open
          obtain ⟨qa, qc, rfl, -⟩ := hy'.p.open
          have e0 := (hbr2.cell (World.block_lt_of_cell? _ _ f0)).trans f0
          have e1 := (hbr2.cell (World.block_lt_of_cell? _ _ f1)).trans f1
          have e2 := (hbr2.cell (World.block_lt_of_cell? _ _ f2)).trans f2
          have e3 := (hbr2.cell (World.block_lt_of_cell? _ _ f3)).trans f3
          have e4 := (hbr2.cell (World.block_lt_of_cell? _ _ f4)).trans f4
          have HYM := hid (List.getElem_mem hltj)
          have HNY : Hid ((l.take (j + 1)).map (fun y => (x, y)) = (l.take j).map (fun y => (x, y)) ++ [(x, l[j])]) := hid (by rw [List.take_succ_eq_append_getElem hltj, List.map_append]; rfl)
          obtain ⟨y, hyy⟩ : ∃ y, l[j] = y := ⟨_, rfl⟩
          rw [hyy] at e0 e1 e2 e3 e4 hy' HYM HNY
          have EBY := EB.new wr y (.slice ta y.says.length tc) (.slice va y.uses.length vc) (.slice qa y.proof.length qc) 35
          obtain ⟨wc, hwc⟩ : ∃ wc, wr.alloc (.cells #[.string y.name, .string y.who, .slice ta y.says.length tc, .slice va y.uses.length vc, .slice qa y.proof.length qc] 35) = wc := ⟨_, rfl⟩
          have hbc : Below wr.heap.size wr wc := hwc ▸ (Below.refl _ _).alloc (Nat.le_refl _) _
          have hsc : wc.heap.size = wr.heap.size + 1 := by rw [← hwc]; simp
          have EBX : EB wc w1.heap.size x (.slice sa x.says.length sc) (.slice ua x.uses.length uc) (.slice pa x.proof.length pc) := hEB.below hbc
          have HEX := hid EBX
          rw [hwc] at EBY
          obtain ⟨x0, x1, x2, x3, x4⟩ := EBX
          obtain ⟨y0, y1, y2, y3, y4⟩ := EBY
          rw [← hwc] at x0 x1 x2 x3 x4 y0 y1 y2 y3 y4
          obtain ⟨fn, tmps, assign, body, hy, hR⟩ := HY.out pre' (((.slice sa x.says.length sc, .slice ua x.uses.length uc, .slice pa x.proof.length pc), x), ((.slice ta y.says.length tc, .slice va y.uses.length vc, .slice qa y.proof.length qc), y)) M' wc (HJ.out _ _ _ _ hJ2 hbc) ⟨prs_len hlt hltj hpre', HXM.out, HYM.out, HE.out, hy'⟩
          dsimp only [pqX, veV] at hy
          have HRR := hid hR
          have HWC := hid hwc
          rw [← hwc] at hy
          have HP2 := hid hpre'
          have HM2 := hid (fun q (hq : M' q) => (show wb.heap.size ≤ q ∧ q ≠ bx ∧ q ≠ w1.heap.size ∧ q < wr.heap.size from hM2 q hq))
          have HB2 := hid (hbr2.trans (hbc.mono hsz2))
          have HCX := hid ((hbc.cell hbl2').trans cx2)
          have HSC := hid hsc
          have HL := hid (show bx < wr.heap.size ∧ w1.heap.size < wr.heap.size from ⟨hbl2', hbl3⟩)
          clear hR hwc hsc hpre' hJ2 hM2 hbr2 cx2 hEB f0 f1 f2 f3 f4 hy' hyy hbc hbo hbl2' hbl3
          gi_wp2
          rw [HWC.out]
          refine HRR.out.mono ?_
          rintro e W3 ⟨M3, hM3, hM3b, hkb, ⟨rfl, hJ3⟩ | ⟨rfl, hJx3⟩⟩
          · have hbb3 : Below wb.heap.size wb W3 := HB2.out.trans (hkb.below HB2.out.size (fun q hq => (HM2.out q hq).1))
            have hsc := HSC.out
            have hl := HL.out
            have HST3 : Hid (J (pre' ++ [(((.slice sa x.says.length sc, .slice ua x.uses.length uc, .slice pa x.proof.length pc), x), ((.slice ta y.says.length tc, .slice va y.uses.length vc, .slice qa y.proof.length qc), y))]) M3 W3 ∧ (∀ q, M3 q → wb.heap.size ≤ q ∧ q ≠ bx ∧ q ≠ w1.heap.size ∧ q < W3.heap.size) ∧ Below wb.heap.size wb W3 ∧ W3.cell? ⟨bx, 0, none⟩ = some (.slice (some ⟨b, o, none⟩) l.length lc) ∧ EB W3 w1.heap.size x (.slice sa x.says.length sc) (.slice ua x.uses.length uc) (.slice pa x.proof.length pc)) := by
              refine hid ⟨hJ3, fun q hq => ?_, hbb3, (World.cell?_of_block (hkb.same bx (by omega) (fun h => (HM2.out _ h).2.1 rfl))).trans HCX.out, HEX.out.block (hkb.same _ (by omega) (fun h => (HM2.out _ h).2.2.1 rfl))⟩
              have hqb := hM3b q hq
              rcases hM3 q hq with h1 | h1
              · have := HM2.out q h1
                exact ⟨this.1, this.2.1, this.2.2.1, hqb⟩
              · exact ⟨by omega, by omega, by omega, hqb⟩
            clear hJ3 hM3 hM3b hkb hbb3 hsc
            gi_wp2
            go_roundw
            case rel => exact ⟨j + 1, _, M3, by omega, by go_num, by rw [List.map_append, HP2.out, HNY.out, List.append_assoc]; rfl, HST3.out⟩
            case measure => simp [intOf]; omega
          · gi_wp2
            refine bodyPost_ret (results_none rfl _ _ _) rfl ?_
            exact ⟨⟨_, rfl⟩, .inr ⟨_, M3, hJx3⟩⟩
        · have hjl : j = l.length := by omega
          subst hjl
          rw [List.take_of_length_le (Nat.le_refl _), ← HNX.out] at hpre'
          have HST2 : Hid (J pre' M' wr ∧ (∀ q, M' q → wb.heap.size ≤ q ∧ q ≠ bx ∧ q < wr.heap.size) ∧ Below wb.heap.size wb wr ∧ wr.cell? ⟨bx, 0, none⟩ = some (.slice (some ⟨b, o, none⟩) l.length lc)) := hid ⟨hJ2, fun q hq => by have := hM2 q hq; exact ⟨this.1, this.2.1, this.2.2.2⟩, hbr2, cx2⟩
          have HP2 := hid hpre'
          clear hpre' hJ2 hM2 hbr2 cx2 hEB
          gi_wp2
          go_roundw
          case rel => exact ⟨k + 1, pre', M', by omega, by go_num, HP2.out, HST2.out⟩
          case measure => simp [intOf]; omega
    · have hkl : k = l.length := by omega
      subst hkl
      rw [List.take_of_length_le (Nat.le_refl _)] at hpre
      have HJ1 := hid hJ1
      have HPRE := hid hpre
      clear hJ1 hpre
      gi_wp2
      go_end0
      first | exact ⟨⟨_, rfl⟩, .inl ⟨pre, M, HPRE.out, HJ1.out⟩⟩ | exact ⟨⟨_, rfl⟩, .inl ⟨pre, HPRE.out, M, HJ1.out⟩⟩
theorem carry_pairs (a : Option Addr) (n c : Nat) (w : World) :
    Calls Tryz.prog 89 #[.slice a n c] w fun e w' => e = .returned (.func (.func 148) #[] #[.pointer (some ⟨w.heap.size, 0, none⟩)]) ∧ w.alloc (.cells #[.slice a n c] 24) = w' := by
  go_enter Tryz.func89, Tryz.ntmps89
  go_wp2
  go_ret
  exact ⟨rfl, rfl⟩
end Go.Proofs.YtpflkjldapmgdaaGreat
