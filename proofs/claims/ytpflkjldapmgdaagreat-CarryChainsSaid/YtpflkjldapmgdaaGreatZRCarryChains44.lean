/-
  WHAT IT HOLDS: the contract of Added of package carry. Conditions: the arguments read as data; small signs, small libraries.
  WHAT IT HOLDS: the plain law of statements that go along: one answer alone; what goes along is proved by the moved entry. No program in sight.
-/
import Derived.Test.YtpflkjldapmgdaaGreatZRCarryChains43
import Derived.Test.YtpflkjldapmgdaaGreatZRCarryChains38
import Derived.Test.YtpflkjldapmgdaaGreatZRCarryChains32
namespace Go.Proofs.YtpflkjldapmgdaaGreat
open Go Go.RowKit Go.Maps
theorem EB.block {w w' : World} {b : Nat} {x : En} {vS vU vP : Value} (h : EB w b x vS vU vP) (hb : w'.heap[b]? = w.heap[b]?) : EB w' b x vS vU vP :=
  ⟨(World.cell?_of_block hb).trans h.c0, (World.cell?_of_block hb).trans h.c1, (World.cell?_of_block hb).trans h.c2, (World.cell?_of_block hb).trans h.c3, (World.cell?_of_block hb).trans h.c4⟩
theorem carry_Added1 (p : Nat) (x y : En) (vS vU vP uS uU uP : Value) (w : World) (hE : EB w p x uS uU uP) :
    Calls Tryz.prog 59 #[.agg #[.string y.name, .string y.who, vS, vU, vP], .pointer (some ⟨p, 0, none⟩)] w fun e w' => e = .returned (.bool (decide (y.name = x.name))) ∧ Below w.heap.size w w' := by
  have c0 := hE.c0
  have HB := hid (show Below w.heap.size w (w.alloc (.cells #[.string y.name, .string y.who, vS, vU, vP] 35)) from (Below.refl _ _).alloc (Nat.le_refl _) _)
  have hlt : p < w.heap.size := World.block_lt_of_cell? _ _ c0
  by_cases h : y.name = x.name
  · have q : (y.name.toList == x.name.toList) = true := by rw [bytes_eq]; simpa using h
    have HF := hid (decide_eq_true h)
    clear h
    go_enter Tryz.func59, Tryz.ntmps59
    go_wp2
    go_ret
    exact ⟨ret_bool HF.out.symm, HB.out⟩
  · have q : (y.name.toList == x.name.toList) = false := by rw [bytes_eq]; simpa using h
    have HF := hid (decide_eq_false h)
    clear h
    go_enter Tryz.func59, Tryz.ntmps59
    go_wp2
    go_ret
    exact ⟨ret_bool HF.out.symm, HB.out⟩
theorem carry_Added2 (y : En) (v : Value) (B : Nat) (w : World) (hB : B ≤ w.heap.size) (hO : EnO w B v y) :
    Calls Tryz.prog 61 #[v] w fun e w' => ∃ v', e = .returned v' ∧ EnO w' B v' y ∧ Below B w w' := by
  obtain ⟨vS, vU, vP, rfl, hO⟩ := hO
  obtain ⟨a1, k1, rfl⟩ := owns_slice hO.s
  obtain ⟨a2, k2, rfl⟩ := owns_slice hO.u
  obtain ⟨a3, k3, rfl⟩ := owns_slice hO.p
  have HO := hid hO
  clear hO
  go_enter Tryz.func61, Tryz.ntmps61
  go_wp2
  (try simp only [Exit.inBlock, Exit.then])
  refine bodyPost_ret (v := .agg #[.string y.name, .string y.who, .slice a1 y.says.length k1, .slice a2 y.uses.length k2, .slice a3 y.proof.length k3]) ?_ rfl ?_
  · simp only [results, Tryz.results61]
    go_simp
  · have h2 := ((Below.refl w.heap.size w).alloc (Nat.le_refl _) (.cells #[.string y.name, .string y.who, .slice a1 y.says.length k1, .slice a2 y.uses.length k2, .slice a3 y.proof.length k3] 35)).alloc (by simp) (.cells #[.string y.name, .string y.who, .slice a1 y.says.length k1, .slice a2 y.uses.length k2, .slice a3 y.proof.length k3] 35)
    exact ⟨_, rfl, ⟨_, _, _, rfl, HO.out.blocks (Nat.le_refl _) fun q _ hq => h2.block q hq⟩, h2.mono hB⟩
/-- what Added answers. -/
def addR (s : Sg) (l : List En) (x : En) : List En × Int := if libB s l && entryB s x then (if (idxN l x.name).isSome then ([], 6) else if l.length = 60 then ([], 4) else (l ++ [x], 0)) else ([], 1)
theorem addR_1 {s : Sg} {l : List En} {x : En} (h : libB s l = false ∨ entryB s x = false) : addR s l x = ([], 1) := by
  unfold addR; rcases h with h | h <;> simp [h]
theorem addR_2 {s : Sg} {l : List En} {x : En} (h1 : libB s l = true) (h2 : entryB s x = true) : addR s l x = if (idxN l x.name).isSome then ([], 6) else if l.length = 60 then ([], 4) else (l ++ [x], 0) := by
  unfold addR; rw [h1, h2]; rfl
theorem names_any (l : List En) (n : Nm) (p : Nat → Bool) (hp : ∀ i (h : i < l.length), p i = decide (l[i].name = n)) : (List.range l.length).any p = (idxN l n).isSome := by
  rw [Bool.eq_iff_iff, List.any_eq_true]
  constructor
  · rintro ⟨i, hi, h⟩
    have hi := List.mem_range.1 hi
    rw [hp i hi, decide_eq_true_eq] at h
    cases e : idxN l n with
    | some _ => rfl
    | none => exact absurd h (idxN_none e _ (List.getElem_mem hi))
  · intro h
    obtain ⟨i, hi⟩ := Option.isSome_iff_exists.1 h
    obtain ⟨h1, h2⟩ := idxN_some hi
    exact ⟨i, List.mem_range.2 h1, by rw [hp i h1]; simpa using h2⟩
theorem ent_sm {s : Sg} {x : En} (h : entryB s x = true) : EnSm x := by
  have h1 := entryB_iff.1 h
  have h2 := h1.len
  have h3 := (termB_T h1.says).ne
  have h4 := (termB_facts h1.says).2.2.2
  refine ⟨h3, by omega, by omega, ?_⟩
  by_cases h0 : x.proof.length = 0
  · omega
  · have := proof60 (h1.proof h0); omega
theorem EntsAt.nil' (w : World) : EntsAt w (.slice none 0 0) [] := EntsAt.nil w
set_option maxHeartbeats 4000000 in
set_option maxRecDepth 100000 in
theorem carry_Added (vs vl vS vU vP : Value) (s : Sg) (l : List En) (x : En) (w : World) (hs : SignAt w vs s) (hl : EntsAt w vl l) (hx : EntAt w vS vU vP x) (hs1 : s.length ≤ 1000) (hl1 : l.length ≤ 1000) :
    Calls Tryz.prog 18 #[vs, vl, .agg #[.string x.name, .string x.who, vS, vU, vP]] w fun e w' => ∃ u, e = .returned (.tuple #[u, .int .i64 (addR s l x).2]) ∧ EntsAt w' u (addR s l x).1 ∧ Below w.heap.size w w' := by
  obtain ⟨xa, xc, rfl, -⟩ := hx.s.open
  obtain ⟨ya, yc, rfl, -⟩ := hx.u.open
  obtain ⟨za, zc, rfl, -⟩ := hx.p.open
  obtain ⟨la, lc, rfl, -, ll, -⟩ := hl.open
  have EB0 := EB.new w x (.slice xa x.says.length xc) (.slice ya x.uses.length yc) (.slice za x.proof.length zc) 35
  obtain ⟨W, hW⟩ : ∃ W, w.alloc (.cells #[.string x.name, .string x.who, .slice xa x.says.length xc, .slice ya x.uses.length yc, .slice za x.proof.length zc] 35) = W := ⟨_, rfl⟩
  have hbW : Below w.heap.size w W := hW ▸ (Below.refl _ _).alloc (Nat.le_refl _) _
  rw [hW] at EB0
  have HV := hid (deps_Valid vs _ s l W (hs.below hbW) (hl.below hbW) hs1 hl1)
  have HVE := hid (fun (X : World) (hX : Below w.heap.size w X) => deps_ValidEntry vs _ _ _ s x X (hs.below hX) (hx.below hX) hs1)
  have HLL := hid hl
  have HX := hid hx
  have HW := hid hW
  have HEB := hid EB0
  have HBW := hid hbW
  clear hW EB0 hbW hl hs hx
  cases g1 : libB s l
  · have HF := hid (addR_1 (l := l) (x := x) (Or.inl g1))
    rw [g1] at HV
    clear g1
    go_enter Tryz.func18, Tryz.ntmps18
    go_wp2_with fail
    rw [HW.out]
    refine HV.out.mono ?_
    rintro e w1 ⟨rfl, hb1⟩
    go_wp2
    go_ret2
    exact ⟨_, by rw [HF.out]; rfl, by rw [HF.out]; exact EntsAt.nil' _, HBW.out.trans (hb1.mono HBW.out.size)⟩
  rw [g1] at HV
  cases g2 : entryB s x
  · have HF := hid (addR_1 (l := l) (x := x) (Or.inr g2))
    simp only [g2] at HVE
    clear g1 g2
    go_enter Tryz.func18, Tryz.ntmps18
    go_wp2_with fail
    rw [HW.out]
    refine HV.out.mono ?_
    rintro e w1 ⟨rfl, hb1⟩
    have hbw1 := HBW.out.trans (hb1.mono HBW.out.size)
    obtain ⟨c0, c1, c2, c3, c4⟩ := HEB.out.below hb1
    have HV1 := hid (HVE.out w1 hbw1)
    go_wp2_with fail
    refine HV1.out.mono ?_
    rintro e w2 ⟨rfl, hb2⟩
    go_wp2
    go_ret2
    exact ⟨_, by rw [HF.out]; rfl, by rw [HF.out]; exact EntsAt.nil' _, hbw1.trans (hb2.mono hbw1.size)⟩
  simp only [g2] at HVE
  have HAR := hid (addR_2 g1 g2)
  have HLIB := hid g1
  have HSM := hid (ent_sm g2)
  have HSL := hid (fun (y : En) (hy : y ∈ l) => ent_sm (entryB_iff.2 ((libB_iff.1 g1).ents y hy)))
  clear g1 g2
  go_enter Tryz.func18, Tryz.ntmps18
  go_wp2_with fail
  rw [HW.out]
  refine HV.out.mono ?_
  rintro e w1 ⟨rfl, hb1⟩
  have hbw1 := HBW.out.trans (hb1.mono HBW.out.size)
  have HV1 := hid (HVE.out w1 hbw1)
  have EB1 := HEB.out.below hb1
  obtain ⟨c0, c1, c2, c3, c4⟩ := EB1
  go_wp2_with fail
  refine HV1.out.mono ?_
  rintro e w2 ⟨rfl, hb2⟩
  have hbw2 := hbw1.trans (hb2.mono hbw1.size)
  have EB2 := (EB.below (x := x) ⟨c0, c1, c2, c3, c4⟩ hb2)
  have HCF := hid (sl_ContainsFunc_ents 59 #[.pointer (some ⟨w.heap.size, 0, none⟩)] (enters_of Tryz.func59 (by kernel_rfl) rfl) (.slice la l.length lc) l w2 (HLL.out.below hbw2) (fun i => decide ((l.getD i en0).name = x.name)) (by
    intro i hi vs vu vp X hX _
    have e1 : l.getD i en0 = l[i] := by rw [List.getD_eq_getElem?_getD, List.getElem?_eq_getElem hi]; rfl
    simp only [e1]
    exact carry_Added1 w.heap.size x l[i] vs vu vp _ _ _ X (EB2.below hX)))
  rw [names_any l x.name _ (fun i h => by rw [List.getD_eq_getElem?_getD, List.getElem?_eq_getElem h]; rfl)] at HCF
  have HEB2 := hid EB2
  have HB2 := hid hbw2
  clear c0 c1 c2 c3 c4 hb1 hb2 hbw1 hbw2 EB2
  go_wp2_with fail
  refine HCF.out.mono ?_
  rintro e w3 ⟨rfl, hb3⟩
  have hbw3 := HB2.out.trans (hb3.mono HB2.out.size)
  have HEB3 := hid (HEB2.out.below hb3)
  cases g3 : (idxN l x.name).isSome
  case true =>
    have HF : Hid (addR s l x = ([], 6)) := hid (by rw [HAR.out, g3]; rfl)
    clear g3
    go_wp2
    go_ret2
    exact ⟨_, by rw [HF.out]; rfl, by rw [HF.out]; exact EntsAt.nil' _, hbw3⟩
  by_cases g4 : l.length = 60
  · have HF : Hid (addR s l x = ([], 4)) := hid (by rw [HAR.out, g3, if_neg (by simp), if_pos g4])
    have q4 : ((l.length : Int) == 60) = true := by simp [g4]
    clear g3 g4
    go_wp2
    go_ret2
    exact ⟨_, by rw [HF.out]; rfl, by rw [HF.out]; exact EntsAt.nil' _, hbw3⟩
  have HF : Hid (addR s l x = (l ++ [x], 0)) := hid (by rw [HAR.out, g3, if_neg (by simp), if_neg g4])
  have q4 : ((l.length : Int) == 60) = false := by rw [beq_eq_false_iff_ne]; omega
  have HB3 := hid hbw3
  have HL60 : Hid (l.length ≤ 60) := hid (libB_iff.1 HLIB.out).len
  have HEA := hid (fun (X : World) (hX : Below w3.heap.size w3 X) => carry_each 61 #[] (enters_of Tryz.func61 (by kernel_rfl) rfl) (.slice la l.length lc) l id X ((HLL.out.below hbw3).below hX) hl1 HSL.out (fun i h W v B _ hB _ hO => carry_Added2 l[i] v B W hB hO))
  have HCP := hid (fun (X : World) (hX : Below w3.heap.size w3 X) => carry_copied (.slice xa x.says.length xc) (.slice ya x.uses.length yc) (.slice za x.proof.length zc) x X ((HX.out.below hbw3).below hX) HSM.out.1 HSM.out.2.1 HSM.out.2.2.1 HSM.out.2.2.2)
  obtain ⟨c0, c1, c2, c3, c4⟩ := HEB3.out
  have d0 := c0
  clear g3 g4 hb3 hbw3 HEB HEB2 HEB3
  go_wp2
  have hbZ : Below w3.heap.size w3 w3 := Below.refl _ _
  refine wp_region_held_drew (S := fun w' => w'.cell? ⟨w.heap.size, 0, none⟩ = some (.string x.name) ∧ w'.cell? ⟨w.heap.size, 1, none⟩ = some (.string x.who) ∧ w'.cell? ⟨w.heap.size, 2, none⟩ = some (.slice xa x.says.length xc) ∧ w'.cell? ⟨w.heap.size, 3, none⟩ = some (.slice ya x.uses.length yc) ∧ w'.cell? ⟨w.heap.size, 4, none⟩ = some (.slice za x.proof.length zc)) (by kernel_rfl) ?_ (fun hHeld => ?_)
  · exact ⟨c0, c1, c2, c3, c4⟩
  refine wpAnyH_take (i := 0) (oi := { dst := some 27, op := Op.move (Operand.tmp 1), type := 24, pos := _, after := _, guard := none }) (v := ?_) rfl (by kernel_rfl) (by kernel_rfl) (by kernel_rfl) (fun _ _ _ h => h) (Or.inl ⟨by rfl, ?_⟩) hHeld ?_
  rotate_left
  · (intro w hSw; (try dsimp only at hSw); go_simp; (try with_reducible rfl))
  (try simp only [Act.put, List.setIfInBounds_toArray, List.set_cons_zero, List.set_cons_succ])
  refine wpAnyH_take (i := 2) (oi := { dst := some 29, op := Op.load 35 (Operand.tmp 5), type := 35, pos := _, after := _, guard := none }) (v := ?_) rfl (by kernel_rfl) (by kernel_rfl) (by kernel_rfl) (fun _ _ _ h => h) (Or.inl ⟨by rfl, ?_⟩) hHeld ?_
  rotate_left
  · (intro w hSw; (try dsimp only at hSw); go_simp; (try with_reducible rfl))
  (try simp only [Act.put, List.setIfInBounds_toArray, List.set_cons_zero, List.set_cons_succ])
  refine wpAnyH_ready (rs := [1]) (by kernel_rfl) (by simp) ?_
  refine AllReadyH.cons (o := { dst := some 28, op := Op.call { callee := Callee.value (Operand.func 60), args := #[Operand.tmp 27, Operand.func 61], argTypes := #[24, 87] }, type := 24, pos := _, after := _, guard := none }) rfl (fun K hK => ?_) AllReadyH.nil
  (try go_simp)
  (go_at_call 60; refine (HEA.out _ (by first | exact hbZ | exact hbZ.drew | exact below_drewN hbZ _)).mono ?_; rintro e wz ⟨ue, vvs, rfl, hE0, hb1⟩; have hbZ := Below.trans (show Below w3.heap.size w3 _ from (by first | exact hbZ | exact hbZ.drew | exact below_drewN hbZ _)) (hb1.mono (by first | exact hbZ.size | (simp; exact hbZ.size))); obtain ⟨c0, c1, c2, c3, c4⟩ := EB.below (x := x) ⟨c0, c1, c2, c3, c4⟩ hbZ; rw [List.map_id] at hE0; have hE0 : EnS wz w3.heap.size ue vvs l := hE0; obtain ⟨ea, ec, rfl⟩ := hE0.slice)
  refine hK.out _ _ ?_ (fun hHeld => ?_)
  · exact ⟨c0, c1, c2, c3, c4⟩
  clear hK K
  (try simp only [Act.put, List.setIfInBounds_toArray, List.set_cons_zero, List.set_cons_succ])
  refine wpAnyH_ready (rs := [3]) (by kernel_rfl) (by simp) ?_
  refine AllReadyH.cons (o := { dst := some 30, op := Op.call { callee := Callee.value (Operand.func 62), args := #[Operand.tmp 29], argTypes := #[35] }, type := 35, pos := _, after := _, guard := none }) rfl (fun K hK => ?_) AllReadyH.nil
  (try go_simp)
  (go_at_call 62; refine (HCP.out _ hbZ).mono ?_; rintro e wc ⟨vc, rfl, ⟨uS, uU, uP, rfl, hO⟩, hb2⟩; have hE2 := hE0.below hb2; have hbY := hbZ.trans (hb2.mono hbZ.size); obtain ⟨c0, c1, c2, c3, c4⟩ := EB.below (x := x) ⟨c0, c1, c2, c3, c4⟩ hb2; obtain ⟨a1, k1, rfl⟩ := owns_slice hO.s; obtain ⟨a2, k2, rfl⟩ := owns_slice hO.u; obtain ⟨a3, k3, rfl⟩ := owns_slice hO.p)
  refine hK.out _ _ ?_ (fun hHeld => ?_)
  · exact ⟨c0, c1, c2, c3, c4⟩
  clear hK K
  (try simp only [Act.put, List.setIfInBounds_toArray, List.set_cons_zero, List.set_cons_succ])
  refine wpAnyH_ready (rs := [4]) (by kernel_rfl) (by simp) ?_
  refine AllReadyH.cons (o := { dst := some 31, op := Op.buildSlice 24 1 #[(0, Operand.tmp 30)], type := 24, pos := _, after := _, guard := none }) rfl (fun K hK => ?_) AllReadyH.nil
  (try go_simp)
  (have hbA : Below wc.heap.size wc (wc.alloc (.cells #[.string x.name, .string x.who, .slice a1 x.says.length k1, .slice a2 x.uses.length k2, .slice a3 x.proof.length k3] 35)) := (Below.refl _ _).alloc (Nat.le_refl _) _; obtain ⟨c0, c1, c2, c3, c4⟩ := EB.below (x := x) ⟨c0, c1, c2, c3, c4⟩ hbA; have HROW := row_one_ent wc (.string x.name) (.string x.who) (.slice a1 x.says.length k1) (.slice a2 x.uses.length k2) (.slice a3 x.proof.length k3) 35; have hownA := hE2.top.alloc (.cells #[.string x.name, .string x.who, .slice a1 x.says.length k1, .slice a2 x.uses.length k2, .slice a3 x.proof.length k3] 35))
  refine hK.out _ _ ?_ (fun hHeld => ?_)
  · exact ⟨c0, c1, c2, c3, c4⟩
  clear hK K
  (try simp only [Act.put, List.setIfInBounds_toArray, List.set_cons_zero, List.set_cons_succ])
  refine wpAnyH_ready (rs := [5]) (by kernel_rfl) (by simp) ?_
  refine AllReadyH.cons (o := { dst := some 32, op := Op.call { callee := Callee.builtin Builtin.append, args := #[Operand.tmp 28, Operand.tmp 31], argTypes := #[24, 24] }, type := 24, pos := _, after := _, guard := none }) rfl (fun K hK => ?_) AllReadyH.nil
  (refine step_append_lie rfl (.tmp 28) (.tmp 31) 24 rfl w3.heap.size 35 el_ent Tryz.underlying24 rfl (by decide) _ l.length (ensC l vvs) rfl hownA _ 1 (enC x (.slice a1 x.says.length k1, .slice a2 x.uses.length k2, .slice a3 x.proof.length k3)) rfl HROW (enC_one _ _ _ _ _ _ _ _ _ _) (by omega) (by omega) (by omega) (by have := hbY.size; simp; omega) _ rfl ?_; intro g cap w4 hown4 hgrow4 hat4 hlt4; have hpw : w.heap.size < w3.heap.size := World.block_lt_of_cell? _ _ d0; obtain ⟨c0, c1, c2, c3, c4⟩ := EB.block (x := x) ⟨c0, c1, c2, c3, c4⟩ (hgrow4.block w.heap.size (by have := hbY.size; simp; omega) (fun e => by have := (hE2.top.lt w.heap.size e.symm).1; omega)))
  refine hK.out _ _ ?_ (fun hHeld => ?_)
  · exact ⟨c0, c1, c2, c3, c4⟩
  clear hK K
  (try simp only [Act.put, List.setIfInBounds_toArray, List.set_cons_zero, List.set_cons_succ])
  refine wpAnyH_take (i := 6) (oi := { dst := some 6, op := Op.assign (Operand.tmp 32), type := 24, pos := _, after := _, guard := none }) (v := ?_) rfl (by kernel_rfl) (by kernel_rfl) (by kernel_rfl) (fun _ _ _ h => h) (Or.inl ⟨by rfl, ?_⟩) hHeld ?_
  rotate_left
  · (intro w hSw; (try dsimp only at hSw); go_simp; (try with_reducible rfl))
  (try simp only [Act.put, List.setIfInBounds_toArray, List.set_cons_zero, List.set_cons_succ])
  refine wpAnyH_take (i := 7) (oi := { dst := some 7, op := Op.assign (Operand.const (Value.int IntKind.i64 0)), type := 29, pos := _, after := _, guard := none }) (v := ?_) rfl (by kernel_rfl) (by kernel_rfl) (by kernel_rfl) (fun _ _ _ h => h) (Or.inl ⟨by rfl, ?_⟩) hHeld ?_
  rotate_left
  · (intro w hSw; (try dsimp only at hSw); go_simp; (try with_reducible rfl))
  (try simp only [Act.put, List.setIfInBounds_toArray, List.set_cons_zero, List.set_cons_succ])
  refine wpAnyH_done (by kernel_rfl) ?_ _
  have hE4 := hE2.push (w1 := wc.alloc (.cells #[.string x.name, .string x.who, .slice a1 x.says.length k1, .slice a2 x.uses.length k2, .slice a3 x.proof.length k3] 35)) ((Below.refl _ _).alloc (Nat.le_refl _) _) (x := x) (v := (.slice a1 x.says.length k1, .slice a2 x.uses.length k2, .slice a3 x.proof.length k3)) (fun W' hW' => (hO.blocks (base' := 0) (Nat.zero_le _) fun q h1 h2 => (hW' q (by simp; omega) (fun e => by
    have := (hE0.top.lt q e.symm).2
    omega)).trans (Below.heap_alloc _ _ _ h2)).ent) rfl hown4 hgrow4 rfl hat4
  have HEN : Hid (EntsAt w4 (.slice (some ⟨g, 0, none⟩) (l.length + 1) cap) (l ++ [x])) := hid ⟨_, hE4.ents (by simp; have := HL60.out; omega)⟩
  have HB4 : Hid (Below w.heap.size w w4) := hid (((HB3.out.trans (hbY.mono HB3.out.size)).alloc (by have := hbY.size; have := HB3.out.size; omega) _).grown hgrow4 (by have := hbY.size; have := HB3.out.size; simp; omega) (fun q hq => by have := (hE2.top.lt q hq).1; omega))
  clear hE4 hE2 hE0 hO hown4 hgrow4 hat4 hlt4 hbA HROW hownA hbY hbZ hb1 hb2 hHeld c0 c1 c2 c3 c4 d0
  go_wp2
  go_ret2
  exact ⟨_, by rw [HF.out]; rfl, by rw [HF.out]; exact HEN.out, HB4.out⟩
end Go.Proofs.YtpflkjldapmgdaaGreat
namespace Go.Proofs.YtpflkjldapmgdaaGreat
open Go Go.RowKit Go.Maps
theorem AloR.unique {s : Sg} {l : List En} {a n : Nm} {x y : List Int × Int} (h : AloR s l a n x) (k : AloR s l a n y) : x = y := by
  rcases h with ⟨h1, rfl⟩ | ⟨h1, -, p, q, hp, hq, hx⟩
  · rcases k with ⟨-, rfl⟩ | ⟨k1, -⟩
    · rfl
    · exact absurd k1 h1
  · rcases k with ⟨k1, -⟩ | ⟨-, -, p', q', hp', hq', hy⟩
    · exact absurd h1 k1
    · rw [hp] at hp'; rw [hq] at hq'; cases hp'; cases hq'
      exact hx.unique hy
theorem TheR.unique {s : Sg} {l : List En} {a b n : Nm} {x y : List Int × Int} (h : TheR s l a b n x) (k : TheR s l a b n y) : x = y := by
  rcases h with ⟨h1, rfl⟩ | ⟨h1, -, p, q, r, z, hp, hq, hr, hz, hx⟩
  · rcases k with ⟨-, rfl⟩ | ⟨k1, -⟩
    · rfl
    · exact absurd k1 h1
  · rcases k with ⟨k1, -⟩ | ⟨-, -, p', q', r', z', hp', hq', hr', hz', hy⟩
    · exact absurd h1 k1
    · rw [hp] at hp'; rw [hq] at hq'; rw [hr] at hr'; cases hp'; cases hq'; cases hr'
      have e := hz.unique hz'
      subst e
      rcases hx with ⟨h2, rfl⟩ | ⟨h2, hx⟩
      · rcases hy with ⟨-, rfl⟩ | ⟨k2, -⟩
        · rfl
        · exact absurd k2 h2
      · rcases hy with ⟨k2, -⟩ | ⟨-, hy⟩
        · exact absurd h2 k2
        · exact hx.unique hy
theorem MovR.unique {s : Sg} {l : List En} {a n o b : Nm} {x y : En} {e f : Int} (h : MovR s l a n o b x e) (k : MovR s l a n o b y f) : x = y ∧ e = f := by
  rcases h with ⟨h1, rfl, rfl⟩ | ⟨h1, p, q, z, hp, hq, hz, hx⟩
  · rcases k with ⟨-, rfl, rfl⟩ | ⟨k1, -⟩
    · exact ⟨rfl, rfl⟩
    · exact absurd k1 h1
  · rcases k with ⟨k1, -⟩ | ⟨-, p', q', z', hp', hq', hz', hy⟩
    · exact absurd h1 k1
    · rw [hp] at hp'; rw [hq] at hq'; cases hp'; cases hq'
      have e := hz.unique hz'
      subst e
      rcases hx with ⟨h2, rfl, rfl⟩ | ⟨h2, rfl, rfl⟩
      · rcases hy with ⟨-, rfl, rfl⟩ | ⟨k2, -⟩
        · exact ⟨rfl, rfl⟩
        · exact absurd k2 h2
      · rcases hy with ⟨k2, -⟩ | ⟨-, rfl, rfl⟩
        · exact absurd h2 k2
        · exact ⟨rfl, rfl⟩
theorem SayP.unique {s : Sg} {g : List (List Int)} {p : List St} {x y : List Int × Int} (h : SayP s g p x) (k : SayP s g p y) : x = y := by
  rcases h with ⟨h1, rfl⟩ | ⟨h1, l, hr, hx⟩
  · rcases k with ⟨-, rfl⟩ | ⟨k1, -⟩
    · rfl
    · rw [h1] at k1; cases k1
  · rcases k with ⟨k1, -⟩ | ⟨-, l', hr', hy⟩
    · rw [h1] at k1; cases k1
    · obtain ⟨rfl, he⟩ := hr.unique hr'
      rcases hx with ⟨h2, h3⟩ | ⟨h2, h3⟩
      · rcases hy with ⟨-, k3⟩ | ⟨k2, -⟩
        · rw [h3] at k3; exact Prod.ext (Option.some.inj k3) he
        · exact absurd (he ▸ h2) k2
      · rcases hy with ⟨k2, -⟩ | ⟨-, k3⟩
        · exact absurd (he ▸ k2) h2
        · exact Prod.ext (h3.trans k3.symm) he
theorem StrP.unique {s : Sg} {l : List En} {e : En} {x y : List Int × Bool} (h : StrP s l e x) (k : StrP s l e y) : x = y := by
  rcases h with ⟨h1, rfl⟩ | ⟨h1, h⟩
  · rcases k with ⟨-, rfl⟩ | ⟨k1, -⟩
    · rfl
    · exact absurd h1 k1
  · rcases k with ⟨k1, -⟩ | ⟨-, k⟩
    · exact absurd k1 h1
    · rcases h with ⟨h2, rfl⟩ | ⟨g, z, h2, h3, rfl⟩
      · rcases k with ⟨-, rfl⟩ | ⟨g', z', k2, -, rfl⟩
        · rfl
        · rw [h2] at k2; cases k2
      · rcases k with ⟨k2, -⟩ | ⟨g', z', k2, k3, rfl⟩
        · rw [h2] at k2; cases k2
        · rw [h2] at k2; cases k2
          rw [h3.unique k3]
theorem det_term {s : Sg} {m n t : List Int} (h : DetR s m n (t, 0)) : termB s t = true ∧ canonL t = t := by
  rcases h with ⟨-, h⟩ | ⟨hv, -, ⟨-, h⟩ | ⟨A, B, -, -, tB, ⟨-, h⟩ | ⟨m, hm, ⟨hb, h⟩ | ⟨-, h⟩⟩⟩⟩
  · simp at h
  · simp at h
  · simp at h
  · simp only [Prod.mk.injEq, and_true] at h
    subst h
    exact ⟨made_term (termB_facts hv).1 (fw_T hm.1 (tB.mono (by omega))) hb, canonL_canon _⟩
  · simp at h
theorem saysN_name {s : Sg} {l : List En} (h : LibOK s l) {n : Nm} {t : List Int} (hs : saysN l n = some t) : nmB n = true ∧ termB s t = true ∧ canonL t = t := by
  cases e : idxN l n with
  | none => rw [saysN_none e] at hs; cases hs
  | some i =>
    obtain ⟨hi, h2⟩ := saysN_some e
    rw [h2] at hs
    cases hs
    obtain ⟨hi', hn⟩ := idxN_some e
    have hx := h.ents l[i] (List.getElem_mem hi)
    exact ⟨hn ▸ hx.name, hx.says, hx.can⟩
theorem frI_0 {s : Sg} {l : List En} {o b : Nm} {ns : List Nm} (h : frI s l o b ns = 0) : libB s l = true ∧ nmB o = true ∧ nmB b = true ∧ nmdI s l ns = 0 ∧ idxN l o = none := by
  unfold frI at h
  cases g1 : libB s l <;> cases g2 : nmB o <;> cases g3 : nmB b <;> simp only [g1, g2, g3] at h <;> simp at h
  refine ⟨rfl, rfl, rfl, ?_⟩
  by_cases h0 : nmdI s l ns = 0
  · rw [if_pos h0] at h
    refine ⟨h0, ?_⟩
    cases e : idxN l o with
    | none => rfl
    | some i => rw [e] at h; simp at h
  · rw [if_neg h0] at h; exact absurd h h0
theorem idxN_append {l : List En} {n : Nm} {i : Nat} (h : idxN l n = some i) (m : List En) : idxN (l ++ m) n = some i := by
  unfold idxN at h ⊢
  rw [List.map_append, List.findIdx?_append, h]; rfl
theorem saysN_append {l : List En} {n : Nm} {t : List Int} (h : saysN l n = some t) (m : List En) : saysN (l ++ m) n = some t := by
  cases e : idxN l n with
  | none => rw [saysN_none e] at h; cases h
  | some i =>
    obtain ⟨hi, h2⟩ := saysN_some e
    rw [h2] at h
    cases h
    unfold saysN
    rw [idxN_append e m]
    simp [List.getElem?_append_left hi, List.getElem?_eq_getElem hi]
theorem lib_add {s : Sg} {l : List En} {x : En} (h : LibOK s l) (hx : entryB s x = true) (hn : idxN l x.name = none) (hl : l.length ≠ 60) : LibOK s (l ++ [x]) := by
  refine ⟨h.sign, by have := h.len; simp; omega, fun y hy => ?_, ?_⟩
  · rcases List.mem_append.1 hy with hy | hy
    · exact h.ents y hy
    · simp at hy; subst hy; exact entryB_iff.1 hx
  · rw [List.map_append, List.nodup_append]
    refine ⟨h.nd, by simp, fun a ha b hb => ?_⟩
    simp at hb
    subst hb
    obtain ⟨y, hy, rfl⟩ := List.mem_map.1 ha
    exact idxN_none hn y hy
theorem idxN_last {s : Sg} {l : List En} {x : En} (h : LibOK s (l ++ [x])) : idxN (l ++ [x]) x.name = some l.length := by
  have := idxN_nd h.nd (i := l.length) (by simp)
  simpa using this
/-- the entry that is moved is one, and holds. -/
theorem moved_holds {s : Sg} {l : List En} {a n o b : Nm} {x : En} (h : MovR s l a n o b x 0) :
    LibOK s l ∧ entryB s x = true ∧ x.name = o ∧ idxN l o = none ∧ AloR s l a n (x.says, 0) ∧ (l.length ≠ 60 → HoldR s (l ++ [x]) o true 0 ∧ StgR s (l ++ [x]) o x.says 0) := by
  rcases h with ⟨h1, -, h2⟩ | ⟨h1, p, q, y, hp, hq, hy, ⟨h2, -, h3⟩ | ⟨h2, rfl, -⟩⟩
  · exact absurd h2.symm h1
  · exact absurd h3.symm h2
  obtain ⟨hl, ho, hb, hnm, hix⟩ := frI_0 h1
  have HL := libB_iff.1 hl
  obtain ⟨y1, y2⟩ := y
  simp only at h2
  subst h2
  obtain ⟨ty, cy⟩ := det_term hy
  obtain ⟨na, tp, cp⟩ := saysN_name HL hp
  obtain ⟨nn, tq, cq⟩ := saysN_name HL hq
  have hE : entryB s ⟨o, b, y1, if a = n then [a] else [a, n], if a = n then mvP1 else mvP⟩ = true := by
    refine entryB_iff.2 ⟨ho, hb, ty, cy, ?_, ?_, ?_, ?_, ?_⟩
    · by_cases e : a = n <;> simp [e]
    · by_cases e : a = n <;> simp [e]
    · by_cases e : a = n
      · simp only [e, if_true]; intro u hu; simp at hu; subst hu; exact nn
      · simp only [if_neg e]; intro u hu; simp at hu; rcases hu with rfl | rfl <;> assumption
    · by_cases e : a = n <;> simp [e, mvP, mvP1]
    · by_cases e : a = n
      · simp only [e, if_true]; intro _; show proofB ((1 : Nat) : Int) mvP1 = true; decide
      · simp only [if_neg e]; intro _; show proofB ((2 : Nat) : Int) mvP = true; decide
  refine ⟨HL, hE, rfl, hix, Or.inr ⟨hnm, hl, p, q, hp, hq, hy⟩, fun h60 => ?_⟩
  have HM := lib_add HL hE hix h60
  have hi := idxN_last HM
  have hlt : l.length < (l ++ [(⟨o, b, y1, if a = n then [a] else [a, n], if a = n then mvP1 else mvP⟩ : En)]).length := by simp
  have hg : (l ++ [(⟨o, b, y1, if a = n then [a] else [a, n], if a = n then mvP1 else mvP⟩ : En)])[l.length] = ⟨o, b, y1, if a = n then [a] else [a, n], if a = n then mvP1 else mvP⟩ := by simp
  have hS : StrP s (l ++ [(⟨o, b, y1, if a = n then [a] else [a, n], if a = n then mvP1 else mvP⟩ : En)]) ⟨o, b, y1, if a = n then [a] else [a, n], if a = n then mvP1 else mvP⟩ (y1, true) := by
    have hp' := saysN_append hp [(⟨o, b, y1, if a = n then [a] else [a, n], if a = n then mvP1 else mvP⟩ : En)]
    have hq' := saysN_append hq [(⟨o, b, y1, if a = n then [a] else [a, n], if a = n then mvP1 else mvP⟩ : En)]
    refine Or.inr ⟨by by_cases e : a = n <;> simp [e, mvP, mvP1], Or.inr ?_⟩
    by_cases e : a = n
    · subst e
      have hpq : p = q := by rw [hp] at hq; exact Option.some.inj hq
      subst hpq
      refine ⟨[p], (y1, 0), ?_, Or.inr ⟨?_, [p, y1], ?_, Or.inl ⟨rfl, rfl⟩⟩, rfl⟩
      · simp only [if_true] at hp' ⊢
        unfold givL; unfold givL; rw [hp']
      · unfold askedB givensB
        rw [HL.sign]
        simp [allB, tp]
        decide
      · show RunR s [p] (if a = a then mvP1 else mvP) [p, y1] 0
        rw [if_pos rfl]
        exact run_moved1 cp hy
    · refine ⟨[p, q], (y1, 0), ?_, Or.inr ⟨?_, [p, q, y1], ?_, Or.inl ⟨rfl, ?_⟩⟩, rfl⟩
      · simp only [if_neg e] at hp' hq' ⊢
        unfold givL; unfold givL; unfold givL; rw [hp', hq']
      · unfold askedB givensB
        rw [HL.sign]
        simp [allB, tp, tq, e]
        decide
      · show RunR s [p, q] (if a = n then mvP1 else mvP) [p, q, y1] 0
        rw [if_neg e]
        exact run_moved cp cq hy
      · rfl
  refine ⟨Or.inr ⟨libB_iff.2 HM, Or.inr ⟨l.length, hlt, hi, ?_, rfl⟩⟩, Or.inr ⟨libB_iff.2 HM, Or.inr ⟨l.length, hlt, hi, (y1, true), ?_, Or.inl ⟨rfl, rfl, rfl⟩⟩⟩⟩
  · rw [hg]
    exact ⟨_, hS, by simp [instB_refl, ty]⟩
  · rw [hg]; exact hS
theorem HoldR.unique {s : Sg} {l : List En} {n : Nm} {z z' : Bool} {e e' : Int} (h : HoldR s l n z e) (k : HoldR s l n z' e') : z = z' ∧ e = e' := by
  rcases h with ⟨h1, rfl, rfl⟩ | ⟨h1, h⟩
  · rcases k with ⟨-, rfl, rfl⟩ | ⟨k1, -⟩
    · exact ⟨rfl, rfl⟩
    · rw [h1] at k1; cases k1
  · rcases k with ⟨k1, -⟩ | ⟨-, k⟩
    · rw [h1] at k1; cases k1
    · rcases h with ⟨h2, rfl, rfl⟩ | ⟨i, hi, h2, ⟨x, hx, rfl⟩, rfl⟩
      · rcases k with ⟨-, rfl, rfl⟩ | ⟨j, hj, k2, -⟩
        · exact ⟨rfl, rfl⟩
        · rw [h2] at k2; cases k2
      · rcases k with ⟨k2, -⟩ | ⟨j, hj, k2, ⟨y, hy, rfl⟩, rfl⟩
        · rw [h2] at k2; cases k2
        · rw [h2] at k2; cases k2
          rw [hx.unique hy]; exact ⟨rfl, rfl⟩
theorem StgR.unique {s : Sg} {l : List En} {n : Nm} {t t' : List Int} {e e' : Int} (h : StgR s l n t e) (k : StgR s l n t' e') : t = t' ∧ e = e' := by
  rcases h with ⟨h1, rfl, rfl⟩ | ⟨h1, h⟩
  · rcases k with ⟨-, rfl, rfl⟩ | ⟨k1, -⟩
    · exact ⟨rfl, rfl⟩
    · rw [h1] at k1; cases k1
  · rcases k with ⟨k1, -⟩ | ⟨-, k⟩
    · rw [h1] at k1; cases k1
    · rcases h with ⟨h2, rfl, rfl⟩ | ⟨i, hi, h2, x, hx, h3⟩
      · rcases k with ⟨-, rfl, rfl⟩ | ⟨j, hj, k2, -⟩
        · exact ⟨rfl, rfl⟩
        · rw [h2] at k2; cases k2
      · rcases k with ⟨k2, -⟩ | ⟨j, hj, k2, y, hy, k3⟩
        · rw [h2] at k2; cases k2
        · rw [h2] at k2; cases k2
          have e := hx.unique hy
          subst e
          rcases h3 with ⟨a1, rfl, rfl⟩ | ⟨a1, rfl, rfl⟩
          · rcases k3 with ⟨b1, rfl, rfl⟩ | ⟨b1, rfl, rfl⟩
            · exact ⟨rfl, rfl⟩
            · rw [a1] at b1; cases b1
          · rcases k3 with ⟨b1, rfl, rfl⟩ | ⟨b1, rfl, rfl⟩
            · rw [a1] at b1; cases b1
            · exact ⟨rfl, rfl⟩
end Go.Proofs.YtpflkjldapmgdaaGreat
