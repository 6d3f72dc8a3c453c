/-
  WHAT IT HOLDS: the contract of Added of package carry. Conditions: the arguments read as data; small signs, small libraries.
  WHAT IT HOLDS: the plain law of statements that go along: one answer alone; what goes along is proved by the moved entry. No program in sight.
  WHAT IT HOLDS: the walk of the law CarryAlong: it returns true. Conditions: the arguments read as data.
-/
import Derived.Test.YtpflkjldapmgdaaGreatZRCarryAlong46
import Derived.Test.YtpflkjldapmgdaaGreatZRCarryAlong39
import Derived.Test.YtpflkjldapmgdaaGreatZRCarryAlong33
import Derived.Test.YtpflkjldapmgdaaGreatZRCarryAlong42
import Derived.Test.YtpflkjldapmgdaaGreatZRCarryAlong18
import Derived.Test.YtpflkjldapmgdaaGreatZRCarryAlong45
namespace Go.Proofs.YtpflkjldapmgdaaGreat
open Go Go.RowKit Go.Maps
theorem EB.block {w w' : World} {b : Nat} {x : En} {vS vU vP : Value} (h : EB w b x vS vU vP) (hb : w'.heap[b]? = w.heap[b]?) : EB w' b x vS vU vP :=
  ⟨(World.cell?_of_block hb).trans h.c0, (World.cell?_of_block hb).trans h.c1, (World.cell?_of_block hb).trans h.c2, (World.cell?_of_block hb).trans h.c3, (World.cell?_of_block hb).trans h.c4⟩
theorem carry_Added1 (p : Nat) (x y : En) (vS vU vP uS uU uP : Value) (w : World) (hE : EB w p x uS uU uP) :
    Calls Tryz.prog 59 #[.agg #[.string y.name, .string y.who, vS, vU, vP], .pointer (some ⟨p, 0, none⟩)] w fun e w' => e = .returned (.bool (decide (y.name = x.name))) ∧ Below w.heap.size w w' := by
  have c0 := hE.c0
  have HB := hid (show Below w.heap.size w (w.alloc (.cells #[.string y.name, .string y.who, vS, vU, vP] 35)) from (Below.refl _ _).alloc (Nat.le_refl _) _)
  have hlt : p < w.heap.size := World.block_lt_of_cell? _ _ c0
  by_cases h : y.name = x.name
  · have q : (y.name.toList == x.name.toList) = true := by rw [bytes_eq]; simpa using h
    have HF := hid (decide_eq_true h)
    clear h
    go_enter Tryz.func59, Tryz.ntmps59
    go_wp2
    go_ret
    exact ⟨ret_bool HF.out.symm, HB.out⟩
  · have q : (y.name.toList == x.name.toList) = false := by rw [bytes_eq]; simpa using h
    have HF := hid (decide_eq_false h)
    clear h
    go_enter Tryz.func59, Tryz.ntmps59
    go_wp2
    go_ret
    exact ⟨ret_bool HF.out.symm, HB.out⟩
theorem carry_Added2 (y : En) (v : Value) (B : Nat) (w : World) (hB : B ≤ w.heap.size) (hO : EnO w B v y) :
    Calls Tryz.prog 61 #[v] w fun e w' => ∃ v', e = .returned v' ∧ EnO w' B v' y ∧ Below B w w' := by
  obtain ⟨vS, vU, vP, rfl, hO⟩ := hO
  obtain ⟨a1, k1, rfl⟩ := owns_slice hO.s
  obtain ⟨a2, k2, rfl⟩ := owns_slice hO.u
  obtain ⟨a3, k3, rfl⟩ := owns_slice hO.p
  have HO := hid hO
  clear hO
  go_enter Tryz.func61, Tryz.ntmps61
  go_wp2
  (try simp only [Exit.inBlock, Exit.then])
  refine bodyPost_ret (v := .agg #[.string y.name, .string y.who, .slice a1 y.says.length k1, .slice a2 y.uses.length k2, .slice a3 y.proof.length k3]) ?_ rfl ?_
  · simp only [results, Tryz.results61]
    go_simp
  · have h2 := ((Below.refl w.heap.size w).alloc (Nat.le_refl _) (.cells #[.string y.name, .string y.who, .slice a1 y.says.length k1, .slice a2 y.uses.length k2, .slice a3 y.proof.length k3] 35)).alloc (by simp) (.cells #[.string y.name, .string y.who, .slice a1 y.says.length k1, .slice a2 y.uses.length k2, .slice a3 y.proof.length k3] 35)
    exact ⟨_, rfl, ⟨_, _, _, rfl, HO.out.blocks (Nat.le_refl _) fun q _ hq => h2.block q hq⟩, h2.mono hB⟩
/-- what Added answers. -/
def addR (s : Sg) (l : List En) (x : En) : List En × Int := if libB s l && entryB s x then (if (idxN l x.name).isSome then ([], 6) else if l.length = 60 then ([], 4) else (l ++ [x], 0)) else ([], 1)
theorem addR_1 {s : Sg} {l : List En} {x : En} (h : libB s l = false ∨ entryB s x = false) : addR s l x = ([], 1) := by
  unfold addR; rcases h with h | h <;> simp [h]
theorem addR_2 {s : Sg} {l : List En} {x : En} (h1 : libB s l = true) (h2 : entryB s x = true) : addR s l x = if (idxN l x.name).isSome then ([], 6) else if l.length = 60 then ([], 4) else (l ++ [x], 0) := by
  unfold addR; rw [h1, h2]; rfl
theorem names_any (l : List En) (n : Nm) (p : Nat → Bool) (hp : ∀ i (h : i < l.length), p i = decide (l[i].name = n)) : (List.range l.length).any p = (idxN l n).isSome := by
  rw [Bool.eq_iff_iff, List.any_eq_true]
  constructor
  · rintro ⟨i, hi, h⟩
    have hi := List.mem_range.1 hi
    rw [hp i hi, decide_eq_true_eq] at h
    cases e : idxN l n with
    | some _ => rfl
    | none => exact absurd h (idxN_none e _ (List.getElem_mem hi))
  · intro h
    obtain ⟨i, hi⟩ := Option.isSome_iff_exists.1 h
    obtain ⟨h1, h2⟩ := idxN_some hi
    exact ⟨i, List.mem_range.2 h1, by rw [hp i h1]; simpa using h2⟩
theorem ent_sm {s : Sg} {x : En} (h : entryB s x = true) : EnSm x := by
  have h1 := entryB_iff.1 h
  have h2 := h1.len
  have h3 := (termB_T h1.says).ne
  have h4 := (termB_facts h1.says).2.2.2
  refine ⟨h3, by omega, by omega, ?_⟩
  by_cases h0 : x.proof.length = 0
  · omega
  · have := proof60 (h1.proof h0); omega
theorem EntsAt.nil' (w : World) : EntsAt w (.slice none 0 0) [] := EntsAt.nil w
set_option maxHeartbeats 4000000 in
set_option maxRecDepth 100000 in
theorem carry_Added (vs vl vS vU vP : Value) (s : Sg) (l : List En) (x : En) (w : World) (hs : SignAt w vs s) (hl : EntsAt w vl l) (hx : EntAt w vS vU vP x) (hs1 : s.length ≤ 1000) (hl1 : l.length ≤ 1000) :
    Calls Tryz.prog 18 #[vs, vl, .agg #[.string x.name, .string x.who, vS, vU, vP]] w fun e w' => ∃ u, e = .returned (.tuple #[u, .int .i64 (addR s l x).2]) ∧ EntsAt w' u (addR s l x).1 ∧ Below w.heap.size w w' := by
  obtain ⟨xa, xc, rfl, -⟩ := hx.s.open
  obtain ⟨ya, yc, rfl, -⟩ := hx.u.open
  obtain ⟨za, zc, rfl, -⟩ := hx.p.open
  obtain ⟨la, lc, rfl, -, ll, -⟩ := hl.open
  have EB0 := EB.new w x (.slice xa x.says.length xc) (.slice ya x.uses.length yc) (.slice za x.proof.length zc) 35
  obtain ⟨W, hW⟩ : ∃ W, w.alloc (.cells #[.string x.name, .string x.who, .slice xa x.says.length xc, .slice ya x.uses.length yc, .slice za x.proof.length zc] 35) = W := ⟨_, rfl⟩
  have hbW : Below w.heap.size w W := hW ▸ (Below.refl _ _).alloc (Nat.le_refl _) _
  rw [hW] at EB0
  have HV := hid (deps_Valid vs _ s l W (hs.below hbW) (hl.below hbW) hs1 hl1)
  have HVE := hid (fun (X : World) (hX : Below w.heap.size w X) => deps_ValidEntry vs _ _ _ s x X (hs.below hX) (hx.below hX) hs1)
  have HLL := hid hl
  have HX := hid hx
  have HW := hid hW
  have HEB := hid EB0
  have HBW := hid hbW
  clear hW EB0 hbW hl hs hx
  cases g1 : libB s l
  · have HF := hid (addR_1 (l := l) (x := x) (Or.inl g1))
    rw [g1] at HV
    clear g1
    go_enter Tryz.func18, Tryz.ntmps18
    go_wp2_with fail
    rw [HW.out]
    refine HV.out.mono ?_
    rintro e w1 ⟨rfl, hb1⟩
    go_wp2
    go_ret2
    exact ⟨_, by rw [HF.out]; rfl, by rw [HF.out]; exact EntsAt.nil' _, HBW.out.trans (hb1.mono HBW.out.size)⟩
  rw [g1] at HV
  cases g2 : entryB s x
  · have HF := hid (addR_1 (l := l) (x := x) (Or.inr g2))
    simp only [g2] at HVE
    clear g1 g2
    go_enter Tryz.func18, Tryz.ntmps18
    go_wp2_with fail
    rw [HW.out]
    refine HV.out.mono ?_
    rintro e w1 ⟨rfl, hb1⟩
    have hbw1 := HBW.out.trans (hb1.mono HBW.out.size)
    obtain ⟨c0, c1, c2, c3, c4⟩ := HEB.out.below hb1
    have HV1 := hid (HVE.out w1 hbw1)
    go_wp2_with fail
    refine HV1.out.mono ?_
    rintro e w2 ⟨rfl, hb2⟩
    go_wp2
    go_ret2
    exact ⟨_, by rw [HF.out]; rfl, by rw [HF.out]; exact EntsAt.nil' _, hbw1.trans (hb2.mono hbw1.size)⟩
  simp only [g2] at HVE
  have HAR := hid (addR_2 g1 g2)
  have HLIB := hid g1
  have HSM := hid (ent_sm g2)
  have HSL := hid (fun (y : En) (hy : y ∈ l) => ent_sm (entryB_iff.2 ((libB_iff.1 g1).ents y hy)))
  clear g1 g2
  go_enter Tryz.func18, Tryz.ntmps18
  go_wp2_with fail
  rw [HW.out]
  refine HV.out.mono ?_
  rintro e w1 ⟨rfl, hb1⟩
  have hbw1 := HBW.out.trans (hb1.mono HBW.out.size)
  have HV1 := hid (HVE.out w1 hbw1)
  have EB1 := HEB.out.below hb1
  obtain ⟨c0, c1, c2, c3, c4⟩ := EB1
  go_wp2_with fail
  refine HV1.out.mono ?_
  rintro e w2 ⟨rfl, hb2⟩
  have hbw2 := hbw1.trans (hb2.mono hbw1.size)
  have EB2 := (EB.below (x := x) ⟨c0, c1, c2, c3, c4⟩ hb2)
  have HCF := hid (sl_ContainsFunc_ents 59 #[.pointer (some ⟨w.heap.size, 0, none⟩)] (enters_of Tryz.func59 (by kernel_rfl) rfl) (.slice la l.length lc) l w2 (HLL.out.below hbw2) (fun i => decide ((l.getD i en0).name = x.name)) (by
    intro i hi vs vu vp X hX _
    have e1 : l.getD i en0 = l[i] := by rw [List.getD_eq_getElem?_getD, List.getElem?_eq_getElem hi]; rfl
    simp only [e1]
    exact carry_Added1 w.heap.size x l[i] vs vu vp _ _ _ X (EB2.below hX)))
  rw [names_any l x.name _ (fun i h => by rw [List.getD_eq_getElem?_getD, List.getElem?_eq_getElem h]; rfl)] at HCF
  have HEB2 := hid EB2
  have HB2 := hid hbw2
  clear c0 c1 c2 c3 c4 hb1 hb2 hbw1 hbw2 EB2
  go_wp2_with fail
  refine HCF.out.mono ?_
  rintro e w3 ⟨rfl, hb3⟩
  have hbw3 := HB2.out.trans (hb3.mono HB2.out.size)
  have HEB3 := hid (HEB2.out.below hb3)
  cases g3 : (idxN l x.name).isSome
  case true =>
    have HF : Hid (addR s l x = ([], 6)) := hid (by rw [HAR.out, g3]; rfl)
    clear g3
    go_wp2
    go_ret2
    exact ⟨_, by rw [HF.out]; rfl, by rw [HF.out]; exact EntsAt.nil' _, hbw3⟩
  by_cases g4 : l.length = 60
  · have HF : Hid (addR s l x = ([], 4)) := hid (by rw [HAR.out, g3, if_neg (by simp), if_pos g4])
    have q4 : ((l.length : Int) == 60) = true := by simp [g4]
    clear g3 g4
    go_wp2
    go_ret2
    exact ⟨_, by rw [HF.out]; rfl, by rw [HF.out]; exact EntsAt.nil' _, hbw3⟩
  have HF : Hid (addR s l x = (l ++ [x], 0)) := hid (by rw [HAR.out, g3, if_neg (by simp), if_neg g4])
  have q4 : ((l.length : Int) == 60) = false := by rw [beq_eq_false_iff_ne]; omega
  have HB3 := hid hbw3
  have HL60 : Hid (l.length ≤ 60) := hid (libB_iff.1 HLIB.out).len
  have HEA := hid (fun (X : World) (hX : Below w3.heap.size w3 X) => carry_each 61 #[] (enters_of Tryz.func61 (by kernel_rfl) rfl) (.slice la l.length lc) l id X ((HLL.out.below hbw3).below hX) hl1 HSL.out (fun i h W v B _ hB _ hO => carry_Added2 l[i] v B W hB hO))
  have HCP := hid (fun (X : World) (hX : Below w3.heap.size w3 X) => carry_copied (.slice xa x.says.length xc) (.slice ya x.uses.length yc) (.slice za x.proof.length zc) x X ((HX.out.below hbw3).below hX) HSM.out.1 HSM.out.2.1 HSM.out.2.2.1 HSM.out.2.2.2)
  obtain ⟨c0, c1, c2, c3, c4⟩ := HEB3.out
  have d0 := c0
  clear g3 g4 hb3 hbw3 HEB HEB2 HEB3
  go_wp2
  have hbZ : Below w3.heap.size w3 w3 := Below.refl _ _
  refine wp_region_held_drew (S := fun w' => w'.cell? ⟨w.heap.size, 0, none⟩ = some (.string x.name) ∧ w'.cell? ⟨w.heap.size, 1, none⟩ = some (.string x.who) ∧ w'.cell? ⟨w.heap.size, 2, none⟩ = some (.slice xa x.says.length xc) ∧ w'.cell? ⟨w.heap.size, 3, none⟩ = some (.slice ya x.uses.length yc) ∧ w'.cell? ⟨w.heap.size, 4, none⟩ = some (.slice za x.proof.length zc)) (by kernel_rfl) ?_ (fun hHeld => ?_)
  · exact ⟨c0, c1, c2, c3, c4⟩
  refine wpAnyH_take (i := 0) (oi := { dst := some 27, op := Op.move (Operand.tmp 1), type := 24, pos := _, after := _, guard := none }) (v := ?_) rfl (by kernel_rfl) (by kernel_rfl) (by kernel_rfl) (fun _ _ _ h => h) (Or.inl ⟨by rfl, ?_⟩) hHeld ?_
  rotate_left
  · (intro w hSw; (try dsimp only at hSw); go_simp; (try with_reducible rfl))
  (try simp only [Act.put, List.setIfInBounds_toArray, List.set_cons_zero, List.set_cons_succ])
  refine wpAnyH_take (i := 2) (oi := { dst := some 29, op := Op.load 35 (Operand.tmp 5), type := 35, pos := _, after := _, guard := none }) (v := ?_) rfl (by kernel_rfl) (by kernel_rfl) (by kernel_rfl) (fun _ _ _ h => h) (Or.inl ⟨by rfl, ?_⟩) hHeld ?_
  rotate_left
  · (intro w hSw; (try dsimp only at hSw); go_simp; (try with_reducible rfl))
  (try simp only [Act.put, List.setIfInBounds_toArray, List.set_cons_zero, List.set_cons_succ])
  refine wpAnyH_ready (rs := [1]) (by kernel_rfl) (by simp) ?_
  refine AllReadyH.cons (o := { dst := some 28, op := Op.call { callee := Callee.value (Operand.func 60), args := #[Operand.tmp 27, Operand.func 61], argTypes := #[24, 87] }, type := 24, pos := _, after := _, guard := none }) rfl (fun K hK => ?_) AllReadyH.nil
  (try go_simp)
  (go_at_call 60; refine (HEA.out _ (by first | exact hbZ | exact hbZ.drew | exact below_drewN hbZ _)).mono ?_; rintro e wz ⟨ue, vvs, rfl, hE0, hb1⟩; have hbZ := Below.trans (show Below w3.heap.size w3 _ from (by first | exact hbZ | exact hbZ.drew | exact below_drewN hbZ _)) (hb1.mono (by first | exact hbZ.size | (simp; exact hbZ.size))); obtain ⟨c0, c1, c2, c3, c4⟩ := EB.below (x := x) ⟨c0, c1, c2, c3, c4⟩ hbZ; rw [List.map_id] at hE0; have hE0 : EnS wz w3.heap.size ue vvs l := hE0; obtain ⟨ea, ec, rfl⟩ := hE0.slice)
  refine hK.out _ _ ?_ (fun hHeld => ?_)
  · exact ⟨c0, c1, c2, c3, c4⟩
  clear hK K
  (try simp only [Act.put, List.setIfInBounds_toArray, List.set_cons_zero, List.set_cons_succ])
  refine wpAnyH_ready (rs := [3]) (by kernel_rfl) (by simp) ?_
  refine AllReadyH.cons (o := { dst := some 30, op := Op.call { callee := Callee.value (Operand.func 62), args := #[Operand.tmp 29], argTypes := #[35] }, type := 35, pos := _, after := _, guard := none }) rfl (fun K hK => ?_) AllReadyH.nil
  (try go_simp)
  (go_at_call 62; refine (HCP.out _ hbZ).mono ?_; rintro e wc ⟨vc, rfl, ⟨uS, uU, uP, rfl, hO⟩, hb2⟩; have hE2 := hE0.below hb2; have hbY := hbZ.trans (hb2.mono hbZ.size); obtain ⟨c0, c1, c2, c3, c4⟩ := EB.below (x := x) ⟨c0, c1, c2, c3, c4⟩ hb2; obtain ⟨a1, k1, rfl⟩ := owns_slice hO.s; obtain ⟨a2, k2, rfl⟩ := owns_slice hO.u; obtain ⟨a3, k3, rfl⟩ := owns_slice hO.p)
  refine hK.out _ _ ?_ (fun hHeld => ?_)
  · exact ⟨c0, c1, c2, c3, c4⟩
  clear hK K
  (try simp only [Act.put, List.setIfInBounds_toArray, List.set_cons_zero, List.set_cons_succ])
  refine wpAnyH_ready (rs := [4]) (by kernel_rfl) (by simp) ?_
  refine AllReadyH.cons (o := { dst := some 31, op := Op.buildSlice 24 1 #[(0, Operand.tmp 30)], type := 24, pos := _, after := _, guard := none }) rfl (fun K hK => ?_) AllReadyH.nil
  (try go_simp)
  (have hbA : Below wc.heap.size wc (wc.alloc (.cells #[.string x.name, .string x.who, .slice a1 x.says.length k1, .slice a2 x.uses.length k2, .slice a3 x.proof.length k3] 35)) := (Below.refl _ _).alloc (Nat.le_refl _) _; obtain ⟨c0, c1, c2, c3, c4⟩ := EB.below (x := x) ⟨c0, c1, c2, c3, c4⟩ hbA; have HROW := row_one_ent wc (.string x.name) (.string x.who) (.slice a1 x.says.length k1) (.slice a2 x.uses.length k2) (.slice a3 x.proof.length k3) 35; have hownA := hE2.top.alloc (.cells #[.string x.name, .string x.who, .slice a1 x.says.length k1, .slice a2 x.uses.length k2, .slice a3 x.proof.length k3] 35))
  refine hK.out _ _ ?_ (fun hHeld => ?_)
  · exact ⟨c0, c1, c2, c3, c4⟩
  clear hK K
  (try simp only [Act.put, List.setIfInBounds_toArray, List.set_cons_zero, List.set_cons_succ])
  refine wpAnyH_ready (rs := [5]) (by kernel_rfl) (by simp) ?_
  refine AllReadyH.cons (o := { dst := some 32, op := Op.call { callee := Callee.builtin Builtin.append, args := #[Operand.tmp 28, Operand.tmp 31], argTypes := #[24, 24] }, type := 24, pos := _, after := _, guard := none }) rfl (fun K hK => ?_) AllReadyH.nil
  (refine step_append_lie rfl (.tmp 28) (.tmp 31) 24 rfl w3.heap.size 35 el_ent Tryz.underlying24 rfl (by decide) _ l.length (ensC l vvs) rfl hownA _ 1 (enC x (.slice a1 x.says.length k1, .slice a2 x.uses.length k2, .slice a3 x.proof.length k3)) rfl HROW (enC_one _ _ _ _ _ _ _ _ _ _) (by omega) (by omega) (by omega) (by have := hbY.size; simp; omega) _ rfl ?_; intro g cap w4 hown4 hgrow4 hat4 hlt4; have hpw : w.heap.size < w3.heap.size := World.block_lt_of_cell? _ _ d0; obtain ⟨c0, c1, c2, c3, c4⟩ := EB.block (x := x) ⟨c0, c1, c2, c3, c4⟩ (hgrow4.block w.heap.size (by have := hbY.size; simp; omega) (fun e => by have := (hE2.top.lt w.heap.size e.symm).1; omega)))
  refine hK.out _ _ ?_ (fun hHeld => ?_)
  · exact ⟨c0, c1, c2, c3, c4⟩
  clear hK K
  (try simp only [Act.put, List.setIfInBounds_toArray, List.set_cons_zero, List.set_cons_succ])
  refine wpAnyH_take (i := 6) (oi := { dst := some 6, op := Op.assign (Operand.tmp 32), type := 24, pos := _, after := _, guard := none }) (v := ?_) rfl (by kernel_rfl) (by kernel_rfl) (by kernel_rfl) (fun _ _ _ h => h) (Or.inl ⟨by rfl, ?_⟩) hHeld ?_
  rotate_left
  · (intro w hSw; (try dsimp only at hSw); go_simp; (try with_reducible rfl))
  (try simp only [Act.put, List.setIfInBounds_toArray, List.set_cons_zero, List.set_cons_succ])
  refine wpAnyH_take (i := 7) (oi := { dst := some 7, op := Op.assign (Operand.const (Value.int IntKind.i64 0)), type := 29, pos := _, after := _, guard := none }) (v := ?_) rfl (by kernel_rfl) (by kernel_rfl) (by kernel_rfl) (fun _ _ _ h => h) (Or.inl ⟨by rfl, ?_⟩) hHeld ?_
  rotate_left
  · (intro w hSw; (try dsimp only at hSw); go_simp; (try with_reducible rfl))
  (try simp only [Act.put, List.setIfInBounds_toArray, List.set_cons_zero, List.set_cons_succ])
  refine wpAnyH_done (by kernel_rfl) ?_ _
  have hE4 := hE2.push (w1 := wc.alloc (.cells #[.string x.name, .string x.who, .slice a1 x.says.length k1, .slice a2 x.uses.length k2, .slice a3 x.proof.length k3] 35)) ((Below.refl _ _).alloc (Nat.le_refl _) _) (x := x) (v := (.slice a1 x.says.length k1, .slice a2 x.uses.length k2, .slice a3 x.proof.length k3)) (fun W' hW' => (hO.blocks (base' := 0) (Nat.zero_le _) fun q h1 h2 => (hW' q (by simp; omega) (fun e => by
    have := (hE0.top.lt q e.symm).2
    omega)).trans (Below.heap_alloc _ _ _ h2)).ent) rfl hown4 hgrow4 rfl hat4
  have HEN : Hid (EntsAt w4 (.slice (some ⟨g, 0, none⟩) (l.length + 1) cap) (l ++ [x])) := hid ⟨_, hE4.ents (by simp; have := HL60.out; omega)⟩
  have HB4 : Hid (Below w.heap.size w w4) := hid (((HB3.out.trans (hbY.mono HB3.out.size)).alloc (by have := hbY.size; have := HB3.out.size; omega) _).grown hgrow4 (by have := hbY.size; have := HB3.out.size; simp; omega) (fun q hq => by have := (hE2.top.lt q hq).1; omega))
  clear hE4 hE2 hE0 hO hown4 hgrow4 hat4 hlt4 hbA HROW hownA hbY hbZ hb1 hb2 hHeld c0 c1 c2 c3 c4 d0
  go_wp2
  go_ret2
  exact ⟨_, by rw [HF.out]; rfl, by rw [HF.out]; exact HEN.out, HB4.out⟩
end Go.Proofs.YtpflkjldapmgdaaGreat
namespace Go.Proofs.YtpflkjldapmgdaaGreat
open Go Go.RowKit Go.Maps
theorem AloR.unique {s : Sg} {l : List En} {a n : Nm} {x y : List Int × Int} (h : AloR s l a n x) (k : AloR s l a n y) : x = y := by
  rcases h with ⟨h1, rfl⟩ | ⟨h1, -, p, q, hp, hq, hx⟩
  · rcases k with ⟨-, rfl⟩ | ⟨k1, -⟩
    · rfl
    · exact absurd k1 h1
  · rcases k with ⟨k1, -⟩ | ⟨-, -, p', q', hp', hq', hy⟩
    · exact absurd h1 k1
    · rw [hp] at hp'; rw [hq] at hq'; cases hp'; cases hq'
      exact hx.unique hy
theorem TheR.unique {s : Sg} {l : List En} {a b n : Nm} {x y : List Int × Int} (h : TheR s l a b n x) (k : TheR s l a b n y) : x = y := by
  rcases h with ⟨h1, rfl⟩ | ⟨h1, -, p, q, r, z, hp, hq, hr, hz, hx⟩
  · rcases k with ⟨-, rfl⟩ | ⟨k1, -⟩
    · rfl
    · exact absurd k1 h1
  · rcases k with ⟨k1, -⟩ | ⟨-, -, p', q', r', z', hp', hq', hr', hz', hy⟩
    · exact absurd h1 k1
    · rw [hp] at hp'; rw [hq] at hq'; rw [hr] at hr'; cases hp'; cases hq'; cases hr'
      have e := hz.unique hz'
      subst e
      rcases hx with ⟨h2, rfl⟩ | ⟨h2, hx⟩
      · rcases hy with ⟨-, rfl⟩ | ⟨k2, -⟩
        · rfl
        · exact absurd k2 h2
      · rcases hy with ⟨k2, -⟩ | ⟨-, hy⟩
        · exact absurd h2 k2
        · exact hx.unique hy
theorem MovR.unique {s : Sg} {l : List En} {a n o b : Nm} {x y : En} {e f : Int} (h : MovR s l a n o b x e) (k : MovR s l a n o b y f) : x = y ∧ e = f := by
  rcases h with ⟨h1, rfl, rfl⟩ | ⟨h1, p, q, z, hp, hq, hz, hx⟩
  · rcases k with ⟨-, rfl, rfl⟩ | ⟨k1, -⟩
    · exact ⟨rfl, rfl⟩
    · exact absurd k1 h1
  · rcases k with ⟨k1, -⟩ | ⟨-, p', q', z', hp', hq', hz', hy⟩
    · exact absurd h1 k1
    · rw [hp] at hp'; rw [hq] at hq'; cases hp'; cases hq'
      have e := hz.unique hz'
      subst e
      rcases hx with ⟨h2, rfl, rfl⟩ | ⟨h2, rfl, rfl⟩
      · rcases hy with ⟨-, rfl, rfl⟩ | ⟨k2, -⟩
        · exact ⟨rfl, rfl⟩
        · exact absurd k2 h2
      · rcases hy with ⟨k2, -⟩ | ⟨-, rfl, rfl⟩
        · exact absurd h2 k2
        · exact ⟨rfl, rfl⟩
theorem SayP.unique {s : Sg} {g : List (List Int)} {p : List St} {x y : List Int × Int} (h : SayP s g p x) (k : SayP s g p y) : x = y := by
  rcases h with ⟨h1, rfl⟩ | ⟨h1, l, hr, hx⟩
  · rcases k with ⟨-, rfl⟩ | ⟨k1, -⟩
    · rfl
    · rw [h1] at k1; cases k1
  · rcases k with ⟨k1, -⟩ | ⟨-, l', hr', hy⟩
    · rw [h1] at k1; cases k1
    · obtain ⟨rfl, he⟩ := hr.unique hr'
      rcases hx with ⟨h2, h3⟩ | ⟨h2, h3⟩
      · rcases hy with ⟨-, k3⟩ | ⟨k2, -⟩
        · rw [h3] at k3; exact Prod.ext (Option.some.inj k3) he
        · exact absurd (he ▸ h2) k2
      · rcases hy with ⟨k2, -⟩ | ⟨-, k3⟩
        · exact absurd (he ▸ k2) h2
        · exact Prod.ext (h3.trans k3.symm) he
theorem StrP.unique {s : Sg} {l : List En} {e : En} {x y : List Int × Bool} (h : StrP s l e x) (k : StrP s l e y) : x = y := by
  rcases h with ⟨h1, rfl⟩ | ⟨h1, h⟩
  · rcases k with ⟨-, rfl⟩ | ⟨k1, -⟩
    · rfl
    · exact absurd h1 k1
  · rcases k with ⟨k1, -⟩ | ⟨-, k⟩
    · exact absurd k1 h1
    · rcases h with ⟨h2, rfl⟩ | ⟨g, z, h2, h3, rfl⟩
      · rcases k with ⟨-, rfl⟩ | ⟨g', z', k2, -, rfl⟩
        · rfl
        · rw [h2] at k2; cases k2
      · rcases k with ⟨k2, -⟩ | ⟨g', z', k2, k3, rfl⟩
        · rw [h2] at k2; cases k2
        · rw [h2] at k2; cases k2
          rw [h3.unique k3]
theorem det_term {s : Sg} {m n t : List Int} (h : DetR s m n (t, 0)) : termB s t = true ∧ canonL t = t := by
  rcases h with ⟨-, h⟩ | ⟨hv, -, ⟨-, h⟩ | ⟨A, B, -, -, tB, ⟨-, h⟩ | ⟨m, hm, ⟨hb, h⟩ | ⟨-, h⟩⟩⟩⟩
  · simp at h
  · simp at h
  · simp at h
  · simp only [Prod.mk.injEq, and_true] at h
    subst h
    exact ⟨made_term (termB_facts hv).1 (fw_T hm.1 (tB.mono (by omega))) hb, canonL_canon _⟩
  · simp at h
theorem saysN_name {s : Sg} {l : List En} (h : LibOK s l) {n : Nm} {t : List Int} (hs : saysN l n = some t) : nmB n = true ∧ termB s t = true ∧ canonL t = t := by
  cases e : idxN l n with
  | none => rw [saysN_none e] at hs; cases hs
  | some i =>
    obtain ⟨hi, h2⟩ := saysN_some e
    rw [h2] at hs
    cases hs
    obtain ⟨hi', hn⟩ := idxN_some e
    have hx := h.ents l[i] (List.getElem_mem hi)
    exact ⟨hn ▸ hx.name, hx.says, hx.can⟩
theorem frI_0 {s : Sg} {l : List En} {o b : Nm} {ns : List Nm} (h : frI s l o b ns = 0) : libB s l = true ∧ nmB o = true ∧ nmB b = true ∧ nmdI s l ns = 0 ∧ idxN l o = none := by
  unfold frI at h
  cases g1 : libB s l <;> cases g2 : nmB o <;> cases g3 : nmB b <;> simp only [g1, g2, g3] at h <;> simp at h
  refine ⟨rfl, rfl, rfl, ?_⟩
  by_cases h0 : nmdI s l ns = 0
  · rw [if_pos h0] at h
    refine ⟨h0, ?_⟩
    cases e : idxN l o with
    | none => rfl
    | some i => rw [e] at h; simp at h
  · rw [if_neg h0] at h; exact absurd h h0
theorem idxN_append {l : List En} {n : Nm} {i : Nat} (h : idxN l n = some i) (m : List En) : idxN (l ++ m) n = some i := by
  unfold idxN at h ⊢
  rw [List.map_append, List.findIdx?_append, h]; rfl
theorem saysN_append {l : List En} {n : Nm} {t : List Int} (h : saysN l n = some t) (m : List En) : saysN (l ++ m) n = some t := by
  cases e : idxN l n with
  | none => rw [saysN_none e] at h; cases h
  | some i =>
    obtain ⟨hi, h2⟩ := saysN_some e
    rw [h2] at h
    cases h
    unfold saysN
    rw [idxN_append e m]
    simp [List.getElem?_append_left hi, List.getElem?_eq_getElem hi]
theorem lib_add {s : Sg} {l : List En} {x : En} (h : LibOK s l) (hx : entryB s x = true) (hn : idxN l x.name = none) (hl : l.length ≠ 60) : LibOK s (l ++ [x]) := by
  refine ⟨h.sign, by have := h.len; simp; omega, fun y hy => ?_, ?_⟩
  · rcases List.mem_append.1 hy with hy | hy
    · exact h.ents y hy
    · simp at hy; subst hy; exact entryB_iff.1 hx
  · rw [List.map_append, List.nodup_append]
    refine ⟨h.nd, by simp, fun a ha b hb => ?_⟩
    simp at hb
    subst hb
    obtain ⟨y, hy, rfl⟩ := List.mem_map.1 ha
    exact idxN_none hn y hy
theorem idxN_last {s : Sg} {l : List En} {x : En} (h : LibOK s (l ++ [x])) : idxN (l ++ [x]) x.name = some l.length := by
  have := idxN_nd h.nd (i := l.length) (by simp)
  simpa using this
/-- the entry that is moved is one, and holds. -/
theorem moved_holds {s : Sg} {l : List En} {a n o b : Nm} {x : En} (h : MovR s l a n o b x 0) :
    LibOK s l ∧ entryB s x = true ∧ x.name = o ∧ idxN l o = none ∧ AloR s l a n (x.says, 0) ∧ (l.length ≠ 60 → HoldR s (l ++ [x]) o true 0 ∧ StgR s (l ++ [x]) o x.says 0) := by
  rcases h with ⟨h1, -, h2⟩ | ⟨h1, p, q, y, hp, hq, hy, ⟨h2, -, h3⟩ | ⟨h2, rfl, -⟩⟩
  · exact absurd h2.symm h1
  · exact absurd h3.symm h2
  obtain ⟨hl, ho, hb, hnm, hix⟩ := frI_0 h1
  have HL := libB_iff.1 hl
  obtain ⟨y1, y2⟩ := y
  simp only at h2
  subst h2
  obtain ⟨ty, cy⟩ := det_term hy
  obtain ⟨na, tp, cp⟩ := saysN_name HL hp
  obtain ⟨nn, tq, cq⟩ := saysN_name HL hq
  have hE : entryB s ⟨o, b, y1, if a = n then [a] else [a, n], if a = n then mvP1 else mvP⟩ = true := by
    refine entryB_iff.2 ⟨ho, hb, ty, cy, ?_, ?_, ?_, ?_, ?_⟩
    · by_cases e : a = n <;> simp [e]
    · by_cases e : a = n <;> simp [e]
    · by_cases e : a = n
      · simp only [e, if_true]; intro u hu; simp at hu; subst hu; exact nn
      · simp only [if_neg e]; intro u hu; simp at hu; rcases hu with rfl | rfl <;> assumption
    · by_cases e : a = n <;> simp [e, mvP, mvP1]
    · by_cases e : a = n
      · simp only [e, if_true]; intro _; show proofB ((1 : Nat) : Int) mvP1 = true; decide
      · simp only [if_neg e]; intro _; show proofB ((2 : Nat) : Int) mvP = true; decide
  refine ⟨HL, hE, rfl, hix, Or.inr ⟨hnm, hl, p, q, hp, hq, hy⟩, fun h60 => ?_⟩
  have HM := lib_add HL hE hix h60
  have hi := idxN_last HM
  have hlt : l.length < (l ++ [(⟨o, b, y1, if a = n then [a] else [a, n], if a = n then mvP1 else mvP⟩ : En)]).length := by simp
  have hg : (l ++ [(⟨o, b, y1, if a = n then [a] else [a, n], if a = n then mvP1 else mvP⟩ : En)])[l.length] = ⟨o, b, y1, if a = n then [a] else [a, n], if a = n then mvP1 else mvP⟩ := by simp
  have hS : StrP s (l ++ [(⟨o, b, y1, if a = n then [a] else [a, n], if a = n then mvP1 else mvP⟩ : En)]) ⟨o, b, y1, if a = n then [a] else [a, n], if a = n then mvP1 else mvP⟩ (y1, true) := by
    have hp' := saysN_append hp [(⟨o, b, y1, if a = n then [a] else [a, n], if a = n then mvP1 else mvP⟩ : En)]
    have hq' := saysN_append hq [(⟨o, b, y1, if a = n then [a] else [a, n], if a = n then mvP1 else mvP⟩ : En)]
    refine Or.inr ⟨by by_cases e : a = n <;> simp [e, mvP, mvP1], Or.inr ?_⟩
    by_cases e : a = n
    · subst e
      have hpq : p = q := by rw [hp] at hq; exact Option.some.inj hq
      subst hpq
      refine ⟨[p], (y1, 0), ?_, Or.inr ⟨?_, [p, y1], ?_, Or.inl ⟨rfl, rfl⟩⟩, rfl⟩
      · simp only [if_true] at hp' ⊢
        unfold givL; unfold givL; rw [hp']
      · unfold askedB givensB
        rw [HL.sign]
        simp [allB, tp]
        decide
      · show RunR s [p] (if a = a then mvP1 else mvP) [p, y1] 0
        rw [if_pos rfl]
        exact run_moved1 cp hy
    · refine ⟨[p, q], (y1, 0), ?_, Or.inr ⟨?_, [p, q, y1], ?_, Or.inl ⟨rfl, ?_⟩⟩, rfl⟩
      · simp only [if_neg e] at hp' hq' ⊢
        unfold givL; unfold givL; unfold givL; rw [hp', hq']
      · unfold askedB givensB
        rw [HL.sign]
        simp [allB, tp, tq, e]
        decide
      · show RunR s [p, q] (if a = n then mvP1 else mvP) [p, q, y1] 0
        rw [if_neg e]
        exact run_moved cp cq hy
      · rfl
  refine ⟨Or.inr ⟨libB_iff.2 HM, Or.inr ⟨l.length, hlt, hi, ?_, rfl⟩⟩, Or.inr ⟨libB_iff.2 HM, Or.inr ⟨l.length, hlt, hi, (y1, true), ?_, Or.inl ⟨rfl, rfl, rfl⟩⟩⟩⟩
  · rw [hg]
    exact ⟨_, hS, by simp [instB_refl, ty]⟩
  · rw [hg]; exact hS
theorem HoldR.unique {s : Sg} {l : List En} {n : Nm} {z z' : Bool} {e e' : Int} (h : HoldR s l n z e) (k : HoldR s l n z' e') : z = z' ∧ e = e' := by
  rcases h with ⟨h1, rfl, rfl⟩ | ⟨h1, h⟩
  · rcases k with ⟨-, rfl, rfl⟩ | ⟨k1, -⟩
    · exact ⟨rfl, rfl⟩
    · rw [h1] at k1; cases k1
  · rcases k with ⟨k1, -⟩ | ⟨-, k⟩
    · rw [h1] at k1; cases k1
    · rcases h with ⟨h2, rfl, rfl⟩ | ⟨i, hi, h2, ⟨x, hx, rfl⟩, rfl⟩
      · rcases k with ⟨-, rfl, rfl⟩ | ⟨j, hj, k2, -⟩
        · exact ⟨rfl, rfl⟩
        · rw [h2] at k2; cases k2
      · rcases k with ⟨k2, -⟩ | ⟨j, hj, k2, ⟨y, hy, rfl⟩, rfl⟩
        · rw [h2] at k2; cases k2
        · rw [h2] at k2; cases k2
          rw [hx.unique hy]; exact ⟨rfl, rfl⟩
theorem StgR.unique {s : Sg} {l : List En} {n : Nm} {t t' : List Int} {e e' : Int} (h : StgR s l n t e) (k : StgR s l n t' e') : t = t' ∧ e = e' := by
  rcases h with ⟨h1, rfl, rfl⟩ | ⟨h1, h⟩
  · rcases k with ⟨-, rfl, rfl⟩ | ⟨k1, -⟩
    · exact ⟨rfl, rfl⟩
    · rw [h1] at k1; cases k1
  · rcases k with ⟨k1, -⟩ | ⟨-, k⟩
    · rw [h1] at k1; cases k1
    · rcases h with ⟨h2, rfl, rfl⟩ | ⟨i, hi, h2, x, hx, h3⟩
      · rcases k with ⟨-, rfl, rfl⟩ | ⟨j, hj, k2, -⟩
        · exact ⟨rfl, rfl⟩
        · rw [h2] at k2; cases k2
      · rcases k with ⟨k2, -⟩ | ⟨j, hj, k2, y, hy, k3⟩
        · rw [h2] at k2; cases k2
        · rw [h2] at k2; cases k2
          have e := hx.unique hy
          subst e
          rcases h3 with ⟨a1, rfl, rfl⟩ | ⟨a1, rfl, rfl⟩
          · rcases k3 with ⟨b1, rfl, rfl⟩ | ⟨b1, rfl, rfl⟩
            · exact ⟨rfl, rfl⟩
            · rw [a1] at b1; cases b1
          · rcases k3 with ⟨b1, rfl, rfl⟩ | ⟨b1, rfl, rfl⟩
            · rw [a1] at b1; cases b1
            · exact ⟨rfl, rfl⟩
end Go.Proofs.YtpflkjldapmgdaaGreat
namespace Go.Proofs.YtpflkjldapmgdaaGreat
open Go Go.RowKit Go.Maps
theorem EntAt.slices {w : World} {vS vU vP : Value} {x : En} (h : EntAt w vS vU vP x) : ∃ a1 k1 a2 k2 a3 k3, vS = .slice a1 x.says.length k1 ∧ vU = .slice a2 x.uses.length k2 ∧ vP = .slice a3 x.proof.length k3 := by
  obtain ⟨a1, k1, h1, -⟩ := h.s.open
  obtain ⟨a2, k2, h2, -⟩ := h.u.open
  obtain ⟨a3, k3, h3, -⟩ := h.p.open
  exact ⟨a1, k1, a2, k2, a3, k3, h1, h2, h3⟩
set_option maxHeartbeats 8000000 in
set_option maxRecDepth 100000 in
theorem walk_CarryAlong (vs vl : Value) (a n o b : Nm) (s : Sg) (l : List En) (w : World) (hs : SignAt w vs s) (hl : EntsAt w vl l) (ha : a.size ≤ 140737488355328) (hn : n.size ≤ 140737488355328) (ho : o.size ≤ 140737488355328) (hbn : b.size ≤ 140737488355328) :
    Calls Tryz.prog 3 #[vs, vl, .string a, .string n, .string o, .string b] w fun e w' => e = .returned (.bool true) ∧ Below w.heap.size w w' := by
  have HSG := hid hs
  have HLL := hid hl
  clear hs hl
  go_enter Tryz.func3, Tryz.ntmps3
  go_wp2_with fail
  refine (law8_awake w).mono ?_
  rintro e w1 ⟨rfl, hb1⟩
  go_wp2_with fail
  refine (law8_heavy vs vl s l w1 (HSG.out.below hb1) (HLL.out.below hb1)).mono ?_
  rintro e w2 ⟨z, rfl, hz, hb2'⟩
  have hb2 := hb1.trans (hb2'.mono hb1.size)
  clear hb1 hb2'
  cases z
  case true =>
    clear hz
    go_wp2
    go_ret
    exact ⟨rfl, hb2⟩
  obtain ⟨hs20, hl100⟩ := hz rfl
  clear hz
  by_cases e1 : (a.size : Int) > 100
  · go_wp2
    go_ret
    exact ⟨rfl, hb2⟩
  by_cases e2 : (n.size : Int) > 100
  · go_wp2
    go_ret
    exact ⟨rfl, hb2⟩
  by_cases e3 : (o.size : Int) > 100
  · go_wp2
    go_ret
    exact ⟨rfl, hb2⟩
  by_cases e4 : (b.size : Int) > 100
  · go_wp2
    go_ret
    exact ⟨rfl, hb2⟩
  have HS1 := hid (show s.length ≤ 1000 by omega)
  have HL1 := hid (show l.length ≤ 1000 by omega)
  clear hs20 hl100
  have HB2 := hid hb2
  clear hb2
  go_wp2_with fail
  refine (carry_Along vs vl s l a n w2 (HSG.out.below HB2.out) (HLL.out.below HB2.out) HS1.out HL1.out ha hn).mono ?_
  rintro e w3 ⟨⟨t1, r1⟩, u1, hx1, rfl, hi1, hb3⟩
  have HB3 := hid (HB2.out.trans (hb3.mono HB2.out.size))
  clear hb3
  go_wp2_with fail
  refine (ref8_Along vs vl s l a n w3 (HSG.out.below HB3.out) (HLL.out.below HB3.out) HS1.out HL1.out ha hn).mono ?_
  rintro e w4 ⟨y, u2, hx2, rfl, hi2, hb4⟩
  have hy := hx2.unique hx1
  subst hy
  have HA := hid hx1
  have HI1 := hid (hi1.below hb4)
  have HI2 := hid hi2
  have HB4 := hid (HB3.out.trans (hb4.mono HB3.out.size))
  have n1 : (r1 != r1) = false := by simp
  clear hb4 hx1 hx2 hi1 hi2
  simp only
  go_wp2_with fail
  refine (carry_Moved vs vl s l a n o b w4 (HSG.out.below HB4.out) (HLL.out.below HB4.out) HS1.out HL1.out ha hn ho hbn).mono ?_
  rintro e w5 ⟨x, vS, vU, vP, r2, hm1, rfl, hE1, hb5⟩
  obtain ⟨a1, k1, a2, k2, a3, k3, rfl, rfl, rfl⟩ := hE1.slices
  have HB5 := hid (HB4.out.trans (hb5.mono HB4.out.size))
  have HI1a := hid (HI1.out.below hb5)
  have HI2a := hid (HI2.out.below hb5)
  have HE1 := hid hE1
  have EB5 := EB.new w5 x (.slice a1 x.says.length k1) (.slice a2 x.uses.length k2) (.slice a3 x.proof.length k3) 35
  obtain ⟨W5, hW5⟩ : ∃ W5, w5.alloc (.cells #[.string x.name, .string x.who, .slice a1 x.says.length k1, .slice a2 x.uses.length k2, .slice a3 x.proof.length k3] 35) = W5 := ⟨_, rfl⟩
  have hb55 : Below w5.heap.size w5 W5 := hW5 ▸ (Below.refl _ _).alloc (Nat.le_refl _) _
  rw [hW5] at EB5
  have HW5 := hid hW5
  have HB55 := hid hb55
  have HE5 := hid EB5
  have HBW5 := hid (HB5.out.trans (hb55.mono HB5.out.size))
  clear hb5 hb55 hE1 EB5 hW5
  go_wp2_with fail
  rw [HW5.out]
  refine (ref8_Moved vs vl s l a n o b W5 (HSG.out.below HBW5.out) (HLL.out.below HBW5.out) HS1.out HL1.out ha hn ho hbn).mono ?_
  rintro e w6 ⟨y, uS, uU, uP, r3, hm2, rfl, hE2, hb6⟩
  obtain ⟨he, hr⟩ := hm2.unique hm1
  subst he
  subst hr
  obtain ⟨b1, j1, b2, j2, b3, j3, rfl, rfl, rfl⟩ := hE2.slices
  have HM := hid hm1
  have n2 : (r3 != r3) = false := by simp
  have EX6 := HE5.out.below hb6
  have HEX := hid ((HE1.out.below HB55.out).below hb6)
  have HEY := hid hE2
  have HI1b := hid ((HI1a.out.below HB55.out).below hb6)
  have HI2b := hid ((HI2a.out.below HB55.out).below hb6)
  have HB6 := hid (HBW5.out.trans (hb6.mono HBW5.out.size))
  have EY6 := EB.new w6 y (.slice b1 y.says.length j1) (.slice b2 y.uses.length j2) (.slice b3 y.proof.length j3) 35
  obtain ⟨W6, hW6⟩ : ∃ W6, w6.alloc (.cells #[.string y.name, .string y.who, .slice b1 y.says.length j1, .slice b2 y.uses.length j2, .slice b3 y.proof.length j3] 35) = W6 := ⟨_, rfl⟩
  have hb66 : Below w6.heap.size w6 W6 := hW6 ▸ (Below.refl _ _).alloc (Nat.le_refl _) _
  rw [hW6] at EY6
  have HW6 := hid hW6
  have HB66 := hid hb66
  have HEBX := hid (EX6.below hb66)
  have HEBY := hid EY6
  have HBW6 := hid (HB6.out.trans (hb66.mono HB6.out.size))
  clear hb6 hb66 hE2 EX6 EY6 hW6 hm1 hm2 HE5 HE1 HI1a HI2a HI1 HI2
  go_wp2_with fail
  rw [HW6.out]
  refine (carry_There vs vl s l a o n W6 (HSG.out.below HBW6.out) (HLL.out.below HBW6.out) HS1.out HL1.out ha ho hn).mono ?_
  rintro e w7 ⟨⟨t7, r7⟩, u7, hx7, rfl, hi7, hb7⟩
  have HB7 := hid (HBW6.out.trans (hb7.mono HBW6.out.size))
  have HB67 := hid hb7
  clear hb7
  go_wp2_with fail
  refine (ref8_There vs vl s l a o n w7 (HSG.out.below HB7.out) (HLL.out.below HB7.out) HS1.out HL1.out ha ho hn).mono ?_
  rintro e w8 ⟨y8, u8, hx8, rfl, hi8, hb8⟩
  have hy := hx8.unique hx7
  subst hy
  have n3 : (r7 != r7) = false := by simp
  have h68 : Below W6.heap.size W6 w8 := HB67.out.trans (hb8.mono HB67.out.size)
  have HI7 := hid (hi7.below hb8)
  have HI8 := hid hi8
  have HB8 := hid (HB7.out.trans (hb8.mono HB7.out.size))
  have HX8 := hid (HEBX.out.below h68)
  have HY8 := hid (HEBY.out.below h68)
  have HEX8 := hid ((HEX.out.below HB66.out).below h68)
  have HEY8 := hid ((HEY.out.below HB66.out).below h68)
  have HI1c := hid ((HI1b.out.below HB66.out).below h68)
  have HI2c := hid ((HI2b.out.below HB66.out).below h68)
  clear hb8 hx7 hx8 hi7 hi8 h68 HEBX HEBY HEX HEY HI1b HI2b
  simp only
  have HT1 := hid (ref6_SameTerm u1 u2 t1 t1 w8 HI1c.out HI2c.out)
  rw [decide_eq_true (rfl : t1 = t1)] at HT1
  go_wp2_with fail
  refine HT1.out.mono ?_
  rintro e w9 ⟨rfl, n9, hw9⟩
  have hb9 : Below w8.heap.size w8 w9 := hw9 ▸ below_self_drewN _ _
  have HB9 := hid (HB8.out.trans (hb9.mono HB8.out.size))
  obtain ⟨x0, x1, x2, x3, x4⟩ := HX8.out.below hb9
  obtain ⟨y0, y1, y2, y3, y4⟩ := HY8.out.below hb9
  have HSE := hid (ref6_SameEntry _ _ _ _ _ _ y y w9 (HEX8.out.below hb9) (HEY8.out.below hb9))
  rw [decide_eq_true (rfl : y = y)] at HSE
  have H89 := hid hb9
  clear hw9 hb9 HT1
  go_wp2_with fail
  refine HSE.out.mono ?_
  rintro e w10 ⟨rfl, hb10⟩
  have HB10 := hid (HB9.out.trans (hb10.mono HB9.out.size))
  have H810 := hid (H89.out.trans (hb10.mono H89.out.size))
  have HT7 := hid (ref6_SameTerm u7 u8 t7 t7 w10 (HI7.out.below H810.out) (HI8.out.below H810.out))
  rw [decide_eq_true (rfl : t7 = t7)] at HT7
  clear hb10 HSE x0 x1 x2 x3 x4 y0 y1 y2 y3 y4
  go_wp2_with fail
  refine HT7.out.mono ?_
  rintro e w11 ⟨rfl, n11, hw11⟩
  have hb11 : Below w10.heap.size w10 w11 := hw11 ▸ below_self_drewN _ _
  have HB11 := hid (HB10.out.trans (hb11.mono HB10.out.size))
  have H811 := hid (H810.out.trans (hb11.mono H810.out.size))
  clear hw11 hb11 HT7
  by_cases h0 : r3 = 0
  case neg =>
    have n0 : (r3 != 0) = true := by simpa using h0
    clear h0
    go_wp2
    go_ret
    exact ⟨rfl, HB11.out⟩
  subst h0
  obtain ⟨m1, m2, m3, m4, m5, m6⟩ := moved_holds HM.out
  have hae := HA.out.unique m5
  simp only [Prod.mk.injEq] at hae
  obtain ⟨rfl, rfl⟩ := hae
  have HAR : Hid (addR s l y = if l.length = 60 then ([], 4) else (l ++ [y], 0)) := hid (by rw [addR_2 (libB_iff.2 m1) m2, m3, m4]; rfl)
  have HM6 := hid m6
  have HL60 := hid m1.len
  have HADD := hid (carry_Added vs vl _ _ _ s l y w11 (HSG.out.below HB11.out) (HLL.out.below HB11.out) (HEX8.out.below H811.out) HS1.out HL1.out)
  obtain ⟨x0, x1, x2, x3, x4⟩ := HX8.out.below H811.out
  have HX11 := hid (HX8.out.below H811.out)
  have HIS := hid (HEX8.out.s.below H811.out)
  have HIT := hid (HI1c.out.below H811.out)
  clear m1 m2 m3 m4 m5 m6
  by_cases h60 : l.length = 60
  · rw [HAR.out, if_pos h60] at HADD
    clear h60
    go_wp2_with fail
    refine HADD.out.mono ?_
    rintro e w12 ⟨um, rfl, -, hb12⟩
    go_wp2
    go_ret
    exact ⟨rfl, HB11.out.trans (hb12.mono HB11.out.size)⟩
  · rw [HAR.out, if_neg h60] at HADD
    have HHD := hid (HM6.out h60).1
    clear h60
    go_wp2_with fail
    refine HADD.out.mono ?_
    rintro e w12 ⟨um, rfl, hem, hb12⟩
    have HB12 := hid (HB11.out.trans (hb12.mono HB11.out.size))
    have HX12 := hid (HX11.out.below hb12)
    have HIS12 := hid (HIS.out.below hb12)
    have HIT12 := hid (HIT.out.below hb12)
    have HHO := hid (deps_Holds vs um s (l ++ [y]) o w12 (HSG.out.below HB12.out) hem HS1.out (by simp; have := HL60.out; omega) ho)
    clear hem hb12 x0 x1 x2 x3 x4
    go_wp2_with fail
    refine HHO.out.mono ?_
    rintro e w13 ⟨z, er, hh, rfl, hb13⟩
    obtain ⟨rfl, rfl⟩ := hh.unique HHD.out
    obtain ⟨x0, x1, x2, x3, x4⟩ := HX12.out.below hb13
    have HB13 := hid (HB12.out.trans (hb13.mono HB12.out.size))
    have HSS := hid (ref6_SameTerm _ _ y.says y.says w13 (HIS12.out.below hb13) (HIT12.out.below hb13))
    rw [decide_eq_true (rfl : y.says = y.says)] at HSS
    clear hh hb13
    go_wp2_with fail
    refine HSS.out.mono ?_
    rintro e w14 ⟨rfl, n14, hw14⟩
    have HB14 := hid (show Below w.heap.size w w14 from hw14 ▸ below_drewN HB13.out n14)
    clear hw14
    go_wp2
    go_ret
    exact ⟨rfl, HB14.out⟩
end Go.Proofs.YtpflkjldapmgdaaGreat
