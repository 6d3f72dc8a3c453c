/-
  WHAT IT HOLDS: how an edition lies whose entries are copies of the call's own: written, put out, set. No program's walk in sight.
  WHAT IT HOLDS: the contracts of copied of package blame and of its reference. Conditions: the argument reads as data; it is small.
  WHAT IT HOLDS: contracts of copies, find and used of package blame. Conditions: the arguments read as data; small libraries.
-/
import Derived.Test.YtlbjbmpkaniojaaGreatZRBlameMarks32
import Derived.Test.YtlbjbmpkaniojaaGreatZRBlameMarks18
namespace Go.Proofs.YtlbjbmpkaniojaaGreat
open Go Go.RowKit Go.Maps
theorem owns_type {w : World} {base : Nat} {e : TypeId} {k n : Nat} {v : Value} {xs : List Value} {b : Nat} (h : w.ownsRow base e k v n xs) (hb : v.ownBlock = some b) : ∃ cur, w.heap[b]? = some (.cells cur e (0, 0)) := by
  obtain ⟨-, h2⟩ := h
  rcases h2 with ⟨rfl, -⟩ | ⟨g, cap, cur, rfl, -, r3, -⟩
  · cases hb
  · cases hb; exact ⟨cur, r3⟩
theorem owns_ne {w : World} {base base' : Nat} {e e' : TypeId} {k k' n n' : Nat} {v v' : Value} {xs xs' : List Value} {b : Nat} (h : w.ownsRow base e k v n xs) (h' : w.ownsRow base' e' k' v' n' xs') (hne : e ≠ e') (hb : v.ownBlock = some b) : v'.ownBlock ≠ some b := by
  intro hb'
  obtain ⟨c, hc⟩ := owns_type h hb
  obtain ⟨c', hc'⟩ := owns_type h' hb'
  rw [hc] at hc'
  cases hc'
  exact hne rfl
theorem EntO.keep {w W' : World} {base base' : Nat} {vS vU vP : Value} {x : En} (h : EntO w base vS vU vP x) (hb : base' ≤ base) (hs : ∀ q, base ≤ q → q < w.heap.size → (vS.ownBlock = some q ∨ vU.ownBlock = some q ∨ vP.ownBlock = some q) → W'.heap[q]? = w.heap[q]?) : EntO W' base' vS vU vP x :=
  ⟨owns_base (owns_blocks h.s fun q h1 h2 h3 => hs q h1 h2 (Or.inl h3)) hb, owns_base (owns_blocks h.u fun q h1 h2 h3 => hs q h1 h2 (Or.inr (Or.inl h3))) hb, owns_base (owns_blocks h.p fun q h1 h2 h3 => hs q h1 h2 (Or.inr (Or.inr h3))) hb, h.ls, h.lu, h.lp, h.nu, h.n1, h.n2⟩
/-- a row of entries of the call's own, and what the entries hold is the call's own too; no two share their lists of names. -/
structure EnW (w : World) (base : Nat) (u : Value) (vs : List V3) (l : List En) : Prop where
  top : w.ownsRow base 41 5 u l.length (ensC l vs)
  len : vs.length = l.length
  own : ∀ (j : Nat) (h : j < l.length) (h' : j < vs.length), EntO w base vs[j].1 vs[j].2.1 vs[j].2.2 l[j]
  dis : ∀ (i j : Nat) (h : i < vs.length) (h' : j < vs.length), i ≠ j → ∀ b, vs[i].2.1.ownBlock = some b → vs[j].2.1.ownBlock ≠ some b
theorem EnW.nil (w : World) (base : Nat) : EnW w base (.slice none 0 0) [] [] := ⟨World.ownsRow_nil _ _ _ _, rfl, fun j h => by simp at h, fun i j h => by simp at h⟩
theorem EnW.slice {w : World} {base : Nat} {u : Value} {vs : List V3} {l : List En} (h : EnW w base u vs l) : ∃ a c, u = .slice a l.length c := owns_slice h.top
theorem EnW.below {w w' : World} {base : Nat} {u : Value} {vs : List V3} {l : List En} (h : EnW w base u vs l) (hb : Below w.heap.size w w') : EnW w' base u vs l :=
  ⟨owns_below h.top hb, h.len, fun j h1 h2 => (h.own j h1 h2).blocks (Nat.le_refl _) fun q _ hq => hb.block q hq, h.dis⟩
/-- the blocks of an entry are not the row's. -/
theorem ent_ne {w : World} {base base' : Nat} {u : Value} {n : Nat} {xs : List Value} {vS vU vP : Value} {x : En} (h : w.ownsRow base 41 5 u n xs) (he : EntO w base' vS vU vP x) {q : Nat} (hq : vS.ownBlock = some q ∨ vU.ownBlock = some q ∨ vP.ownBlock = some q) : some q ≠ u.ownBlock := by
  rcases hq with hq | hq | hq
  · exact fun e => owns_ne he.s h (by decide) hq e.symm
  · exact fun e => owns_ne he.u h (by decide) hq e.symm
  · exact fun e => owns_ne he.p h (by decide) hq e.symm
theorem EnW.toS {w : World} {base : Nat} {u : Value} {vs : List V3} {l : List En} (h : EnW w base u vs l) : EnS w base u vs l :=
  ⟨h.top, h.len, fun W' hW j h1 h2 => ((h.own j h1 h2).keep (base' := base) (Nat.le_refl _) fun q _ hq hb => hW q hq (ent_ne h.top (h.own j h1 h2) hb)).ent⟩
theorem EnW.ents {w : World} {base : Nat} {u : Value} {vs : List V3} {l : List En} (h : EnW w base u vs l) (hl : l.length ≤ 1000) : EntsAt w u l := ⟨vs, h.toS.ents hl⟩
/-- a copy more. -/
theorem EnW.push {w w1 w2 : World} {base : Nat} {u : Value} {vs : List V3} {l : List En} (h : EnW w base u vs l) (hb : Below w.heap.size w w1) {x : En} {v : V3}
    (hO : EntO w1 w.heap.size v.1 v.2.1 v.2.2 x) (hbw : base ≤ w.heap.size)
    {g cap n : Nat} (hn : n = l.length) (hown : w2.ownsRow base 41 5 (.slice (some ⟨g, 0, none⟩) (n + 1) cap) (n + 1) (ensC l vs ++ enC x v)) (hg : w1.grownBy w2 u.ownBlock) :
    EnW w2 base (.slice (some ⟨g, 0, none⟩) (n + 1) cap) (vs ++ [v]) (l ++ [x]) := by
  subst hn
  have hb1 := h.below hb
  have hu : ∀ b, u.ownBlock = some b → b < w.heap.size := fun b hb => (h.top.lt b hb).2
  have hx2 : EntO w2 base v.1 v.2.1 v.2.2 x := hO.keep hbw fun q hq1 hq hqb => hg.block q hq fun e => by have := hu q e.symm; omega
  have hvb : ∀ b, v.2.1.ownBlock = some b → w.heap.size ≤ b := fun b hb => (hO.u.lt b hb).1
  refine ⟨by rw [ensC_snoc _ _ _ _ h.len]; simpa using hown, by simp [h.len], fun j hj hj' => ?_, fun i j hi hj hij b hbi hbj => ?_⟩
  · by_cases hlt : j < l.length
    · have hv : j < vs.length := by rw [h.len]; exact hlt
      rw [List.getElem_append_left hlt, List.getElem_append_left hv]
      exact (hb1.own j hlt hv).keep (Nat.le_refl _) fun q _ hq hqb => hg.block q hq (ent_ne hb1.top (hb1.own j hlt hv) hqb)
    · have e : j = l.length := by simp at hj; omega
      subst e
      have e1 : (l ++ [x])[l.length] = x := by simp
      have e2 : (vs ++ [v])[l.length] = v := by rw [List.getElem_append_right (by rw [h.len]; exact Nat.le_refl _)]; simp [h.len]
      rw [e1, e2]
      exact hx2
  · have hin : ∀ k (hk : k < vs.length), ∀ b, vs[k].2.1.ownBlock = some b → b < w.heap.size := fun k hk b hb => ((h.own k (by rw [← h.len]; exact hk) hk).u.lt b hb).2
    have hlst : ∀ k (hk : k < (vs ++ [v]).length), ¬ k < vs.length → (vs ++ [v])[k] = v := fun k hk hn => by
      rw [List.getElem_append_right (by omega)]; simp
    by_cases h1 : i < vs.length
    · rw [List.getElem_append_left h1] at hbi
      by_cases h2 : j < vs.length
      · rw [List.getElem_append_left h2] at hbj
        exact h.dis i j h1 h2 hij b hbi hbj
      · rw [hlst j hj h2] at hbj
        have := hin i h1 b hbi
        have := hvb b hbj
        omega
    · rw [hlst i hi h1] at hbi
      by_cases h2 : j < vs.length
      · rw [List.getElem_append_left h2] at hbj
        have := hin j h2 b hbj
        have := hvb b hbi
        omega
      · simp at hi hj; omega
theorem ensC_set : ∀ (l : List En) (vs : List V3) (_ : vs.length = l.length) (j : Nat) (_ : j < l.length) (x : En) (v : V3), ensC (l.set j x) (vs.set j v) = (((((ensC l vs).set (j * 5) (.string x.name)).set (j * 5 + 1) (.string x.who)).set (j * 5 + 2) v.1).set (j * 5 + 3) v.2.1).set (j * 5 + 4) v.2.2
  | [], _, _, j, h, _, _ => by simp at h
  | _ :: _, [], e, _, _, _, _ => by simp at e
  | y :: l, u :: vs, e, 0, _, x, v => by simp [ensC, enC]
  | y :: l, u :: vs, e, j + 1, h, x, v => by
    have := ensC_set l vs (by simpa using e) j (by simpa using h) x v
    have h5 : (enC y u).length = 5 := rfl
    have hs : ∀ (k : Nat) (z : Value) (L : List Value), (enC y u ++ L).set (k + 5) z = enC y u ++ L.set k z := fun k z L => by
      rw [List.set_append, if_neg (by rw [h5]; omega), h5]; simp
    simp only [List.set_cons_succ, ensC, this]
    rw [show (j + 1) * 5 = j * 5 + 5 by omega, show j * 5 + 5 + 1 = j * 5 + 1 + 5 by omega, show j * 5 + 5 + 2 = j * 5 + 2 + 5 by omega, show j * 5 + 5 + 3 = j * 5 + 3 + 5 by omega, show j * 5 + 5 + 4 = j * 5 + 4 + 5 by omega]
    rw [hs, hs, hs, hs, hs]
/-- only the name is another one. -/
theorem ensC_name : ∀ (l : List En) (vs : List V3) (_ : vs.length = l.length) (j : Nat) (hj : j < l.length) (n : Nm), ensC (l.set j { l[j] with name := n }) vs = (ensC l vs).set (j * 5) (.string n)
  | [], _, _, j, h, _ => by simp at h
  | _ :: _, [], e, _, _, _ => by simp at e
  | y :: l, u :: vs, e, 0, _, n => by simp [ensC, enC]
  | y :: l, u :: vs, e, j + 1, h, n => by
    have := ensC_name l vs (by simpa using e) j (by simpa using h) n
    have h5 : (enC y u).length = 5 := rfl
    simp only [List.set_cons_succ, ensC, List.getElem_cons_succ, this]
    rw [show (j + 1) * 5 = j * 5 + 5 by omega, List.set_append, if_neg (by rw [h5]; omega), h5]; simp
/-- what an entry uses does not stand in the row. -/
theorem ensC_uses : ∀ (l : List En) (vs : List V3) (j : Nat) (hj : j < l.length) (us : List Nm), ensC (l.set j { l[j] with uses := us }) vs = ensC l vs
  | [], _, j, h, _ => by simp at h
  | _ :: _, [], _, _, _ => by simp [ensC]
  | y :: l, u :: vs, 0, _, us => by simp [ensC, enC]
  | y :: l, u :: vs, j + 1, h, us => by
    have := ensC_uses l vs j (by simpa using h) us
    simp only [List.set_cons_succ, ensC, List.getElem_cons_succ, this]
theorem EnW.setName {w : World} {base g n c : Nat} {vs : List V3} {l : List En} (h : EnW w base (.slice (some ⟨g, 0, none⟩) n c) vs l) (hn : n = l.length) {j : Nat} (hj : j < l.length) (m : Nm) (hm : m.size ≤ 140737488355328) :
    EnW (w.setCell ⟨g, j * 5, none⟩ (.string m)) base (.slice (some ⟨g, 0, none⟩) n c) vs (l.set j { l[j] with name := m }) := by
  subst hn
  have hS := (h.top.stored (j * 5) (.string m)).1
  refine ⟨by rw [ensC_name l vs h.len j hj m, List.length_set]; exact hS, by rw [List.length_set]; exact h.len, fun k hk hk' => ?_, h.dis⟩
  have hk0 : k < l.length := by simpa using hk
  have hO := (h.own k hk0 hk').keep (W' := w.setCell ⟨g, j * 5, none⟩ (.string m)) (base' := base) (Nat.le_refl _) fun q _ hq hqb => Below.heap_setCell _ _ _ _ (fun e => ent_ne h.top (h.own k hk0 hk') hqb (by rw [e]; rfl))
  rw [List.getElem_set]
  split
  · rename_i e; subst e
    exact ⟨hO.s, hO.u, hO.p, hO.ls, hO.lu, hO.lp, hO.nu, hm, hO.n2⟩
  · exact hO
theorem EnW.setUse {w : World} {base : Nat} {u : Value} {vs : List V3} {l : List En} (h : EnW w base u vs l) {j : Nat} (hj : j < l.length) (hj' : j < vs.length) {b n c i : Nat} (hb : vs[j].2.1 = .slice (some ⟨b, 0, none⟩) n c) (hi : i < l[j].uses.length) (m : Nm) (hm : m.size ≤ 140737488355328) :
    EnW (w.setCell ⟨b, i, none⟩ (.string m)) base u vs (l.set j { l[j] with uses := l[j].uses.set i m }) := by
  have hjO := h.own j hj hj'
  have hub : vs[j].2.1.ownBlock = some b := by rw [hb]; rfl
  have hS := hjO.u
  rw [hb] at hS
  have hn : n = l[j].uses.length := by
    obtain ⟨a', c', e⟩ := owns_slice hS; cases e; rfl
  subst hn
  have hS := (hS.stored i (.string m)).1
  have hu : u.ownBlock ≠ some b := owns_ne hjO.u h.top (by decide) hub
  have hother : ∀ q, q ≠ b → (w.setCell ⟨b, i, none⟩ (.string m)).heap[q]? = w.heap[q]? := fun q hq => Below.heap_setCell _ _ _ _ hq
  refine ⟨by rw [ensC_uses l vs j hj, List.length_set]; exact ownsRow_setCell_other h.top hu _, by rw [List.length_set]; exact h.len, fun k hk hk' => ?_, h.dis⟩
  have hk0 : k < l.length := by simpa using hk
  have hkO := h.own k hk0 hk'
  by_cases e : j = k
  · subst e
    rw [List.getElem_set_self]
    refine ⟨?_, ?_, ?_, hkO.ls, by rw [List.length_set]; exact hkO.lu, hkO.lp, fun x hx => ?_, hkO.n1, hkO.n2⟩
    · exact owns_blocks hkO.s fun q _ _ hq => hother q fun e => owns_ne hkO.s hkO.u (by decide) hq (by rw [e]; exact hub)
    · rw [hb, List.length_set]
      rw [List.map_set]
      exact hS
    · exact owns_blocks hkO.p fun q _ _ hq => hother q fun e => owns_ne hkO.p hkO.u (by decide) hq (by rw [e]; exact hub)
    · rcases List.mem_or_eq_of_mem_set hx with h | rfl
      · exact hkO.nu x h
      · exact hm
  · rw [List.getElem_set_ne (by omega)]
    refine hkO.keep (Nat.le_refl _) fun q _ _ hq => hother q fun eq => ?_
    subst eq
    rcases hq with hq | hq | hq
    · exact owns_ne hkO.s hjO.u (by decide) hq hub
    · exact h.dis j k hj' hk' e q hub hq
    · exact owns_ne hkO.p hjO.u (by decide) hq hub
end Go.Proofs.YtlbjbmpkaniojaaGreat
namespace Go.Proofs.YtlbjbmpkaniojaaGreat
open Go Go.RowKit Go.Maps
set_option maxHeartbeats 2000000 in
set_option maxRecDepth 100000 in
theorem blame_copied (vS vU vP : Value) (x : En) (w : World) (he : EntAt w vS vU vP x) (h0 : 0 < x.says.length) (ls : x.says.length ≤ 1000) (lu : x.uses.length ≤ 1000) (lp : x.proof.length ≤ 1000) :
    Calls Tryz.prog 79 #[.agg #[.string x.name, .string x.who, vS, vU, vP]] w fun e w' => ∃ v, e = .returned v ∧ EnO w' w.heap.size v x ∧ Below w.heap.size w w' := by
  obtain ⟨sa, sc, rfl, -⟩ := he.s.open
  obtain ⟨ua, uc, rfl, -⟩ := he.u.open
  obtain ⟨pa, pc, rfl, -⟩ := he.p.open
  have hC5 := C5.new w (.string x.name) (.string x.who) (.slice sa x.says.length sc) (.slice ua x.uses.length uc) (.slice pa x.proof.length pc) 41
  have hbV : Below w.heap.size w (w.alloc (.cells #[.string x.name, .string x.who, .slice sa x.says.length sc, .slice ua x.uses.length uc, .slice pa x.proof.length pc] 41)) := (Below.refl _ _).alloc (Nat.le_refl _) _
  obtain ⟨V, hV⟩ : ∃ V, w.alloc (.cells #[.string x.name, .string x.who, .slice sa x.says.length sc, .slice ua x.uses.length uc, .slice pa x.proof.length pc] 41) = V := ⟨_, rfl⟩
  have hVz : V.heap.size = w.heap.size + 1 := by rw [← hV]; simp
  rw [hV] at hC5 hbV
  have hR5 := C5.new V (.string ⟨#[]⟩) (.string ⟨#[]⟩) (.slice none 0 0) (.slice none 0 0) (.slice none 0 0) 41
  have hbX : Below V.heap.size V (V.alloc (.cells #[.string ⟨#[]⟩, .string ⟨#[]⟩, .slice none 0 0, .slice none 0 0, .slice none 0 0] 41)) := (Below.refl _ _).alloc (Nat.le_refl _) _
  obtain ⟨X, hX⟩ : ∃ X, V.alloc (.cells #[.string ⟨#[]⟩, .string ⟨#[]⟩, .slice none 0 0, .slice none 0 0, .slice none 0 0] 41) = X := ⟨_, rfl⟩
  have hXz : X.heap.size = w.heap.size + 1 + 1 := by rw [← hX, World.size_alloc, hVz]
  rw [hX] at hR5 hbX
  rw [hVz] at hR5
  have C1 := hC5.below hbX
  have C2 := hR5
  have hb := hbV.trans (hbX.mono hbV.size)
  have HE := hid (he.below hb)
  have hXe : (w.alloc (.cells #[.string x.name, .string x.who, .slice sa x.says.length sc, .slice ua x.uses.length uc, .slice pa x.proof.length pc] 41)).alloc (.cells #[.string ⟨#[]⟩, .string ⟨#[]⟩, .slice none 0 0, .slice none 0 0, .slice none 0 0] 41) = X := by rw [hV, hX]
  have HXE := hid hXe
  have HB := hid hb
  have HXZ := hid hXz
  have HC1 := hid C1
  have HC2 := hid C2
  have HN := hid he.n1
  have HN2 := hid he.n2
  have HNU := hid he.u.2
  have HSC := hid (fun (W : World) (hW : Below X.heap.size X W) => sl_CloneT _ _ W (HE.out.s.below hW) h0 ls)
  have HUC := hid (fun (W : World) (hW : Below X.heap.size X W) => sl_Clone_strs _ _ _ W (HE.out.u.1.below hW) (strs_one x.uses) lu)
  have HPC := hid (fun (W : World) (hW : Below X.heap.size X W) => sl_Clone_steps _ _ _ W (HE.out.p.below hW) (stC_one x.proof) lp)
  clear hC5 hbV hV hVz hbX hX hXz hR5 hb he hXe C1 C2
  go_enter Tryz.func79, Tryz.ntmps79
  go_wp2_with fail
  rw [HXE.out]
  have hbZ : Below X.heap.size X X := Below.refl _ _
  obtain ⟨-, -, c2, c3, c4, -, -, -, -, -⟩ := HC1.out
  refine anyK.beginS (S := fun w' => w'.cell? ⟨w.heap.size, 2, none⟩ = some (.slice sa x.says.length sc) ∧ w'.cell? ⟨w.heap.size, 3, none⟩ = some (.slice ua x.uses.length uc) ∧ w'.cell? ⟨w.heap.size, 4, none⟩ = some (.slice pa x.proof.length pc)) (k := 10) (by kernel_rfl) ?_ (fun hHeld => ?_)
  · exact ⟨c2, c3, c4⟩
  refine anyK.take (i := 0) (oi := { dst := some 3, op := Op.fieldAddr 41 (Operand.tmp 1) 2, type := 0, pos := _, after := _, guard := none }) (v := ?_) rfl (by kernel_rfl) (by kernel_rfl) (by kernel_rfl) (by kernel_rfl) (by kernel_rfl) (by decide) (fun _ _ _ h => h) (Or.inl ⟨by rfl, ?_⟩) hHeld ?_
  rotate_left
  · (intro w hSw; (try dsimp only at hSw); go_simp; (try with_reducible rfl))
  (try simp only [Act.put, List.setIfInBounds_toArray, List.set_cons_zero, List.set_cons_succ])
  refine anyK.take (i := 1) (oi := { dst := some 4, op := Op.load 37 (Operand.tmp 3), type := 37, pos := _, after := _, guard := none }) (v := ?_) rfl (by kernel_rfl) (by kernel_rfl) (by kernel_rfl) (by kernel_rfl) (by kernel_rfl) (by decide) (fun _ _ _ h => h) (Or.inl ⟨by rfl, ?_⟩) hHeld ?_
  rotate_left
  · (intro w hSw; (try dsimp only at hSw); go_simp; (try with_reducible rfl))
  (try simp only [Act.put, List.setIfInBounds_toArray, List.set_cons_zero, List.set_cons_succ])
  refine anyK.take (i := 3) (oi := { dst := some 6, op := Op.fieldAddr 41 (Operand.tmp 1) 3, type := 0, pos := _, after := _, guard := none }) (v := ?_) rfl (by kernel_rfl) (by kernel_rfl) (by kernel_rfl) (by kernel_rfl) (by kernel_rfl) (by decide) (fun _ _ _ h => h) (Or.inl ⟨by rfl, ?_⟩) hHeld ?_
  rotate_left
  · (intro w hSw; (try dsimp only at hSw); go_simp; (try with_reducible rfl))
  (try simp only [Act.put, List.setIfInBounds_toArray, List.set_cons_zero, List.set_cons_succ])
  refine anyK.take (i := 4) (oi := { dst := some 7, op := Op.load 38 (Operand.tmp 6), type := 38, pos := _, after := _, guard := none }) (v := ?_) rfl (by kernel_rfl) (by kernel_rfl) (by kernel_rfl) (by kernel_rfl) (by kernel_rfl) (by decide) (fun _ _ _ h => h) (Or.inl ⟨by rfl, ?_⟩) hHeld ?_
  rotate_left
  · (intro w hSw; (try dsimp only at hSw); go_simp; (try with_reducible rfl))
  (try simp only [Act.put, List.setIfInBounds_toArray, List.set_cons_zero, List.set_cons_succ])
  refine anyK.take (i := 6) (oi := { dst := some 9, op := Op.fieldAddr 41 (Operand.tmp 1) 4, type := 0, pos := _, after := _, guard := none }) (v := ?_) rfl (by kernel_rfl) (by kernel_rfl) (by kernel_rfl) (by kernel_rfl) (by kernel_rfl) (by decide) (fun _ _ _ h => h) (Or.inl ⟨by rfl, ?_⟩) hHeld ?_
  rotate_left
  · (intro w hSw; (try dsimp only at hSw); go_simp; (try with_reducible rfl))
  (try simp only [Act.put, List.setIfInBounds_toArray, List.set_cons_zero, List.set_cons_succ])
  refine anyK.take (i := 7) (oi := { dst := some 10, op := Op.load 39 (Operand.tmp 9), type := 39, pos := _, after := _, guard := none }) (v := ?_) rfl (by kernel_rfl) (by kernel_rfl) (by kernel_rfl) (by kernel_rfl) (by kernel_rfl) (by decide) (fun _ _ _ h => h) (Or.inl ⟨by rfl, ?_⟩) hHeld ?_
  rotate_left
  · (intro w hSw; (try dsimp only at hSw); go_simp; (try with_reducible rfl))
  (try simp only [Act.put, List.setIfInBounds_toArray, List.set_cons_zero, List.set_cons_succ])
  refine anyK.one (i := 2) (o := { dst := some 5, op := Op.call { callee := Callee.value (Operand.func 130), args := #[Operand.tmp 4], argTypes := #[37] }, type := 37, pos := _, after := _, guard := none }) (by kernel_rfl) rfl (fun K hK => ?_)
  (try go_simp)
  (go_at_call 130; refine (HSC.out _ (by first | exact hbZ | exact hbZ.drew | exact below_drewN hbZ _)).mono ?_; rintro e wz ⟨u1, rfl, o1, hb1⟩; have o1 := owns_base (b' := X.heap.size) o1 (by first | exact hbZ.size | (simp; done) | exact Nat.le_refl _); obtain ⟨a1, k1, rfl⟩ := owns_slice o1; have hbZ := Below.trans (show Below X.heap.size X _ from (by first | exact hbZ | exact hbZ.drew | exact below_drewN hbZ _)) (hb1.mono (by first | exact hbZ.size | (simp; exact hbZ.size))); obtain ⟨_, _, c2, c3, c4, _, _, z2, z3, z4⟩ := HC1.out.below hbZ)
  refine hK.out _ _ (fun _ => ?_) ?_
  · exact ⟨c2, c3, c4⟩
  clear hHeld
  have hHeld := (by exact ⟨c2, c3, c4⟩ : (fun w' => w'.cell? ⟨w.heap.size, 2, none⟩ = some (.slice sa x.says.length sc) ∧ w'.cell? ⟨w.heap.size, 3, none⟩ = some (.slice ua x.uses.length uc) ∧ w'.cell? ⟨w.heap.size, 4, none⟩ = some (.slice pa x.proof.length pc)) wz)
  clear hK K
  (try simp only [Act.put, List.setIfInBounds_toArray, List.set_cons_zero, List.set_cons_succ])
  refine anyK.take (i := 9) (oi := { dst := some 12, op := Op.fieldAddr 41 (Operand.tmp 1) 2, type := 0, pos := _, after := _, guard := none }) (v := ?_) rfl (by kernel_rfl) (by kernel_rfl) (by kernel_rfl) (by kernel_rfl) (by kernel_rfl) (by decide) (fun _ _ _ h => h) (Or.inl ⟨by rfl, ?_⟩) hHeld ?_
  rotate_left
  · (intro w hSw; (try dsimp only at hSw); go_simp; (try with_reducible rfl))
  (try simp only [Act.put, List.setIfInBounds_toArray, List.set_cons_zero, List.set_cons_succ])
  refine anyK.one (i := 5) (o := { dst := some 8, op := Op.call { callee := Callee.value (Operand.func 131), args := #[Operand.tmp 7], argTypes := #[38] }, type := 38, pos := _, after := _, guard := none }) (by kernel_rfl) rfl (fun K hK => ?_)
  (try go_simp)
  (go_at_call 131; refine (HUC.out _ (by first | exact hbZ | exact hbZ.drew | exact below_drewN hbZ _)).mono ?_; rintro e wz ⟨u2, rfl, o2, hb1⟩; have o2 := owns_base (b' := X.heap.size) o2 (by first | exact hbZ.size | (simp; done) | exact Nat.le_refl _); obtain ⟨a2, k2, rfl⟩ := owns_slice o2; have o1 := owns_below o1 hb1; have hbZ := Below.trans (show Below X.heap.size X _ from (by first | exact hbZ | exact hbZ.drew | exact below_drewN hbZ _)) (hb1.mono (by first | exact hbZ.size | (simp; exact hbZ.size))); obtain ⟨_, _, c2, c3, c4, _, _, z2, z3, z4⟩ := HC1.out.below hbZ)
  refine hK.out _ _ (fun _ => ?_) ?_
  · exact ⟨c2, c3, c4⟩
  clear hHeld
  have hHeld := (by exact ⟨c2, c3, c4⟩ : (fun w' => w'.cell? ⟨w.heap.size, 2, none⟩ = some (.slice sa x.says.length sc) ∧ w'.cell? ⟨w.heap.size, 3, none⟩ = some (.slice ua x.uses.length uc) ∧ w'.cell? ⟨w.heap.size, 4, none⟩ = some (.slice pa x.proof.length pc)) wz)
  clear hK K
  (try simp only [Act.put, List.setIfInBounds_toArray, List.set_cons_zero, List.set_cons_succ])
  refine anyK.one (i := 8) (o := { dst := some 11, op := Op.call { callee := Callee.value (Operand.func 132), args := #[Operand.tmp 10], argTypes := #[39] }, type := 39, pos := _, after := _, guard := none }) (by kernel_rfl) rfl (fun K hK => ?_)
  (try go_simp)
  (go_at_call 132; refine (HPC.out _ (by first | exact hbZ | exact hbZ.drew | exact below_drewN hbZ _)).mono ?_; rintro e wz ⟨u3, rfl, o3, hb1⟩; have o3 := owns_base (b' := X.heap.size) o3 (by first | exact hbZ.size | (simp; done) | exact Nat.le_refl _); obtain ⟨a3, k3, rfl⟩ := owns_slice o3; have o1 := owns_below o1 hb1; have o2 := owns_below o2 hb1; have hbZ := Below.trans (show Below X.heap.size X _ from (by first | exact hbZ | exact hbZ.drew | exact below_drewN hbZ _)) (hb1.mono (by first | exact hbZ.size | (simp; exact hbZ.size))); obtain ⟨_, _, c2, c3, c4, _, _, z2, z3, z4⟩ := HC1.out.below hbZ)
  refine hK.out _ _ (fun _ => ?_) ?_
  · exact ⟨c2, c3, c4⟩
  clear hHeld
  have hHeld := (by exact ⟨c2, c3, c4⟩ : (fun w' => w'.cell? ⟨w.heap.size, 2, none⟩ = some (.slice sa x.says.length sc) ∧ w'.cell? ⟨w.heap.size, 3, none⟩ = some (.slice ua x.uses.length uc) ∧ w'.cell? ⟨w.heap.size, 4, none⟩ = some (.slice pa x.proof.length pc)) wz)
  clear hK K
  (try simp only [Act.put, List.setIfInBounds_toArray, List.set_cons_zero, List.set_cons_succ])
  refine anyK.one (i := 10) (o := { dst := none, op := Op.store 37 (Operand.tmp 12) (Operand.tmp 5), type := 0, pos := _, after := _, guard := none }) (by kernel_rfl) rfl (fun K hK => ?_)
  (try go_simp)
  refine hK.out _ _ (fun h => absurd h (by decide)) ?_
  clear hK K
  (try simp only [Act.put, List.setIfInBounds_toArray, List.set_cons_zero, List.set_cons_succ])
  refine anyK.one (i := 11) (o := { dst := some 13, op := Op.fieldAddr 41 (Operand.tmp 1) 3, type := 0, pos := _, after := _, guard := none }) (by kernel_rfl) rfl (fun K hK => ?_)
  (try go_simp)
  refine hK.out _ _ (fun h => absurd h (by decide)) ?_
  clear hK K
  (try simp only [Act.put, List.setIfInBounds_toArray, List.set_cons_zero, List.set_cons_succ])
  refine anyK.one (i := 12) (o := { dst := none, op := Op.store 38 (Operand.tmp 13) (Operand.tmp 8), type := 0, pos := _, after := _, guard := none }) (by kernel_rfl) rfl (fun K hK => ?_)
  (try go_simp)
  refine hK.out _ _ (fun h => absurd h (by decide)) ?_
  clear hK K
  (try simp only [Act.put, List.setIfInBounds_toArray, List.set_cons_zero, List.set_cons_succ])
  refine anyK.one (i := 13) (o := { dst := some 14, op := Op.fieldAddr 41 (Operand.tmp 1) 4, type := 0, pos := _, after := _, guard := none }) (by kernel_rfl) rfl (fun K hK => ?_)
  (try go_simp)
  refine hK.out _ _ (fun h => absurd h (by decide)) ?_
  clear hK K
  (try simp only [Act.put, List.setIfInBounds_toArray, List.set_cons_zero, List.set_cons_succ])
  refine anyK.one (i := 14) (o := { dst := none, op := Op.store 39 (Operand.tmp 14) (Operand.tmp 11), type := 0, pos := _, after := _, guard := none }) (by kernel_rfl) rfl (fun K hK => ?_)
  (try go_simp)
  refine hK.out _ _ (fun h => absurd h (by decide)) ?_
  clear hK K
  (try simp only [Act.put, List.setIfInBounds_toArray, List.set_cons_zero, List.set_cons_succ])
  refine anyK.done (by kernel_rfl) ?_ _
  have hXw := HXZ.out
  have hzz := hbZ.size
  have C1z := HC1.out.below hbZ
  have C2z := HC2.out.below hbZ
  have D1 := hid (C1z.set3 (.slice a1 x.says.length k1) (.slice a2 x.uses.length k2) (.slice a3 x.proof.length k3))
  obtain ⟨W3, hW3⟩ : ∃ W3, ((wz.setCell ⟨w.heap.size, 2, none⟩ (.slice a1 x.says.length k1)).setCell ⟨w.heap.size, 3, none⟩ (.slice a2 x.uses.length k2)).setCell ⟨w.heap.size, 4, none⟩ (.slice a3 x.proof.length k3) = W3 := ⟨_, rfl⟩
  have hg3 : ∀ k, k ≠ w.heap.size → W3.heap[k]? = wz.heap[k]? := fun k hk => by
    rw [← hW3, Below.heap_setCell _ _ _ _ hk, Below.heap_setCell _ _ _ _ hk, Below.heap_setCell _ _ _ _ hk]
  have hb3 : Below w.heap.size w W3 := hW3 ▸ ((((HB.out.trans (hbZ.mono HB.out.size)).setCell (p := ⟨w.heap.size, 2, none⟩) (Nat.le_refl _) _).setCell (p := ⟨w.heap.size, 3, none⟩) (Nat.le_refl _) _).setCell (p := ⟨w.heap.size, 4, none⟩) (Nat.le_refl _) _)
  have D2 := hid (C2z.block (hg3 (w.heap.size + 1) (by omega)))
  rw [hW3] at D1 ⊢
  obtain ⟨c0, c1, c2, c3, c4, z0, z1, z2, z3, z4⟩ := D1.out
  obtain ⟨d0, d1, d2, d3, d4, y0, y1, y2, y3, y4⟩ := D2.out
  have HG3 := hid hg3
  have HB3 := hid hb3
  clear hg3 hb3 hW3 C1z C2z hHeld
  go_wp2
  (try simp only [Exit.inBlock, Exit.then])
  clear c0 c1 c2 c3 c4 z0 z1 z2 z3 z4 d0 d1 d2 d3 d4 y0 y1 y2 y3 y4
  obtain ⟨c0, c1, c2, c3, c4, -, -, -, -, -⟩ := D2.out.store (.string x.name) (.string x.who) (.slice a1 x.says.length k1) (.slice a2 x.uses.length k2) (.slice a3 x.proof.length k3)
  have hall : ∀ q, X.heap.size ≤ q → (set5 W3 (w.heap.size + 1) (.string x.name) (.string x.who) (.slice a1 x.says.length k1) (.slice a2 x.uses.length k2) (.slice a3 x.proof.length k3)).heap[q]? = wz.heap[q]? := fun q hq => by rw [heap_set5 _ _ _ _ _ _ _ (by omega), HG3.out q (by omega)]
  have hO : EntO wz X.heap.size (.slice a1 x.says.length k1) (.slice a2 x.uses.length k2) (.slice a3 x.proof.length k3) x := ⟨o1, o2, o3, ls, lu, lp, HNU.out, HN.out, HN2.out⟩
  have hF := hO.blocks (base' := w.heap.size) (by omega) fun q hq _ => hall q hq
  refine bodyPost_ret (v := .agg #[.string x.name, .string x.who, .slice a1 x.says.length k1, .slice a2 x.uses.length k2, .slice a3 x.proof.length k3]) ?_ rfl ⟨_, rfl, ⟨_, _, _, rfl, hF⟩, set5_below HB3.out (by omega) _ _ _ _ _⟩
  unfold set5 at c0 c1 c2 c3 c4
  clear hall hO hF
  simp only [results, Tryz.results79]
  go_simp
set_option maxHeartbeats 2000000 in
set_option maxRecDepth 100000 in
theorem ref9_copied (vS vU vP : Value) (x : En) (w : World) (he : EntAt w vS vU vP x) (ls : x.says.length ≤ 1000) (lu : x.uses.length ≤ 1000) (lp : x.proof.length ≤ 1000) :
    Calls Tryz.prog 82 #[.agg #[.string x.name, .string x.who, vS, vU, vP]] w fun e w' => ∃ v, e = .returned v ∧ EnO w' w.heap.size v x ∧ Below w.heap.size w w' := by
  obtain ⟨sa, sc, rfl, -⟩ := he.s.open
  obtain ⟨ua, uc, rfl, -⟩ := he.u.open
  obtain ⟨pa, pc, rfl, -⟩ := he.p.open
  have hC5 := C5.new w (.string x.name) (.string x.who) (.slice sa x.says.length sc) (.slice ua x.uses.length uc) (.slice pa x.proof.length pc) 41
  have hbV : Below w.heap.size w (w.alloc (.cells #[.string x.name, .string x.who, .slice sa x.says.length sc, .slice ua x.uses.length uc, .slice pa x.proof.length pc] 41)) := (Below.refl _ _).alloc (Nat.le_refl _) _
  obtain ⟨V, hV⟩ : ∃ V, w.alloc (.cells #[.string x.name, .string x.who, .slice sa x.says.length sc, .slice ua x.uses.length uc, .slice pa x.proof.length pc] 41) = V := ⟨_, rfl⟩
  have hVz : V.heap.size = w.heap.size + 1 := by rw [← hV]; simp
  rw [hV] at hC5 hbV
  have hR5 := C5.new V (.string ⟨#[]⟩) (.string ⟨#[]⟩) (.slice none 0 0) (.slice none 0 0) (.slice none 0 0) 41
  have hbX : Below V.heap.size V (V.alloc (.cells #[.string ⟨#[]⟩, .string ⟨#[]⟩, .slice none 0 0, .slice none 0 0, .slice none 0 0] 41)) := (Below.refl _ _).alloc (Nat.le_refl _) _
  obtain ⟨X, hX⟩ : ∃ X, V.alloc (.cells #[.string ⟨#[]⟩, .string ⟨#[]⟩, .slice none 0 0, .slice none 0 0, .slice none 0 0] 41) = X := ⟨_, rfl⟩
  have hXz : X.heap.size = w.heap.size + 2 := by rw [← hX, World.size_alloc, hVz]
  rw [hX] at hR5 hbX
  rw [hVz] at hR5
  have C1 := hC5.below hbX
  have hb := hbV.trans (hbX.mono hbV.size)
  have hXe : (w.alloc (.cells #[.string x.name, .string x.who, .slice sa x.says.length sc, .slice ua x.uses.length uc, .slice pa x.proof.length pc] 41)).alloc (.cells #[.string ⟨#[]⟩, .string ⟨#[]⟩, .slice none 0 0, .slice none 0 0, .slice none 0 0] 41) = X := by rw [hV, hX]
  -- the first copy
  have hb1a : Below w.heap.size w (X.alloc (.cells #[] 3)) := hb.alloc (by omega) _
  have hO1 := lit_own (w := X) (base := X.heap.size) (e := 3) 1 (Nat.le_refl _)
  have hR1 : RowK (X.alloc (.cells #[] 3)) _ 1 _ _ := he.s.below hb1a
  have hCa := C1.below (show Below X.heap.size X (X.alloc (.cells #[] 3)) from (Below.refl _ _).alloc (Nat.le_refl _) _)
  have hDa := hR5.below (show Below X.heap.size X (X.alloc (.cells #[] 3)) from (Below.refl _ _).alloc (Nat.le_refl _) _)
  have hza : (X.alloc (.cells #[] 3)).heap.size = w.heap.size + 3 := by rw [World.size_alloc, hXz]
  have hXz' : X.heap.size = w.heap.size + 1 + 1 := by omega
  rw [hXz'] at hO1
  have HE := hid he
  have HN := hid he.n1
  have HN2 := hid he.n2
  have HNU := hid he.u.2
  have HXA : Hid (((w.alloc (.cells #[.string x.name, .string x.who, .slice sa x.says.length sc, .slice ua x.uses.length uc, .slice pa x.proof.length pc] 41)).alloc (.cells #[.string ⟨#[]⟩, .string ⟨#[]⟩, .slice none 0 0, .slice none 0 0, .slice none 0 0] 41)).alloc (.cells #[] 3) = X.alloc (.cells #[] 3)) := hid (by rw [hXe])
  obtain ⟨XA, hXA⟩ : ∃ XA, X.alloc (.cells #[] 3) = XA := ⟨_, rfl⟩
  rw [hXA] at HXA hO1 hR1 hCa hDa hza hb1a
  have HO1 := hid hO1
  have HR1 := hid hR1
  have HCA := hid hCa
  have HDA := hid hDa
  have HB1 := hid hb1a
  have HZA := hid hza
  clear hC5 hbV hV hVz hbX hX hR5 hb he hXe hb1a hO1 hR1 hCa hDa hza hXA C1 hXz hXz' X
  go_enter Tryz.func82, Tryz.ntmps82
  go_wp2_with (first
    | (at_builtin; rw [HXA.out]; refine wpList_append_row rfl (.tmp 3) (.tmp 5) 37 rfl (w.heap.size + 1 + 1) 3 el_int Tryz.underlying37 rfl (by decide) _ _ _ rfl HO1.out _ x.says.length (x.says.map (Value.int .i64)) rfl HR1.out (ints_one _) (by omega) (by omega) (by rw [HZA.out]; omega) ?_
       intro v1 w1 own1' grow1 _
       have own1 : w1.ownsRow (w.heap.size + 1 + 1) 3 1 v1 x.says.length (x.says.map (Value.int .i64)) := (by simpa using own1')
       have gb1 := grow1.block
       have gz1 := grow1.size
       have bw1 := HB1.out.grown grow1 (by rw [HZA.out]; omega) (fun q hq => by cases hq; show w.heap.size ≤ w.heap.size + 1 + 1; omega)
       have C1 := HCA.out.block (gb1 w.heap.size (by rw [HZA.out]; omega) (fun e => by have e2 : w.heap.size = w.heap.size + 1 + 1 := Option.some.inj e; omega))
       have D1 := HDA.out.block (gb1 (w.heap.size + 1) (by rw [HZA.out]; omega) (fun e => by have e2 : w.heap.size + 1 = w.heap.size + 1 + 1 := Option.some.inj e; omega))
       obtain ⟨a1, k1, rfl⟩ := owns_slice own1
       have C1s := C1.set_2 (.slice a1 x.says.length k1)
       have D1s := D1.block (w' := w1.setCell ⟨w.heap.size, 2, none⟩ (.slice a1 x.says.length k1)) (Below.heap_setCell _ _ _ _ (by simp))
       have bw1s := bw1.setCell (p := ⟨w.heap.size, 2, none⟩) (Nat.le_refl _) (.slice a1 x.says.length k1)
       have own1s := owns_blocks (W' := w1.setCell ⟨w.heap.size, 2, none⟩ (.slice a1 x.says.length k1)) own1 (fun q h1 _ _ => Below.heap_setCell _ _ _ _ (by simp only; omega))
       have zs1 : (w1.setCell ⟨w.heap.size, 2, none⟩ (.slice a1 x.says.length k1)).heap.size = w1.heap.size := (by simp)
       have z1w : w.heap.size + 3 ≤ w1.heap.size := (by have := HZA.out; omega)
       have hO2 := lit_own (w := w1.setCell ⟨w.heap.size, 2, none⟩ (.slice a1 x.says.length k1)) (base := w1.heap.size) (e := 9) 1 (by rw [zs1]; exact Nat.le_refl _)
       rw [zs1] at hO2
       have bw2a := bw1s.alloc (by rw [zs1]; omega) (.cells #[] 9)
       have hR2 := HE.out.u.1.below bw2a
       have bA2 := (Below.refl (w1.setCell ⟨w.heap.size, 2, none⟩ (.slice a1 x.says.length k1)).heap.size (w1.setCell ⟨w.heap.size, 2, none⟩ (.slice a1 x.says.length k1))).alloc (Nat.le_refl _) (.cells #[] 9)
       have C2a := hid (C1s.below bA2)
       have D2a := hid (D1s.below bA2)
       have own1a := hid (owns_below own1s bA2)
       have O1L := hid (fun q h => (own1.lt q h).2)
       have Z2a := hid (show ((w1.setCell ⟨w.heap.size, 2, none⟩ (.slice a1 x.says.length k1)).alloc (.cells #[] 9)).heap.size = w1.heap.size + 1 from (by rw [World.size_alloc, zs1]))
       have B2a := hid bw2a
       have Z1W := hid z1w
       have lt1 : w.heap.size < w1.heap.size := (by omega)
       have lt1' : w.heap.size + 1 < w1.heap.size := (by omega)
       obtain ⟨c0, c1, c2, c3, c4, z0, z1, z2, z3, z4⟩ := C1
       clear C1s D1s bw1s own1s zs1 z1w bw2a bA2 D1 bw1 gb1 gz1 own1' own1 grow1)
    | (at_builtin; refine wpList_append_row rfl (.tmp 8) (.tmp 10) 38 rfl w1.heap.size 9 el_str Tryz.underlying38 rfl (by decide) _ _ _ rfl hO2 _ x.uses.length (x.uses.map Value.string) rfl hR2 (strs_one _) (by omega) (by omega) (by rw [Z2a.out]; omega) ?_
       intro v2 w2 own2' grow2 _
       have own2 : w2.ownsRow w1.heap.size 9 1 v2 x.uses.length (x.uses.map Value.string) := (by simpa using own2')
       have gb2 : ∀ q, q < w1.heap.size → w2.heap[q]? = _ := fun q hq => grow2.block q (by rw [Z2a.out]; omega) (fun e => by have e2 : q = w1.heap.size := Option.some.inj e; omega)
       have gz2 := grow2.size
       have bw2 := B2a.out.grown grow2 (by rw [Z2a.out]; omega) (fun q hq => by cases hq; show w.heap.size ≤ w1.heap.size; omega)
       have C2 := C2a.out.block (gb2 w.heap.size lt1)
       have D2 := D2a.out.block (gb2 (w.heap.size + 1) lt1')
       have own1b := owns_blocks own1a.out (fun q h1 h2 h3 => gb2 q (O1L.out q h3))
       obtain ⟨a2, k2, rfl⟩ := owns_slice own2
       have C2s := C2.set_3 (.slice a2 x.uses.length k2)
       have D2s := D2.block (w' := w2.setCell ⟨w.heap.size, 3, none⟩ (.slice a2 x.uses.length k2)) (Below.heap_setCell _ _ _ _ (by simp))
       have bw2s := bw2.setCell (p := ⟨w.heap.size, 3, none⟩) (Nat.le_refl _) (.slice a2 x.uses.length k2)
       have own1s := owns_blocks (W' := w2.setCell ⟨w.heap.size, 3, none⟩ (.slice a2 x.uses.length k2)) own1b (fun q h1 _ _ => Below.heap_setCell _ _ _ _ (by simp only; omega))
       have own2s := owns_blocks (W' := w2.setCell ⟨w.heap.size, 3, none⟩ (.slice a2 x.uses.length k2)) own2 (fun q h1 _ _ => Below.heap_setCell _ _ _ _ (by simp only; omega))
       have zs2 : (w2.setCell ⟨w.heap.size, 3, none⟩ (.slice a2 x.uses.length k2)).heap.size = w2.heap.size := (by simp)
       have z2w : w1.heap.size + 1 ≤ w2.heap.size := (by have := Z2a.out; omega)
       have hO3 := lit_own (w := w2.setCell ⟨w.heap.size, 3, none⟩ (.slice a2 x.uses.length k2)) (base := w2.heap.size) (e := 105) 3 (by rw [zs2]; exact Nat.le_refl _)
       rw [zs2] at hO3
       have bw3a := bw2s.alloc (by rw [zs2]; omega) (.cells #[] 105)
       have hR3 : RowK _ _ 3 x.proof.length (stC x.proof) := HE.out.p.below bw3a
       have bA3 := (Below.refl (w2.setCell ⟨w.heap.size, 3, none⟩ (.slice a2 x.uses.length k2)).heap.size (w2.setCell ⟨w.heap.size, 3, none⟩ (.slice a2 x.uses.length k2))).alloc (Nat.le_refl _) (.cells #[] 105)
       have C3a := hid (C2s.below bA3)
       have D3a := hid (D2s.below bA3)
       have own1c := hid (owns_below own1s bA3)
       have own2c := hid (owns_below own2s bA3)
       have O2L := hid (fun q h => (own2.lt q h).2)
       have Z3a := hid (show ((w2.setCell ⟨w.heap.size, 3, none⟩ (.slice a2 x.uses.length k2)).alloc (.cells #[] 105)).heap.size = w2.heap.size + 1 from (by rw [World.size_alloc, zs2]))
       have B3a := hid bw3a
       have Z2W := hid z2w
       have lt2 : w.heap.size < w2.heap.size := (by omega)
       have lt2' : w.heap.size + 1 < w2.heap.size := (by omega)
       clear c0 c1 c2 c3 c4 z0 z1 z2 z3 z4
       obtain ⟨c0, c1, c2, c3, c4, z0, z1, z2, z3, z4⟩ := C2
       clear C2s D2s bw2s own1s own2s zs2 z2w bw3a bA3 D2 bw2 gb2 gz2 own2' own2 grow2 own1b hO2 hR2)
    | (at_builtin; refine wpList_append_row rfl (.tmp 13) (.tmp 15) 39 rfl w2.heap.size 105 el_step Tryz.underlying39 rfl (by decide) _ _ _ rfl hO3 _ x.proof.length (stC x.proof) rfl hR3 (stC_one _) (by omega) (by omega) (by rw [Z3a.out]; omega) ?_
       intro v3 w3 own3' grow3 _
       have own3 : w3.ownsRow w2.heap.size 105 3 v3 x.proof.length (stC x.proof) := (by simpa using own3')
       have gb3 : ∀ q, q < w2.heap.size → w3.heap[q]? = _ := fun q hq => grow3.block q (by rw [Z3a.out]; omega) (fun e => by have e2 : q = w2.heap.size := Option.some.inj e; omega)
       have gz3 := grow3.size
       have bw3 := B3a.out.grown grow3 (by rw [Z3a.out]; omega) (fun q hq => by cases hq; show w.heap.size ≤ w2.heap.size; omega)
       have C3 := C3a.out.block (gb3 w.heap.size lt2)
       have D3 := D3a.out.block (gb3 (w.heap.size + 1) lt2')
       have own1d := owns_blocks own1c.out (fun q h1 h2 h3 => gb3 q (by have := O1L.out q h3; have := Z2W.out; omega))
       have own2d := owns_blocks own2c.out (fun q h1 h2 h3 => gb3 q (O2L.out q h3))
       obtain ⟨a3, k3, rfl⟩ := owns_slice own3
       have hO : EntO w3 (w.heap.size + 2) (.slice a1 x.says.length k1) (.slice a2 x.uses.length k2) (.slice a3 x.proof.length k3) x := ⟨owns_base own1d (by omega), owns_base own2d (by have := Z1W.out; omega), owns_base own3 (by have := Z1W.out; have := Z2W.out; omega), ls, lu, lp, HNU.out, HN.out, HN2.out⟩
       have C3s := C3.set4 (.slice a3 x.proof.length k3)
       have D3s := D3.block (w' := w3.setCell ⟨w.heap.size, 4, none⟩ (.slice a3 x.proof.length k3)) (Below.heap_setCell _ _ _ _ (by simp))
       have bw3s := bw3.setCell (p := ⟨w.heap.size, 4, none⟩) (Nat.le_refl _) (.slice a3 x.proof.length k3)
       have HOO := hid hO
       have HC3 := hid C3s
       have HD3 := hid D3s
       have HB3 := hid bw3s
       clear c0 c1 c2 c3 c4 z0 z1 z2 z3 z4
       obtain ⟨c0, c1, c2, c3, c4, z0, z1, z2, z3, z4⟩ := C3
       obtain ⟨d0, d1, d2, d3, d4, y0, y1, y2, y3, y4⟩ := D3
       clear own1d own2d own3 own3' grow3 gb3 gz3 bw3 C3s D3s bw3s hO hO3 hR3))
  (try simp only [Exit.inBlock, Exit.then])
  clear c0 c1 c2 c3 c4 z0 z1 z2 z3 z4 d0 d1 d2 d3 d4 y0 y1 y2 y3 y4
  obtain ⟨c0, c1, c2, c3, c4, -, -, -, -, -⟩ := HD3.out.store (.string x.name) (.string x.who) (.slice a1 x.says.length k1) (.slice a2 x.uses.length k2) (.slice a3 x.proof.length k3)
  have hall : ∀ q, w.heap.size + 2 ≤ q → (set5 (w3.setCell ⟨w.heap.size, 4, none⟩ (.slice a3 x.proof.length k3)) (w.heap.size + 1) (.string x.name) (.string x.who) (.slice a1 x.says.length k1) (.slice a2 x.uses.length k2) (.slice a3 x.proof.length k3)).heap[q]? = w3.heap[q]? := fun q hq => by rw [heap_set5 _ _ _ _ _ _ _ (by omega)]; exact Below.heap_setCell _ _ _ _ (by simp only; omega)
  have hF := HOO.out.blocks (base' := w.heap.size) (by omega) fun q hq _ => hall q hq
  refine bodyPost_ret (v := .agg #[.string x.name, .string x.who, .slice a1 x.says.length k1, .slice a2 x.uses.length k2, .slice a3 x.proof.length k3]) ?_ rfl ⟨_, rfl, ⟨_, _, _, rfl, hF⟩, set5_below HB3.out (by omega) _ _ _ _ _⟩
  unfold set5 at c0 c1 c2 c3 c4
  clear hall hF
  simp only [results, Tryz.results82]
  go_simp
end Go.Proofs.YtlbjbmpkaniojaaGreat
namespace Go.Proofs.YtlbjbmpkaniojaaGreat
open Go Go.RowKit Go.Maps
set_option maxHeartbeats 2000000 in
set_option maxRecDepth 100000 in
theorem blame_copies (vl : Value) (l : List En) (w : World) (hl : EntsAt w vl l) (hl1 : l.length ≤ 1000) (hok : ∀ x ∈ l, EnSm x) :
    Calls Tryz.prog 65 #[vl] w fun e w' => ∃ u vs, e = .returned u ∧ EnW w' w.heap.size u vs l ∧ Below w.heap.size w w' := by
  obtain ⟨la, lc, rfl, -, ll, -, HC⟩ := hl.open
  have HC' := hid HC
  have HOK := hid hok
  have h00 := hid (EnW.nil w w.heap.size)
  clear HC hl hok
  go_enter Tryz.func65, Tryz.ntmps65
  go_wp2
  go_loopw [3, 8] (fun u kv wr => ∃ (k : Nat) (vs : List V3), k ≤ l.length ∧ kv = .int .i64 k ∧ EnW wr w.heap.size u vs (l.take k) ∧ Below w.heap.size w wr) (fun _ kv _ => l.length - (intOf kv).toNat)
  case atStart => exact ⟨0, [], by omega, rfl, by simpa using h00.out, Below.refl _ _⟩
  case round =>
    clear h00
    obtain ⟨k, vs, hk, rfl, hE, hb⟩ := hrel
    have hsz := hb.size
    by_cases hlt : k < l.length
    · obtain ⟨b, o, vS, vu, vp, rfl, c0, c1, c2, c3, c4, he⟩ := HC'.out k hlt
      have he' := he.below hb
      obtain ⟨sa, sc, rfl, -⟩ := he'.s.open
      obtain ⟨ua, uc, rfl, -⟩ := he'.u.open
      obtain ⟨pa, pc, rfl, -⟩ := he'.p.open
      have d0 := (hb.cell (World.block_lt_of_cell? _ _ c0)).trans c0
      have d1 := (hb.cell (World.block_lt_of_cell? _ _ c1)).trans c1
      have d2 := (hb.cell (World.block_lt_of_cell? _ _ c2)).trans c2
      have d3 := (hb.cell (World.block_lt_of_cell? _ _ c3)).trans c3
      have d4 := (hb.cell (World.block_lt_of_cell? _ _ c4)).trans c4
      obtain ⟨s0, s1, s2, s3⟩ := HOK.out _ (List.getElem_mem hlt)
      have HTK := hid (show l.take (k + 1) = l.take k ++ [l[k]] from List.take_succ_eq_append_getElem hlt)
      have hlen : (l.take k).length = k := by simp; omega
      obtain ⟨x, hx⟩ : ∃ x, l[k] = x := ⟨_, rfl⟩
      rw [hx] at d0 d1 d2 d3 d4 he' s0 s1 s2 s3 HTK
      obtain ⟨L, hL⟩ : ∃ L, l.take k = L := ⟨_, rfl⟩
      rw [hL] at hE HTK hlen
      clear c0 c1 c2 c3 c4 he hx hL
      have EB0 := EB.new wr x (.slice sa x.says.length sc) (.slice ua x.uses.length uc) (.slice pa x.proof.length pc) 41
      obtain ⟨W, hW⟩ : ∃ W, wr.alloc (.cells #[.string x.name, .string x.who, .slice sa x.says.length sc, .slice ua x.uses.length uc, .slice pa x.proof.length pc] 41) = W := ⟨_, rfl⟩
      have hbr : Below wr.heap.size wr W := hW ▸ (Below.refl _ _).alloc (Nat.le_refl _) _
      rw [hW] at EB0
      have HCP := hid (blame_copied (.slice sa x.says.length sc) (.slice ua x.uses.length uc) (.slice pa x.proof.length pc) x W (he'.below hbr) s0 s1 s2 s3)
      have HHW := hid hW
      have HBR := hid hbr
      have HE := hid hE
      have HB := hid hb
      clear EB0 hW hbr hE hb he'
      go_wp2_with fail
      rw [HHW.out]
      refine HCP.out.mono ?_
      rintro e w2 ⟨v, rfl, ⟨vS, vU, vP, rfl, hO⟩, hb2⟩
      have hbr2 : Below wr.heap.size wr w2 := HBR.out.trans (hb2.mono HBR.out.size)
      have hbw2 := HB.out.trans (hbr2.mono hsz)
      obtain ⟨a1, k1, rfl⟩ := owns_slice hO.s
      obtain ⟨a2, k2, rfl⟩ := owns_slice hO.u
      obtain ⟨a3, k3, rfl⟩ := owns_slice hO.p
      have HE2 := hid (HE.out.below hbr2)
      have HBR2 := hid hbr2
      have HO2 := hid hO
      have HB2 := hid hbw2
      have HSZ2 := hid hbw2.size
      have HU := hid HE.out.top.lt
      have hown2 := HE2.out.top
      rw [hlen] at hown2
      have hownA := hown2.alloc (.cells #[.string x.name, .string x.who, .slice a1 x.says.length k1, .slice a2 x.uses.length k2, .slice a3 x.proof.length k3] 41)
      have HROW := hid (row_one_ent w2 (.string x.name) (.string x.who) (.slice a1 x.says.length k1) (.slice a2 x.uses.length k2) (.slice a3 x.proof.length k3) 41)
      have HRS := hid HBR.out.size
      have HRW := hid hsz
      have hwz := hbw2.size
      clear hO hb2 hbr2 hbw2 hown2
      go_wp2_with (at_builtin; refine wpList_append_lie rfl _ _ 24 rfl w.heap.size 41 el_ent Tryz.underlying24 rfl (by decide) u3 k (ensC L vs) rfl hownA _ 1 (enC x (.slice a1 x.says.length k1, .slice a2 x.uses.length k2, .slice a3 x.proof.length k3)) rfl HROW.out (enC_one _ _ _ _ _ _ _ _ _ _) (by omega) (by omega) (by omega) (by simp; omega) _ rfl ?_; intro g cap w4 hown4 hgrow4 hat4 hlt4)
      go_roundw
      case rel =>
        refine ⟨k + 1, vs ++ [(.slice a1 x.says.length k1, .slice a2 x.uses.length k2, .slice a3 x.proof.length k3)], by omega, by go_num, ?_, (HB2.out.alloc HSZ2.out _).grown hgrow4 (by simp; have := HSZ2.out; omega) (fun q hq => (HU.out q hq).1)⟩
        rw [HTK.out]
        have hba : Below w2.heap.size w2 (w2.alloc (.cells #[.string x.name, .string x.who, .slice a1 x.says.length k1, .slice a2 x.uses.length k2, .slice a3 x.proof.length k3] 41)) := (Below.refl _ _).alloc (Nat.le_refl _) _
        exact HE.out.push (w1 := w2.alloc _) (HBR2.out.trans (hba.mono HBR2.out.size)) (HO2.out.blocks HRS.out fun q _ hq => hba.block q hq) HRW.out hlen.symm hown4 hgrow4
      case measure => simp [intOf]; omega
    · have hkl : k = l.length := by omega
      subst hkl
      rw [List.take_of_length_le (Nat.le_refl _)] at hE
      have HE := hid hE
      clear hE
      go_wp2
      go_ret
      exact ⟨_, vs, rfl, HE.out, hb⟩
theorem blame_find1 (p : Nat) (n : Nm) (y : En) (vS vU vP : Value) (w : World) (hE : w.cell? ⟨p, 0, none⟩ = some (.string n)) :
    Calls Tryz.prog 134 #[.agg #[.string y.name, .string y.who, vS, vU, vP], .pointer (some ⟨p, 0, none⟩)] w fun e w' => e = .returned (.bool (decide (y.name = n))) ∧ Below w.heap.size w w' := by
  have HB := hid (show Below w.heap.size w (w.alloc (.cells #[.string y.name, .string y.who, vS, vU, vP] 41)) from (Below.refl _ _).alloc (Nat.le_refl _) _)
  have hlt : p < w.heap.size := World.block_lt_of_cell? _ _ hE
  by_cases h : y.name = n
  · have q : (y.name.toList == n.toList) = true := by rw [bytes_eq]; simpa using h
    have HF := hid (decide_eq_true h)
    clear h
    go_enter Tryz.func134, Tryz.ntmps134
    go_wp2
    go_ret
    exact ⟨ret_bool HF.out.symm, HB.out⟩
  · have q : (y.name.toList == n.toList) = false := by rw [bytes_eq]; simpa using h
    have HF := hid (decide_eq_false h)
    clear h
    go_enter Tryz.func134, Tryz.ntmps134
    go_wp2
    go_ret
    exact ⟨ret_bool HF.out.symm, HB.out⟩
theorem firstI_idx (l : List En) (n : Nm) : firstI l.length (fun i => decide ((l.getD i en0).name = n)) = idxI l n := by
  unfold idxI
  cases h : idxN l n with
  | none =>
    refine firstI_no fun j hj => ?_
    rw [decide_eq_false_iff_not]
    have e1 : l.getD j en0 = l[j] := by rw [List.getD_eq_getElem?_getD, List.getElem?_eq_getElem hj]; rfl
    rw [e1]
    exact idxN_none h _ (List.getElem_mem hj)
  | some i =>
    have hi := (idxN_some h).1
    unfold idxN at h
    obtain ⟨h1, h2, h3⟩ := List.findIdx?_eq_some_iff_getElem.1 h
    have e1 : ∀ j (hj : j < l.length), l.getD j en0 = l[j] := fun j hj => by rw [List.getD_eq_getElem?_getD, List.getElem?_eq_getElem hj]; rfl
    refine firstI_at hi ?_ fun j hj => ?_
    · rw [e1 i hi]; simpa using h2
    · rw [e1 j (by omega)]; simpa using h3 j hj
theorem box1e (w : World) (x : Value) (t : TypeId) : (w.alloc (.cells #[x] t)).cell? ⟨w.heap.size, 0, none⟩ = some x := by rw [World.cell?_alloc_new]; rfl
theorem blame_find (vl : Value) (l : List En) (n : Nm) (w : World) (hl : EntsAt w vl l) :
    Calls Tryz.prog 80 #[vl, .string n] w fun e w' => e = .returned (.int .i64 (idxI l n)) ∧ Below w.heap.size w w' := by
  have hbW : Below w.heap.size w (w.alloc (.cells #[.string n] 9)) := (Below.refl _ _).alloc (Nat.le_refl _) _
  have k0 := box1e w (.string n) 9
  obtain ⟨W, hW⟩ : ∃ W, w.alloc (.cells #[.string n] 9) = W := ⟨_, rfl⟩
  rw [hW] at hbW k0
  have HI := hid (sl_IndexFunc_ents 134 #[.pointer (some ⟨w.heap.size, 0, none⟩)] (enters_of Tryz.func134 (by kernel_rfl) rfl) vl l W (hl.below hbW) (fun i => decide ((l.getD i en0).name = n)) (by
    intro i hi vs vu vp X hX _
    have e1 : l.getD i en0 = l[i] := by rw [List.getD_eq_getElem?_getD, List.getElem?_eq_getElem hi]; rfl
    simp only [e1]
    exact blame_find1 w.heap.size n l[i] vs vu vp X ((hX.cell (World.block_lt_of_cell? _ _ k0)).trans k0)))
  rw [firstI_idx] at HI
  obtain ⟨la, lc, rfl, -⟩ := hl.open
  have HW := hid hW
  have HB := hid hbW
  clear hl hW hbW k0
  go_enter Tryz.func80, Tryz.ntmps80
  go_wp2_with fail
  rw [HW.out]
  refine HI.out.mono ?_
  rintro e w1 ⟨rfl, hb1⟩
  go_wp2
  go_ret
  exact ⟨rfl, HB.out.trans (hb1.mono HB.out.size)⟩
set_option maxHeartbeats 1000000 in
theorem blame_used1 (p q : Nat) (n but : Nm) (y : En) (vS vU vP : Value) (w : World) (hy : EntAt w vS vU vP y) (hp : w.cell? ⟨p, 0, none⟩ = some (.string but)) (hq : w.cell? ⟨q, 0, none⟩ = some (.string n)) :
    Calls Tryz.prog 128 #[.agg #[.string y.name, .string y.who, vS, vU, vP], .pointer (some ⟨p, 0, none⟩), .pointer (some ⟨q, 0, none⟩)] w fun e w' => e = .returned (.bool (decide (y.name ≠ but) && hasN y.uses n)) ∧ Below w.heap.size w w' := by
  obtain ⟨sa, sc, rfl, -⟩ := hy.s.open
  obtain ⟨ua, uc, rfl, -⟩ := hy.u.open
  obtain ⟨pa, pc, rfl, -⟩ := hy.p.open
  have hb : Below w.heap.size w (w.alloc (.cells #[.string y.name, .string y.who, .slice sa y.says.length sc, .slice ua y.uses.length uc, .slice pa y.proof.length pc] 41)) := (Below.refl _ _).alloc (Nat.le_refl _) _
  have HC := hid (sl_Contains_strs _ y.uses n _ (hy.below hb).u)
  have HB := hid hb
  have hlt : p < w.heap.size := World.block_lt_of_cell? _ _ hp
  have hlt' : q < w.heap.size := World.block_lt_of_cell? _ _ hq
  clear hy hb
  by_cases h : y.name = but
  · have q1 : (y.name.toList == but.toList) = true := by rw [bytes_eq]; simpa using h
    have q2 : (y.name.toList != but.toList) = false := by rw [bne, q1]; rfl
    have HF := hid (show (decide (y.name ≠ but) && hasN y.uses n) = false by simp [h])
    clear h
    go_enter Tryz.func128, Tryz.ntmps128
    go_wp2
    go_ret
    exact ⟨ret_bool HF.out.symm, HB.out⟩
  · have q1 : (y.name.toList == but.toList) = false := by rw [bytes_eq]; simpa using h
    have q2 : (y.name.toList != but.toList) = true := by rw [bne, q1]; rfl
    have HF := hid (show hasN y.uses n = (decide (y.name ≠ but) && hasN y.uses n) by simp [h])
    clear h
    go_enter Tryz.func128, Tryz.ntmps128
    go_wp2_with (go_at_call 129; refine HC.out.mono ?_; rintro e w' ⟨rfl, rfl⟩)
    go_ret
    exact ⟨ret_bool HF.out, HB.out⟩
theorem used_any (l : List En) (n but : Nm) : (List.range l.length).any (fun i => decide ((l.getD i en0).name ≠ but) && hasN (l.getD i en0).uses n) = l.any (fun x => decide (x.name ≠ but) && hasN x.uses n) := by
  have e1 : ∀ j (hj : j < l.length), l.getD j en0 = l[j] := fun j hj => by rw [List.getD_eq_getElem?_getD, List.getElem?_eq_getElem hj]; rfl
  rw [Bool.eq_iff_iff, List.any_eq_true, List.any_eq_true]
  constructor
  · rintro ⟨i, hi, h⟩
    have hi := List.mem_range.1 hi
    rw [e1 i hi] at h
    exact ⟨l[i], List.getElem_mem hi, h⟩
  · rintro ⟨x, hx, h⟩
    obtain ⟨i, hi, rfl⟩ := List.getElem_of_mem hx
    exact ⟨i, List.mem_range.2 hi, by rw [e1 i hi]; exact h⟩
theorem blame_used (vl : Value) (l : List En) (n but : Nm) (w : World) (hl : EntsAt w vl l) :
    Calls Tryz.prog 78 #[vl, .string n, .string but] w fun e w' => e = .returned (.bool (l.any fun x => decide (x.name ≠ but) && hasN x.uses n)) ∧ Below w.heap.size w w' := by
  have hbV : Below w.heap.size w (w.alloc (.cells #[.string n] 9)) := (Below.refl _ _).alloc (Nat.le_refl _) _
  have k0 := box1e w (.string n) 9
  obtain ⟨V, hV⟩ : ∃ V, w.alloc (.cells #[.string n] 9) = V := ⟨_, rfl⟩
  have hVz : V.heap.size = w.heap.size + 1 := by rw [← hV]; simp
  rw [hV] at hbV k0
  have hbW : Below V.heap.size V (V.alloc (.cells #[.string but] 9)) := (Below.refl _ _).alloc (Nat.le_refl _) _
  have k1 := box1e V (.string but) 9
  have k0' := (hbW.cell (World.block_lt_of_cell? _ _ k0)).trans k0
  obtain ⟨W, hW⟩ : ∃ W, V.alloc (.cells #[.string but] 9) = W := ⟨_, rfl⟩
  rw [hW] at hbW k1 k0'
  rw [hVz] at k1
  have hb := hbV.trans (hbW.mono hbV.size)
  have HI := hid (sl_ContainsFunc_ents 128 #[.pointer (some ⟨w.heap.size + 1, 0, none⟩), .pointer (some ⟨w.heap.size, 0, none⟩)] (enters_of Tryz.func128 (by kernel_rfl) rfl) vl l W (hl.below hb) (fun i => decide ((l.getD i en0).name ≠ but) && hasN (l.getD i en0).uses n) (by
    intro i hi vs vu vp X hX he
    have e1 : l.getD i en0 = l[i] := by rw [List.getD_eq_getElem?_getD, List.getElem?_eq_getElem hi]; rfl
    simp only [e1]
    exact blame_used1 (w.heap.size + 1) w.heap.size n but l[i] vs vu vp X he ((hX.cell (World.block_lt_of_cell? _ _ k1)).trans k1) ((hX.cell (World.block_lt_of_cell? _ _ k0')).trans k0')))
  rw [used_any] at HI
  obtain ⟨la, lc, rfl, -⟩ := hl.open
  have HW : Hid ((w.alloc (.cells #[.string n] 9)).alloc (.cells #[.string but] 9) = W) := hid (by rw [hV, hW])
  have HB := hid hb
  clear hl hV hW hbV hbW hb k0 k0' k1 hVz
  go_enter Tryz.func78, Tryz.ntmps78
  go_wp2_with fail
  rw [HW.out]
  refine HI.out.mono ?_
  rintro e w1 ⟨rfl, hb1⟩
  go_wp2
  go_ret
  exact ⟨ret_bool (by simp), HB.out.trans (hb1.mono HB.out.size)⟩
end Go.Proofs.YtlbjbmpkaniojaaGreat
