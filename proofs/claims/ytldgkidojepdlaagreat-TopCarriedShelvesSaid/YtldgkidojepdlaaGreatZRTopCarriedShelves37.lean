/-
  WHAT IT HOLDS: contract of where of package find. Conditions: the arguments read as data; a valid term; a small sign.
-/
import Derived.Test.YtldgkidojepdlaaGreatZRTopCarriedShelves36
import Derived.Test.YtldgkidojepdlaaGreatZRTopCarriedShelves12
import Derived.Test.YtldgkidojepdlaaGreatZRTopCarriedShelves15
namespace Go.Proofs.YtldgkidojepdlaaGreat
open Go Go.RowKit Go.Maps Go.Shelf
attribute [local go_sem] Oper.semAt_some
theorem ownsRow_frm' {w w' : World} {b : Nat} {e : TypeId} {k : Nat} {v : Value} {n : Nat} {xs : List Value} (h : w.ownsRow b e k v n xs) (hs : ∀ q, v.ownBlock = some q → w'.heap[q]? = w.heap[q]?) : w'.ownsRow b e k v n xs := by
  obtain ⟨h1, h2⟩ := h
  refine ⟨h1, ?_⟩
  rcases h2 with h2 | ⟨g, cap, cur, r1, r2, r3, r4⟩
  · exact .inl h2
  · subst r1
    exact .inr ⟨g, cap, cur, rfl, r2, by rw [hs g rfl]; exact r3, r4⟩
theorem ownsRow_slice' {w : World} {b : Nat} {e : TypeId} {k : Nat} {v : Value} {n : Nat} {xs : List Value} (h : w.ownsRow b e k v n xs) : ∃ a c, v = .slice a n c := by
  obtain ⟨h1, h2⟩ := h
  rcases h2 with h2 | ⟨g, cap, cur, r1, r2, r3, r4⟩
  · exact ⟨none, 0, by simp_all⟩
  · exact ⟨_, _, r1⟩
theorem cell_same' {W W' : World} {p : Addr} {v : Value} (h : W.cell? p = some v) (hs : W'.heap[p.block]? = W.heap[p.block]?) : W'.cell? p = some v := (World.cell?_of_block hs).trans h
def flP (s : Sg) (q : List Int) (pre : List PE) : List (List Int) := (pre.filter fun x => instB s q x.2.2).map fun x => x.1.2
theorem flP_yes {s : Sg} {q : List Int} {pre : List PE} {x : PE} (h : instB s q x.2.2 = true) : flP s q (pre ++ [x]) = flP s q pre ++ [x.1.2] := by simp [flP, List.filter_append, h]
theorem flP_no {s : Sg} {q : List Int} {pre : List PE} {x : PE} (h : instB s q x.2.2 = false) : flP s q (pre ++ [x]) = flP s q pre := by simp [flP, List.filter_append, h]
theorem flP_len (s : Sg) (q : List Int) (pre : List PE) : (flP s q pre).length ≤ pre.length := by unfold flP; rw [List.length_map]; exact List.length_filter_le _ _
theorem flP_whr {s : Sg} {q t : List Int} {xs : List PE} (h : xs.map (fun x => (x.1.2, x.2.2)) = prs s [[]] t) : flP s q xs = whrL s t q := by
  unfold flP whrL
  rw [← h, List.filter_map, List.map_map]
  rfl
structure WhI (T : List (List Int × List Int)) (s : Sg) (q : List Int) (vs vq : Value) (wb : World) (B b3 b5 b7 : Nat) (pre : List PE) (M : Nat → Prop) (W : World) : Prop where
  dat : pre.map (fun x => (x.1.2, x.2.2)) = T.take pre.length
  c3 : W.cell? ⟨b3, 0, none⟩ = some vs
  c5 : W.cell? ⟨b5, 0, none⟩ = some vq
  out : ∃ uo vvs, W.cell? ⟨b7, 0, none⟩ = some uo ∧ W.frozen? ⟨b7, 0, none⟩ = false ∧ W.ownsRow B 28 1 uo vvs.length vvs ∧ (∀ k, uo.ownBlock = some k → M k) ∧ vvs.length = (flP s q pre).length ∧
    ∀ (i : Nat) (v : Value) (p : List Int), vvs[i]? = some v → (flP s q pre)[i]? = some p → Safe (fun k => M k ∨ k = B + 1) (fun W => Ints W v p) W
  bel : Below wb.heap.size wb W
  mem : M b7
  nm : ¬ M b3 ∧ ¬ M b5
theorem WhI.kb {T : List (List Int × List Int)} {s : Sg} {q : List Int} {vs vq : Value} {wb : World} {B b3 b5 b7 : Nat} {pre : List PE} {M : Nat → Prop} {W W' : World} (h : WhI T s q vs vq wb B b3 b5 b7 pre M W) (hB : wb.heap.size ≤ B) (h3 : b3 < B) (h5 : b5 < B) (h7 : b7 < B)
    {R : Nat → Prop} (hk : Kb R W W') (hR : ∀ k, R k → k = B + 1) (hm : R (B + 1) → ¬ M (B + 1)) : WhI T s q vs vq wb B b3 b5 b7 pre M W' := by
  obtain ⟨a1, a2, a3, ⟨uo, vvs, a4, a5, a6, a7, a8, a9⟩, a10, a11, a12⟩ := h
  have e7 := hk.same _ (World.block_lt_of_cell? _ _ a4) (fun h => by have := hR _ h; simp at this; omega)
  refine ⟨a1, cell_same' a2 (hk.same _ (World.block_lt_of_cell? _ _ a2) (fun h => by have := hR _ h; simp at this; omega)), cell_same' a3 (hk.same _ (World.block_lt_of_cell? _ _ a3) (fun h => by have := hR _ h; simp at this; omega)),
    ⟨uo, vvs, cell_same' a4 e7, (World.frozen?_of_block e7).trans a5, ownsRow_frm' a6 (fun k hq => hk.same k (a6.lt k hq).2 (fun h => ?_)), a7, a8, fun i v p h1 h2 => (a9 i v p h1 h2).turn (hk.mono (M' := fun k => M k ∨ k = B + 1) (fun k _ h => Or.inr (hR k h))) (fun k h => Or.inl h)⟩,
    a10.trans (hk.below a10.size (fun k h => by have := hR k h; omega)), a11, a12⟩
  have := hR k h
  subst this
  exact hm h (a7 _ hq)
theorem WhI.grw {T : List (List Int × List Int)} {s : Sg} {q : List Int} {vs vq : Value} {wb : World} {B b3 b5 b7 : Nat} (hB : wb.heap.size ≤ B) (h3 : b3 < B) (h5 : b5 < B) (h7 : b7 < B) (pre : List PE) : Grw B (WhI T s q vs vq wb B b3 b5 b7 pre) :=
  ⟨fun M W W' h hb => h.kb hB h3 h5 h7 (R := fun _ => False) (Kb.of_below hb) (fun _ h => h.elim) (fun h => h.elim),
   fun M W o o' ho hc h hm => h.kb hB h3 h5 h7 (R := fun k => k = B + 1) (Kb.put (M := fun k => k = B + 1) _ rfl) (fun _ h => h) (fun _ => hm)⟩
theorem WhI.skip {T : List (List Int × List Int)} {s : Sg} {q : List Int} {vs vq : Value} {wb : World} {B b3 b5 b7 : Nat} {pre : List PE} {x : PE} {M : Nat → Prop} {W : World} (h : WhI T s q vs vq wb B b3 b5 b7 pre M W) (hE : T[pre.length]? = some (x.1.2, x.2.2)) (hi : instB s q x.2.2 = false) : WhI T s q vs vq wb B b3 b5 b7 (pre ++ [x]) M W := by
  obtain ⟨a1, a2, a3, ⟨uo, vvs, a4, a5, a6, a7, a8, a9⟩, a10, a11, a12⟩ := h
  refine ⟨?_, a2, a3, ⟨uo, vvs, a4, a5, a6, a7, by rw [flP_no hi]; exact a8, by rw [flP_no hi]; exact a9⟩, a10, a11, a12⟩
  rw [List.map_append, a1, List.length_append, List.length_singleton, List.take_add_one, hE]
  rfl
theorem WhI.push {T : List (List Int × List Int)} {s : Sg} {q : List Int} {vs vq : Value} {wb : World} {B b3 b5 b7 : Nat} {pre : List PE} {x : PE} {M : Nat → Prop} {W W6 W7 : World} (h : WhI T s q vs vq wb B b3 b5 b7 pre M W) (hB : wb.heap.size ≤ B) (h3 : b3 < B) (h5 : b5 < B) (h7 : b7 < B) (hw7 : wb.heap.size ≤ b7) (hBW : B ≤ W.heap.size)
    (hne : b3 ≠ b7 ∧ b5 ≠ b7) (hE : T[pre.length]? = some (x.1.2, x.2.2)) (hS : Safe (fun k => M k ∨ k = B + 1) (fun W => Ints W x.1.1 x.1.2) W) (hi : instB s q x.2.2 = true) (hMl : ∀ k, M k → k < W.heap.size ∧ wb.heap.size ≤ k)
    {uo : Value} {vvs : List Value} (c0 : W.cell? ⟨b7, 0, none⟩ = some uo) (f0 : W.frozen? ⟨b7, 0, none⟩ = false) (hrow : ∀ k, uo.ownBlock = some k → M k ∧ B ≤ k) (hlen : vvs.length = (flP s q pre).length)
    (hall : ∀ (i : Nat) (v : Value) (p : List Int), vvs[i]? = some v → (flP s q pre)[i]? = some p → Safe (fun k => M k ∨ k = B + 1) (fun W => Ints W v p) W)
    (hb : Below W.heap.size W W6) {g cap n : Nat} (hn : vvs.length = n) (hown : W7.ownsRow B 28 1 (.slice (some ⟨g, 0, none⟩) (n + 1) cap) (n + 1) (vvs ++ [x.1.1])) (hg : W6.grownBy W7 uo.ownBlock) (hat : uo.ownBlock = some g ∨ g = W6.heap.size) (hlt : g < W7.heap.size) :
    ∃ M' : Nat → Prop, (∀ k, M' k → (M k ∨ W.heap.size ≤ k) ∧ k < (W7.setCell ⟨b7, 0, none⟩ (.slice (some ⟨g, 0, none⟩) (n + 1) cap)).heap.size) ∧
      Kb (fun k => M k ∨ W.heap.size ≤ k) W (W7.setCell ⟨b7, 0, none⟩ (.slice (some ⟨g, 0, none⟩) (n + 1) cap)) ∧
      WhI T s q vs vq wb B b3 b5 b7 (pre ++ [x]) M' (W7.setCell ⟨b7, 0, none⟩ (.slice (some ⟨g, 0, none⟩) (n + 1) cap)) := by
  subst hn
  obtain ⟨a1, a2, a3, -, a10, a11, a12⟩ := h
  have hs67 := hg.size
  have hs06 := hb.size
  have k7 : Kb (fun k => (M k ∧ B ≤ k)) W W7 := (Kb.of_below hb).trans (Kb.grown (M := fun k => M k ∧ B ≤ k) hg (fun k hk => Or.inl (hrow k hk))) (fun k hk => Or.inl hk)
  have hgB : B ≤ g := by
    rcases hat with h | h
    · exact (hrow g h).2
    · omega
  have e0 : W7.heap[b7]? = W.heap[b7]? := k7.same _ (by omega) (fun h => by omega)
  have c7 : W7.cell? ⟨b7, 0, none⟩ = some uo := cell_same' c0 e0
  have kf : Kb M W (W7.setCell ⟨b7, 0, none⟩ (.slice (some ⟨g, 0, none⟩) (vvs.length + 1) cap)) := (k7.mono (M' := M) (fun k _ hk => hk.1)).trans (Kb.setCell (M := M) _ a11) (fun k hk => Or.inl hk)
  have hsz : (W7.setCell ⟨b7, 0, none⟩ (.slice (some ⟨g, 0, none⟩) (vvs.length + 1) cap)).heap.size = W7.heap.size := by simp [World.setCell]
  have hsub : ∀ k, (M k ∨ (W.heap.size ≤ k ∧ k < W7.heap.size)) ∨ k = B + 1 → (M k ∨ k = B + 1) ∨ W.heap.size ≤ k := fun k hk => by
    rcases hk with (hk | hk) | hk
    · exact Or.inl (Or.inl hk)
    · exact Or.inr hk.1
    · exact Or.inl (Or.inr hk)
  have kfB := kf.mono (M' := fun k => M k ∨ k = B + 1) (fun k _ hk => Or.inl hk)
  refine ⟨fun k => M k ∨ (W.heap.size ≤ k ∧ k < W7.heap.size), fun k hk => ?_, kf.mono (fun k _ hk => Or.inl hk), ?_, cell_same' a2 (kf.same _ (World.block_lt_of_cell? _ _ a2) a12.1), cell_same' a3 (kf.same _ (World.block_lt_of_cell? _ _ a3) a12.2),
    ⟨_, vvs ++ [x.1.1], World.cell?_setCell_same' _ _ _ (by rw [c7]; rfl), (World.frozen?_setCell _ _ _ _).trans ((World.frozen?_of_block e0).trans f0), ?_, fun k hk => ?_, by rw [flP_yes hi, List.length_append, List.length_append, hlen]; rfl, fun i v p hv hp => ?_⟩,
    a10.trans (kf.below a10.size (fun k hk => (hMl k hk).2)), Or.inl a11, fun h => ?_, fun h => ?_⟩
  · rw [hsz]
    rcases hk with hk | hk
    · exact ⟨Or.inl hk, by have := hMl k hk; omega⟩
    · exact ⟨Or.inr hk.1, hk.2⟩
  · rw [List.map_append, a1, List.length_append, List.length_singleton, List.take_add_one, hE]
    rfl
  · refine ownsRow_frm' (by simpa using hown) (fun k hk => Below.heap_setCell _ _ _ _ (fun e => ?_))
    have h1 : g = k := by simpa [Value.ownBlock] using hk
    have h2 : k = b7 := e
    omega
  · have h1 : g = k := by simpa [Value.ownBlock] using hk
    subst h1
    rcases hat with h | h
    · exact Or.inl (hrow _ h).1
    · exact Or.inr ⟨by omega, hlt⟩
  · rw [flP_yes hi] at hp
    rcases Nat.lt_or_ge i vvs.length with h1 | h1
    · rw [List.getElem?_append_left h1] at hv
      rw [List.getElem?_append_left (by omega)] at hp
      exact (hall i v p hv hp).turn kfB hsub
    · rw [List.getElem?_append_right h1] at hv
      rw [List.getElem?_append_right (by omega)] at hp
      rw [← hlen] at hp
      obtain ⟨j, hj⟩ : ∃ j, i - vvs.length = j := ⟨_, rfl⟩
      rw [hj] at hv hp
      cases j with
      | zero =>
        simp at hv hp
        subst hv hp
        exact hS.turn kfB hsub
      | succ j => simp at hv
  · rcases h with h | h
    · exact a12.1 h
    · omega
  · rcases h with h | h
    · exact a12.2 h
    · omega
theorem box5 (w : World) (x1 x2 x3 x4 x5 : Value) (t1 t2 t3 t4 t5 : TypeId) {W : World} (hW : (((((w.alloc (.cells #[x1] t1)).alloc (.cells #[x2] t2)).alloc (.cells #[x3] t3)).alloc (.cells #[x4] t4)).alloc (.cells #[x5] t5)) = W) :
    W.cell? ⟨w.heap.size, 0, none⟩ = some x1 ∧ W.cell? ⟨w.heap.size + 1, 0, none⟩ = some x2 ∧ (W.cell? ⟨w.heap.size + 1 + 1, 0, none⟩ = some x3 ∧ W.frozen? ⟨w.heap.size + 1 + 1, 0, none⟩ = false) ∧ W.cell? ⟨w.heap.size + 1 + 1 + 1, 0, none⟩ = some x4 ∧ W.cell? ⟨w.heap.size + 1 + 1 + 1 + 1, 0, none⟩ = some x5 ∧
    W.heap.size = w.heap.size + 5 ∧ Below w.heap.size w W := by
  obtain ⟨w1, h1⟩ : ∃ w1, w.alloc (.cells #[x1] t1) = w1 := ⟨_, rfl⟩
  obtain ⟨w2, h2⟩ : ∃ w2, w1.alloc (.cells #[x2] t2) = w2 := ⟨_, rfl⟩
  obtain ⟨w3, h3⟩ : ∃ w3, w2.alloc (.cells #[x3] t3) = w3 := ⟨_, rfl⟩
  obtain ⟨w4, h4⟩ : ∃ w4, w3.alloc (.cells #[x4] t4) = w4 := ⟨_, rfl⟩
  rw [h1, h2, h3, h4] at hW
  have s1 : w1.heap.size = w.heap.size + 1 := by rw [← h1]; simp
  have s2 : w2.heap.size = w.heap.size + 1 + 1 := by rw [← h2]; simp [s1]
  have s3 : w3.heap.size = w.heap.size + 1 + 1 + 1 := by rw [← h3]; simp [s2]
  have s4 : w4.heap.size = w.heap.size + 1 + 1 + 1 + 1 := by rw [← h4]; simp [s3]
  have s5 : W.heap.size = w.heap.size + 1 + 1 + 1 + 1 + 1 := by rw [← hW]; simp [s4]
  have c1 : w1.cell? ⟨w.heap.size, 0, none⟩ = some x1 := by rw [← h1]; exact cell_new1 _ _ _
  have c2 : w2.cell? ⟨w.heap.size + 1, 0, none⟩ = some x2 := by rw [← h2, ← s1]; exact cell_new1 _ _ _
  have c3 : w3.cell? ⟨w.heap.size + 1 + 1, 0, none⟩ = some x3 := by rw [← h3, ← s2]; exact cell_new1 _ _ _
  have f3 : w3.frozen? ⟨w.heap.size + 1 + 1, 0, none⟩ = false := by rw [← h3, ← s2]; exact (Boxed.new w2 t3 x3).frozen
  have c4 : w4.cell? ⟨w.heap.size + 1 + 1 + 1, 0, none⟩ = some x4 := by rw [← h4, ← s3]; exact cell_new1 _ _ _
  have c5 : W.cell? ⟨w.heap.size + 1 + 1 + 1 + 1, 0, none⟩ = some x5 := by rw [← hW, ← s4]; exact cell_new1 _ _ _
  have b1 : Below w.heap.size w w1 := by rw [← h1]; exact (Below.refl _ _).alloc (Nat.le_refl _) _
  have b2 : Below w1.heap.size w1 w2 := by rw [← h2]; exact (Below.refl _ _).alloc (Nat.le_refl _) _
  have b3 : Below w2.heap.size w2 w3 := by rw [← h3]; exact (Below.refl _ _).alloc (Nat.le_refl _) _
  have b4 : Below w3.heap.size w3 w4 := by rw [← h4]; exact (Below.refl _ _).alloc (Nat.le_refl _) _
  have b5 : Below w4.heap.size w4 W := by rw [← hW]; exact (Below.refl _ _).alloc (Nat.le_refl _) _
  have b35 := b4.trans (b5.mono b4.size)
  have b25 := b3.trans (b35.mono b3.size)
  have b15 := b2.trans (b25.mono b2.size)
  exact ⟨(b15.cell (World.block_lt_of_cell? _ _ c1)).trans c1, (b25.cell (World.block_lt_of_cell? _ _ c2)).trans c2, ⟨(b35.cell (World.block_lt_of_cell? _ _ c3)).trans c3, (b35.frozen (World.block_lt_of_cell? _ _ c3)).trans f3⟩, (b5.cell (World.block_lt_of_cell? _ _ c4)).trans c4, c5, by omega, b1.trans (b15.mono b1.size)⟩
set_option maxHeartbeats 4000000 in
set_option maxRecDepth 100000 in
theorem find_where (vs vt vq : Value) (s : Sg) (t q : List Int) (w : World) (hs : SignAt w vs s) (ht : Ints w vt t) (hq : Ints w vq q) (hT : termB s t = true) (hs1 : s.length ≤ 1000) :
    Calls Tryz.prog 23 #[vs, vt, vq] w fun e w' => ∃ u, e = .returned u ∧ Terms w' u (whrL s t q) ∧ Below w.heap.size w w' := by
  obtain ⟨hsg, -, -, ht60⟩ := termB_facts hT
  have hIT := termB_T hT
  obtain ⟨sa, sc, rfl, -⟩ := hs.open
  obtain ⟨ta, tc, rfl, -⟩ := ht.open
  obtain ⟨qa, qc, rfl, -⟩ := hq.open
  refine calls_marks Tryz.func23 rfl ?_
  simp only [Tryz.ntmps23, List.size_toArray, List.length_cons, List.length_nil, Nat.reduceAdd, Nat.reduceSub, Array.replicate_succ, Array.replicate_zero, List.push_toArray, List.append_toArray, List.nil_append, List.cons_append]
  go_wp2_with (go_at_call 43; refine (find_parts _ _ _ _ _ _ _).mono ?_; rintro e w4 ⟨rfl, rfl⟩)
  obtain ⟨W0, hW0⟩ : ∃ W0, (((((w.alloc (.cells #[.slice sa s.length sc] 23)).alloc (.cells #[.slice qa q.length qc] 29)).alloc (.cells #[.slice none 0 0] 51)).alloc (.cells #[.slice sa s.length sc] 23)).alloc (.cells #[.slice ta t.length tc] 29)) = W0 := ⟨_, rfl⟩
  rw [hW0]
  obtain ⟨k3, k5, ⟨k7, f7⟩, kb, kt, hsz, hbw⟩ := box5 _ _ _ _ _ _ _ _ _ _ _ hW0
  clear hW0
  have HBW := hid hbw
  have hlT : (prs s [[]] t).length = t.length := prs_len hIT []
  have HST : Hid (WhI (prs s [[]] t) s q (.slice sa s.length sc) (.slice qa q.length qc) w W0.heap.size w.heap.size (w.heap.size + 1) (w.heap.size + 1 + 1) [] (fun k => k = w.heap.size + 1 + 1) W0) :=
    hid ⟨rfl, k3, k5, ⟨_, [], k7, f7, World.ownsRow_nil _ _ _ _, (fun k h => by cases h), rfl, (fun i v p h => by simp at h)⟩, hbw, rfl, ⟨by omega, by omega⟩⟩
  have HSQ := hid (parts_seq (w.heap.size + 1 + 1 + 1) (w.heap.size + 1 + 1 + 1 + 1) (.slice sa s.length sc) (.slice ta t.length tc) s t w W0 hsg hs1 hIT ht60 hbw hs ht kb kt)
  have HQ := hid hq
  have HS := hid hs
  have HL := hid hlT
  clear hbw k3 k5 k7 f7 kb kt hs ht hq hlT
  refine wpIn_wide.1 (wpIn_rangeG (gf := 62) (lb := #[.pointer (some ⟨w.heap.size + 1 + 1 + 1, 0, none⟩), .pointer (some ⟨w.heap.size + 1 + 1 + 1 + 1, 0, none⟩)]) rfl (enters_of Tryz.func62 rfl rfl) (encs := prX) (E := prE (prs s [[]] t)) (S := fun xs => xs.length = (prs s [[]] t).length)
    (N := fun k => k < w.heap.size ∨ k = w.heap.size + 1 + 1 + 1 ∨ k = w.heap.size + 1 + 1 + 1 + 1) (w0 := W0) HSQ.out (Below.refl _ _) (fun _ => rfl) ?_ ?_ ?_
    (fun pre => WhI (prs s [[]] t) s q (.slice sa s.length sc) (.slice qa q.length qc) w W0.heap.size w.heap.size (w.heap.size + 1) (w.heap.size + 1 + 1) pre) (fun _ _ _ _ => False)
    (fun k => k = w.heap.size + 1 + 1) ?_ (fun pre => WhI.grw (by omega) (by omega) (by omega) (by omega) pre) (fun c pre => ⟨fun _ _ _ h _ => h, fun _ _ _ _ _ _ h _ => h⟩) HST.out ?_ ?_ ?_)
  case refine_1 =>
    rintro pre x M W k o o' ⟨h1, h2, h3⟩ hk ho hc
    exact ⟨h1, h2.turn (Kb.put _ hk) (fun k h => Or.inl h), h3.turn (Kb.put _ hk) (fun k h => Or.inl h)⟩
  case refine_2 =>
    rintro pre x M A B ⟨h1, h2, h3⟩ hb
    exact ⟨h1, h2.grow hb, h3.grow hb⟩
  case refine_3 => rintro k (h | rfl | rfl) <;> omega
  case refine_4 => rintro k rfl; exact ⟨by rintro (h | h | h) <;> omega, by omega⟩
  case refine_5 =>
    clear HST HSQ
    rintro l' pre ⟨⟨pv, p⟩, ⟨uv, u⟩⟩ M W hsW hM hturn
    simp only [prX]
    gi_wp2
    refine ⟨Below.refl _ _, fun W2 hT2 => ?_⟩
    obtain ⟨hI2, ⟨e1, e2, e3⟩, hs2⟩ := hturn W W2 (Below.refl _ _) hT2
    dsimp only at e1 e2 e3
    have HM2 := hid hM
    have HE1 := hid e1
    have HE2 := hid e2
    clear hturn hT2 hM
    have hI2' := hI2
    obtain ⟨-, c3, c5, -, hbel, -, -⟩ := hI2'
    have HI2 := hid hI2
    have HIN := hid (unify_Instance _ _ uv s q u W2 (HS.out.below hbel) (HQ.out.below hbel) e3.here hs1)
    obtain ⟨pa, pc, rfl, -⟩ := e2.here.open
    clear hI2 hbel e1 e2 e3
    cases hin : instB s q u
    · simp only [hin] at HIN
      gi_wp2_with fail
      refine ⟨trivial, (callsIn_wide.2 HIN.out).mono ?_⟩
      rintro e W3 ⟨rfl, hb3⟩
      have HB3 := hid hb3
      clear hb3
      gi_wp2
      refine ⟨M, fun k hk => ⟨Or.inl hk, by have := (HM2.out k hk).2.2.1; have := HB3.out.size; omega⟩, Kb.of_below HB3.out, ?_⟩
      exact ((WhI.grw (by omega) (by omega) (by omega) (by omega) _).below HI2.out HB3.out).skip HE1.out hin
    · simp only [hin] at HIN
      gi_wp2_with fail
      refine ⟨trivial, (callsIn_wide.2 HIN.out).mono ?_⟩
      rintro e W3 ⟨rfl, hb3⟩
      obtain ⟨-, -, -, ⟨uo, vvs, b1, b2, b3, b4, b5, b6⟩, -, -, -⟩ := HI2.out
      have hpl : pre.length ≤ 60 := by
        have := HE1.out
        rw [List.getElem?_eq_some_iff] at this
        obtain ⟨h, -⟩ := this
        rw [HL.out] at h; omega
      have hvl : vvs.length ≤ 60 := by rw [b5]; have := flP_len s q pre; omega
      have hbx : Below W2.heap.size W2 (W3.alloc (.cells #[.slice pa p.length pc] 28)) := hb3.alloc hb3.size _
      have HBX := hid hbx
      have c7 := (hb3.cell (World.block_lt_of_cell? _ _ b1)).trans b1
      have HRA := hid (owns_below b3 hbx)
      have hsrc : RowK (W3.alloc (.cells #[.slice pa p.length pc] 28)) (.slice (some ⟨W3.heap.size, 0, none⟩) 1 1) 1 1 [.slice pa p.length pc] := row_one_new _ _ _
      have HSRC := hid hsrc
      have HRN : Hid (∀ k, uo.ownBlock = some k → W0.heap.size ≤ k) := hid (fun k hk => (b3.lt k hk).1)
      have C96 := hid ((hbx.cell (World.block_lt_of_cell? _ _ b1)).trans b1)
      have F96 := hid ((hbx.frozen (p := ⟨w.heap.size + 1 + 1, 0, none⟩) (World.block_lt_of_cell? _ _ b1)).trans b2)
      have HXS := hid hbx.size
      have hs3 := hb3.size
      have HB1 := hid b1
      have HB2 := hid b2
      have HB4 := hid b4
      have HB5 := hid b5
      have HB6 := hid b6
      clear hbx hsrc b1 b2 b3 b4 b5 b6 hb3
      gi_wp2_with (gi_at_builtin; refine wpListIn_append_lie rfl _ _ 51 rfl W0.heap.size 28 el_ints Tryz.underlying51 rfl (by decide) _ _ _ rfl HRA.out _ 1 [.slice pa p.length pc] rfl HSRC.out (by simp; exact rfl) (by decide) (by omega) (by omega) (by have := HXS.out; omega) _ rfl ?_; intro g1 c1 w7 hown7 hgrow7 hat7 hlt7; have e97 := hgrow7.block (w.heap.size + 1 + 1) (World.block_lt_of_cell? _ _ C96.out) (fun e => by have := HRN.out _ e.symm; omega); have c97 := cell_same' C96.out e97; have f97 := (World.frozen?_of_block e97).trans F96.out)
      obtain ⟨M', h1, h2, h3⟩ := WhI.push (x := ((.slice pa p.length pc, p), (uv, u))) HI2.out (by omega) (by omega) (by omega) (by omega) (by omega) (by omega) ⟨by omega, by omega⟩ HE1.out HE2.out hin (fun k hk => ⟨by have := (HM2.out k hk).2.2.1; omega, by have := (HM2.out k hk).2.2.2; omega⟩)
        HB1.out HB2.out (fun k hk => ⟨HB4.out k hk, HRN.out k hk⟩) HB5.out HB6.out HBX.out rfl hown7 hgrow7 hat7 hlt7
      exact ⟨M', fun k hk => ⟨(h1 k hk).1.imp id (fun h => by omega), (h1 k hk).2⟩, h2.mono (fun k _ hk => hk.imp id (fun h => by omega)), h3⟩
  case refine_6 =>
    rintro xs M W hxs hI hD hMD
    obtain ⟨a1, -, -, ⟨uo, vvs, b1, b2, b3, b4, b5, b6⟩, hbel, -, -⟩ := hI
    have hfl : flP s q xs = whrL s t q := flP_whr (by rw [a1, hxs, List.take_of_length_le (Nat.le_refl _)])
    rw [hfl] at b5 b6
    have hpl : vvs.length ≤ 60 := by
      rw [b5, ← hfl]
      have := flP_len s q xs
      rw [hxs, HL.out] at this; omega
    obtain ⟨ao, co, rfl⟩ := ownsRow_slice' b3
    have HR : Hid (Terms (W.putObj W0.heap.size (.deferred none)) (.slice ao vvs.length co) (whrL s t q)) :=
      hid ⟨vvs, putObj_rowK hD rfl (RowK.of_owns b3 (by omega)), b5, fun i v p hv hp => putObj_ints hD rfl (b6 i v p hv hp).here⟩
    have HB := hid (putObj_below (.deferred none) hbel (by omega : w.heap.size ≤ W0.heap.size))
    have HDD := hid hD
    clear a1 b2 b3 b4 b5 b6 hbel hfl hD
    go_wp2
    refine leave_mark (v := .slice ao vvs.length co) HDD.out (by simp [results, Tryz.results23, go_sem]) ?_
    exact ⟨_, rfl, HR.out, HB.out⟩
  case refine_7 =>
    intro c pre M W h
    exact h.elim
end Go.Proofs.YtldgkidojepdlaaGreat
