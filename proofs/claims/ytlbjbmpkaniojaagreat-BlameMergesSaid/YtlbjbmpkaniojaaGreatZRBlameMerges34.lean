/-
  WHAT IT HOLDS: how a row of entries of the call's own turns where an entry is set or taken out; the contract of slices.Delete at entries, one taken out. Conditions: the row is the call's own.
  WHAT IT HOLDS: contracts of add, set and drop of package blame: a change made in an edition of the call's own. Conditions: the arguments read as data; small libraries.
  WHAT IT HOLDS: how a list of changes of the call's own lies while it grows; boxes whose cells are told by a list. No program's walk in sight.
-/
import Derived.Deep.RegionLaw
import Derived.Lib.SliceRun
import Derived.Test.YtlbjbmpkaniojaaGreatZRBlameMerges32
import Derived.Test.YtlbjbmpkaniojaaGreatZRBlameMerges33
import Derived.Test.YtlbjbmpkaniojaaGreatZRBlameMerges18
import Derived.Test.YtlbjbmpkaniojaaGreatZRBlameMerges24
import Derived.Test.YtlbjbmpkaniojaaGreatZRBlameMerges14
namespace Go.Proofs.YtlbjbmpkaniojaaGreat
open Go Go.RowKit Go.Maps
/-- a list in which some values are laid over others. -/
def ovL : List Value → Nat → List Value → List Value
  | xs, _, [] => xs
  | xs, o, u :: us => ovL (xs.set o u) (o + 1) us
theorem ovL_before : ∀ (news xs : List Value) (o p : Nat), p ≤ o → (ovL xs o news).take p = xs.take p
  | [], _, _, _, _ => rfl
  | u :: us, xs, o, p, h => by
    unfold ovL
    rw [ovL_before us _ (o + 1) p (by omega)]
    rw [List.take_set, List.set_eq_of_length_le (by rw [List.length_take]; omega)]
theorem ovL_len : ∀ (news xs : List Value) (o : Nat), (ovL xs o news).length = xs.length
  | [], _, _ => rfl
  | u :: us, xs, o => by
    unfold ovL
    rw [ovL_len us, List.length_set]
theorem ovL_take : ∀ (news xs : List Value) (o : Nat), o + news.length ≤ xs.length → (ovL xs o news).take (o + news.length) = xs.take o ++ news
  | [], xs, o, _ => by simp [ovL]
  | u :: us, xs, o, h => by
    rw [List.length_cons] at h
    unfold ovL
    have := ovL_take us (xs.set o u) (o + 1) (by rw [List.length_set]; omega)
    rw [List.length_cons, show o + (us.length + 1) = o + 1 + us.length by omega, this]
    rw [List.take_succ_eq_append_getElem (by rw [List.length_set]; omega), List.getElem_set_self, List.take_set, List.set_eq_of_length_le (by rw [List.length_take]; omega)]
    simp
theorem owns_over {base g n c k : Nat} {e : TypeId} : ∀ (news : List Value) (o : Nat) (w : World) (xs : List Value), w.ownsRow base e k (.slice (some ⟨g, 0, none⟩) n c) n xs → (w.setCells g o news).ownsRow base e k (.slice (some ⟨g, 0, none⟩) n c) n (ovL xs o news) ∧ Kb (fun q => q = g) w (w.setCells g o news)
  | [], o, w, xs, h => ⟨h, Kb.refl _ _⟩
  | u :: us, o, w, xs, h => by
    obtain ⟨h1, h2⟩ := owns_over us (o + 1) (w.setCell ⟨g, o, none⟩ u) (xs.set o u) (h.stored o u).1
    refine ⟨h1, ⟨h2.os, h2.tape, h2.output, ?_, fun q hq hne => ?_⟩⟩
    · have := h2.size; rwa [World.size_setCell] at this
    · exact (h2.same q (by simpa using hq) hne).trans (Below.heap_setCell _ _ _ _ hne)
theorem owns_shrink {w : World} {base g n m c k : Nat} {e : TypeId} {xs : List Value} (h : w.ownsRow base e k (.slice (some ⟨g, 0, none⟩) n c) n xs) (hm : m ≤ n) : w.ownsRow base e k (.slice (some ⟨g, 0, none⟩) m c) m (xs.take (m * k)) := by
  obtain ⟨h1, h2⟩ := h
  refine ⟨by rw [List.length_take, h1]; exact Nat.min_eq_left (Nat.mul_le_mul_right _ hm), ?_⟩
  rcases h2 with ⟨h2, -⟩ | ⟨g', cap, cur, r1, r2, r3, r4, r5, r6, r7⟩
  · cases h2
  · cases r1
    refine .inr ⟨g, c, cur, rfl, r2, r3, by omega, r5, r6, ?_⟩
    rw [← r7, List.take_take, Nat.min_eq_left (Nat.mul_le_mul_right _ hm)]
theorem ensC_take_erase (l : List En) (vs : List V3) (hv : vs.length = l.length) (i : Nat) (hi : i < l.length) : ensC (l.eraseIdx i) (vs.eraseIdx i) = (ensC l vs).take (i * 5) ++ (ensC l vs).drop ((i + 1) * 5) := by
  have hlt : (l.take i).length = i := by rw [List.length_take]; omega
  have hvt : (vs.take i).length = i := by rw [List.length_take]; omega
  have hlt1 : (l.take (i + 1)).length = i + 1 := by rw [List.length_take]; omega
  have hvt1 : (vs.take (i + 1)).length = i + 1 := by rw [List.length_take]; omega
  rw [List.eraseIdx_eq_take_drop_succ, List.eraseIdx_eq_take_drop_succ, ensC_append _ _ _ _ (by rw [hlt, hvt])]
  congr 1
  · have e : ensC l vs = ensC (l.take i) (vs.take i) ++ ensC (l.drop i) (vs.drop i) := by
      rw [← ensC_append _ _ _ _ (by rw [hlt, hvt]), List.take_append_drop, List.take_append_drop]
    have hk : (ensC (l.take i) (vs.take i)).length = i * 5 := by rw [ensC_len _ _ (by rw [hlt, hvt]), hlt]
    rw [e, List.take_left' hk]
  · have e : ensC l vs = ensC (l.take (i + 1)) (vs.take (i + 1)) ++ ensC (l.drop (i + 1)) (vs.drop (i + 1)) := by
      rw [← ensC_append _ _ _ _ (by rw [hlt1, hvt1]), List.take_append_drop, List.take_append_drop]
    have hk : (ensC (l.take (i + 1)) (vs.take (i + 1))).length = (i + 1) * 5 := by rw [ensC_len _ _ (by rw [hlt1, hvt1]), hlt1]
    rw [e, List.drop_left' hk]
/-- a row with an entry set: what the new one holds does not lie in the row. -/
theorem EnS.set {w : World} {base g n c : Nat} {vs : List V3} {l : List En} (h : EnS w base (.slice (some ⟨g, 0, none⟩) n c) vs l) (hn : n = l.length) {j : Nat} (hj : j < l.length) {x : En} {v : V3}
    (hx : ∀ W' : World, (∀ q, q < w.heap.size → q ≠ g → W'.heap[q]? = w.heap[q]?) → EntAt W' v.1 v.2.1 v.2.2 x) :
    EnS (w.setCells g (j * 5) (enC x v)) base (.slice (some ⟨g, 0, none⟩) n c) (vs.set j v) (l.set j x) ∧ Kb (fun q => q = g) w (w.setCells g (j * 5) (enC x v)) := by
  subst hn
  obtain ⟨h1, h2⟩ := owns_over (enC x v) (j * 5) w _ h.top
  refine ⟨⟨?_, by simp [h.len], fun W' hW k hk hk' => ?_⟩, h2⟩
  · rw [ensC_set l vs h.len j hj, List.length_set]
    exact h1
  · have key : ∀ q, q < w.heap.size → q ≠ g → W'.heap[q]? = w.heap[q]? := fun q hq hne => (hW q (Nat.lt_of_lt_of_le hq h2.size) (fun e => hne (by cases e; rfl))).trans (h2.same q hq hne)
    have hk0 : k < l.length := by simpa using hk
    have hk1 : k < vs.length := by rw [h.len]; exact hk0
    by_cases e : j = k
    · subst e
      rw [List.getElem_set_self, List.getElem_set_self]
      exact hx W' key
    · rw [List.getElem_set_ne (by omega), List.getElem_set_ne (by omega)]
      exact h.rd W' (fun q hq hne => key q hq fun e => hne (by rw [e]; rfl)) k hk0 hk1
/-- a row with an entry taken out. -/
theorem EnS.erase {w w' : World} {base g n c : Nat} {vs : List V3} {l : List En} (h : EnS w base (.slice (some ⟨g, 0, none⟩) n c) vs l) (hn : n = l.length) {i : Nat} (hi : i < l.length)
    (htop : w'.ownsRow base 41 5 (.slice (some ⟨g, 0, none⟩) (n - 1) c) (n - 1) ((ensC l vs).take (i * 5) ++ (ensC l vs).drop ((i + 1) * 5))) (hk : Kb (fun q => q = g) w w') :
    EnS w' base (.slice (some ⟨g, 0, none⟩) (n - 1) c) (vs.eraseIdx i) (l.eraseIdx i) := by
  subst hn
  have hlen : (l.eraseIdx i).length = l.length - 1 := List.length_eraseIdx_of_lt hi
  refine ⟨by rw [ensC_take_erase l vs h.len i hi, hlen]; exact htop, by rw [hlen, List.length_eraseIdx_of_lt (by rw [h.len]; exact hi), h.len], fun W' hW k hk1 hk2 => ?_⟩
  have key : ∀ q, q < w.heap.size → some q ≠ (Value.slice (some ⟨g, 0, none⟩) l.length c).ownBlock → W'.heap[q]? = w.heap[q]? := fun q hq hne => (hW q (Nat.lt_of_lt_of_le hq hk.size) hne).trans (hk.same q hq (fun e => hne (by rw [e]; rfl)))
  rw [hlen] at hk1
  rw [List.getElem_eraseIdx, List.getElem_eraseIdx]
  split
  · exact h.rd W' key k (by omega) (by rw [h.len]; omega)
  · exact h.rd W' key (k + 1) (by omega) (by rw [h.len]; omega)
def zerE : List Value := [.string ⟨#[]⟩, .string ⟨#[]⟩, .slice none 0 0, .slice none 0 0, .slice none 0 0]
theorem run_clear_ent (w : World) (ty : TypeId) (b o c : Nat) (hc : ∀ j, j < 5 → (w.cell? ⟨b, o + j, none⟩).isSome = true) (hf : ∀ j, j < 5 → w.frozen? ⟨b, o + j, none⟩ = false) :
    (Builtin.clear_ #[24] ty #[.slice (some ⟨b, o, none⟩) 1 c]).run Tryz.prog w = .ok (.tuple #[]) (w.setCells b o zerE) := by
  have hv : ∀ w, (zeroValue 41).run Tryz.prog w = .ok (.agg #[.string ⟨#[]⟩, .string ⟨#[]⟩, .slice none 0 0, .slice none 0 0, .slice none 0 0]) w := fun w => by kernel_rfl
  have hzc : (Builtin.zeroCells (Value.agg #[.string ⟨#[]⟩, .string ⟨#[]⟩, .slice none 0 0, .slice none 0 0, .slice none 0 0]).cells 1).toList = zerE := by kernel_rfl
  have hst := run_storeCells_cells (P := Tryz.prog) b o zerE 0 w (by simpa [zerE] using hc) (by simpa [zerE] using hf) (by intro v hv'; simp [zerE] at hv'; rcases hv' with rfl | rfl <;> rfl)
  simp only [Nat.add_zero] at hst
  simp [Builtin.clear_, run_underlying Tryz.underlying24, hv, hzc, hst]
theorem el_ent_info : Tryz.prog.info? 41 = some ((Tryz.prog.info? 41).getD default) ∧ ((Tryz.prog.info? 41).getD default).size = 5 := ⟨by kernel_rfl, by kernel_rfl⟩
set_option maxHeartbeats 4000000 in
set_option maxRecDepth 100000 in
theorem sl_Delete_ents (base g m c i : Nat) (vs : List V3) (l : List En) (w : World) (hl : l.length = m + 1) (hi : i < m + 1) (hn : m + 1 ≤ 1000) (h : EnS w base (.slice (some ⟨g, 0, none⟩) (m + 1) c) vs l) :
    Calls Tryz.prog 85 #[.slice (some ⟨g, 0, none⟩) (m + 1) c, .int .i64 i, .int .i64 ((i : Int) + 1)] w fun e w' => e = .returned (.slice (some ⟨g, 0, none⟩) m c) ∧ EnS w' base (.slice (some ⟨g, 0, none⟩) m c) (vs.eraseIdx i) (l.eraseIdx i) ∧ Kb (fun k => k = g) w w' := by
  have htop := h.top
  rw [hl] at htop
  have hcap : m + 1 ≤ c ∧ c ≤ 9223372036854775807 := by
    rcases htop.2 with ⟨h2, -⟩ | ⟨g', cap, cur, r1, r2, r3, r4, r5, r6, r7⟩
    · cases h2
    · cases r1; exact ⟨r4, by unfold maxLen at r5; omega⟩
  obtain ⟨xs, hxs⟩ : ∃ xs, ensC l vs = xs := ⟨_, rfl⟩
  have hxl : xs.length = (m + 1) * 5 := by rw [← hxs, ensC_len l vs h.len, hl]
  have hone : ∀ u ∈ xs, u.oneCell' = true := by
    rw [← hxs, ensC_zip l vs h.len h.nrm]
    intro u hu
    obtain ⟨p, -, hp⟩ := List.mem_flatMap.1 hu
    obtain ⟨a1, n1, k1, a2, n2, k2, a3, n3, k3, e⟩ := nrm_open p.2
    unfold encE at hp
    rw [e] at hp
    simp [enC] at hp
    rcases hp with rfl | rfl | rfl | rfl | rfl <;> rfl
  rw [hxs] at htop
  obtain ⟨news, hnews⟩ : ∃ news, xs.drop ((i + 1) * 5) = news := ⟨_, rfl⟩
  have hlen : news.length = (m + 1 - (i + 1)) * 5 := by rw [← hnews, List.length_drop, hxl]; omega
  obtain ⟨Ad, hA, hsrc⟩ : ∃ Ad : Addr, (if c = i + 1 then (some ⟨g, 0, none⟩ : Option Addr) else some ⟨g, (i + 1) * 5, none⟩) = some Ad ∧ Hid (∀ t u, news[t]? = some u → w.drew.cell? (Ad.add t) = some u) := by
    by_cases h0 : c = i + 1
    · refine ⟨⟨g, 0, none⟩, by simp [h0], fun t u hu => ?_⟩
      have h1 : news.length = 0 := by rw [hlen, show m + 1 - (i + 1) = 0 by omega]
      rw [List.length_eq_zero_iff.1 h1] at hu
      simp at hu
    · refine ⟨⟨g, (i + 1) * 5, none⟩, by simp [h0], fun t u hu => ?_⟩
      have ht := (List.getElem?_eq_some_iff.1 hu).1
      rw [hlen] at ht
      rw [← hnews, List.getElem?_drop] at hu
      rw [Addr.add_lit]
      exact (htop.cellAt ((i + 1) * 5 + t) (by omega)).trans hu
  have s1 : Hid (news.length = (m + 1 - (i + 1)) * 5) := hlen
  have s2 : Hid (∀ u ∈ news, u.oneCell' = true) := fun u hu => hone u (List.mem_of_mem_drop (hnews ▸ hu))
  have s3 : Hid (∀ t, t < news.length → (w.drew.cell? ⟨g, 0 + i * 5 + t, none⟩).isSome = true ∧ w.drew.frozen? ⟨g, 0 + i * 5 + t, none⟩ = false) := by
    intro t ht
    rw [hlen] at ht
    refine ⟨?_, htop.frozenAt _⟩
    show (w.cell? ⟨g, 0 + i * 5 + t, none⟩).isSome = true
    rw [htop.cellAt (0 + i * 5 + t) (by omega), List.getElem?_eq_getElem (by omega)]; rfl
  obtain ⟨W1, hW1⟩ : ∃ W1, W1 = w.drew.setCells g (0 + i * 5) news := ⟨_, rfl⟩
  obtain ⟨o1, k1⟩ := owns_over news (0 + i * 5) w.drew xs htop.drew
  rw [← hW1] at o1 k1
  have hol : (ovL xs (0 + i * 5) news).length = (m + 1) * 5 := by rw [ovL_len, hxl]
  have hcl : ∀ ty, (Builtin.clear_ #[24] ty #[.slice (some ⟨g, m * 5, none⟩) 1 (c - m)]).run Tryz.prog W1 = .ok (.tuple #[]) (W1.setCells g (m * 5) zerE) := fun ty => run_clear_ent W1 ty g (m * 5) _ (fun j hj => by rw [o1.cellAt (m * 5 + j) (by omega), List.getElem?_eq_getElem (by omega)]; rfl) (fun j _ => o1.frozenAt _)
  obtain ⟨o2, k2⟩ := owns_over zerE (m * 5) W1 _ o1
  have o3 := owns_shrink o2 (m := m) (by omega)
  have e3 : (ovL (ovL xs (0 + i * 5) news) (m * 5) zerE).take (m * 5) = (ensC l vs).take (i * 5) ++ (ensC l vs).drop ((i + 1) * 5) := by
    rw [ovL_before _ _ _ _ (by omega)]
    have hnn : m * 5 = 0 + i * 5 + news.length := by rw [hlen]; omega
    rw [hnn, ovL_take news xs _ (by rw [hlen, hxl]; omega), Nat.zero_add, ← hnews, ← hxs]
  rw [e3] at o3
  have k3 : Kb (fun q => q = g) w (W1.setCells g (m * 5) zerE) := ⟨k2.os.trans k1.os, k2.tape.trans k1.tape, k2.output.trans k1.output, Nat.le_trans k1.size k2.size, fun q hq hne => (k2.same q (Nat.lt_of_lt_of_le hq k1.size) hne).trans (k1.same q hq hne)⟩
  have h9 := h.erase hl.symm (by omega) o3 k3
  have HF : Hid (EnS (W1.setCells g (m * 5) zerE) base (.slice (some ⟨g, 0, none⟩) m c) (vs.eraseIdx i) (l.eraseIdx i) ∧ Kb (fun k => k = g) w (W1.setCells g (m * 5) zerE)) := hid ⟨h9, k3⟩
  have hW : Hid (W1 = w.drew.setCells g (0 + i * 5) news) := hW1
  have hc1 := hcap.1
  have hc2 := hcap.2
  have e1 : ((i : Int) == (i : Int) + 1) = false := by rw [beq_eq_false_iff_ne]; omega
  have b0 : (0 : Int) ≤ (i : Int) + 1 := by omega
  have b1 : (0 : Int) ≤ (i : Int) := by omega
  have b2 : (i : Int) ≤ (m : Int) + 1 := by omega
  have b3 : (i : Int) + 1 ≤ (m : Int) + 1 := by omega
  have b4 : (i : Int) ≤ (c : Int) := by omega
  have b5 : (i : Int) + 1 ≤ (c : Int) := by omega
  have b6 : (m : Int) + 1 ≤ (c : Int) := by omega
  have b7 : (i : Int) ≤ (i : Int) + 1 := by omega
  have t1 : ((i : Int) + 1).toNat = i + 1 := by omega
  have hX : i + (m + 1 - (i + 1)) = m := by omega
  have hne : ¬ c = m := by omega
  have hY : m + 1 - m = 1 := by omega
  have b8 : (0 : Int) ≤ (m : Int) := by omega
  have b9 : (m : Int) ≤ (m : Int) + 1 := by omega
  have b10 : (m : Int) ≤ (c : Int) := by omega
  have b11 : (0 : Int) ≤ (m : Int) + 1 := by omega
  have hX2 : i + (m - i) = m := by omega
  clear hW1 h9 k3 o3 o2 k2 o1 k1 hol hnews e3 hlen hone hxl htop hcap h hl hxs
  go_enter Tryz.func85, Tryz.ntmps85
  go_wp2_with fail
  go_region_law (refine step_append_room rfl (.tmp 22) (.tmp 25) 24 rfl 41 _ 5 Tryz.underlying24 el_ent_info.1 el_ent_info.2 g 0 i c (by simp [Act.eval, Act.put]) Ad (m + 1 - (i + 1)) (c - (i + 1)) news (by simp [Act.eval, Act.put]) s1.out hsrc.out s2.out (by omega) s3.out ?_; rw [← hW.out])
  simp only [hX, hX2, Act.put, List.setIfInBounds_toArray, List.set_cons_zero, List.set_cons_succ]
  go_wp2
  go_ret
  exact ⟨rfl, HF.out⟩
end Go.Proofs.YtlbjbmpkaniojaaGreat
namespace Go.Proofs.YtlbjbmpkaniojaaGreat
open Go Go.RowKit Go.Maps
/-- what add, set and drop make, not yet sorted. -/
def useE (n m : Nm) (x : En) : En := match x.uses.findIdx? (fun u => decide (u = n)) with | some k => { x with uses := x.uses.set k m } | none => x
def addL (l : List En) (c : Chg) : List En × Int := if (idxN l c.ent.name).isSome then ([], 6) else if l.length = 60 then ([], 4) else (l ++ [c.ent], 0)
def setL (l : List En) (c : Chg) : List En × Int := match idxN l c.ent.name with | none => ([], 5) | some i => if l.getD i en0 = c.ent then ([], 8) else (l.set i c.ent, 0)
def dropL (l : List En) (c : Chg) : List En × Int := match idxN l c.name with | none => ([], 5) | some i => if usedB l c.name c.name then ([], 10) else (l.eraseIdx i, 0)
theorem idxI_some {l : List En} {n : Nm} {i : Nat} (h : idxN l n = some i) : idxI l n = (i : Int) := by unfold idxI; rw [h]
theorem idxI_no {l : List En} {n : Nm} (h : idxN l n = none) : idxI l n = -1 := by unfold idxI; rw [h]
/-- what entries hold lies in blocks from 'base' on. -/
def FrB (base : Nat) (vs : List V3) : Prop := ∀ v ∈ vs, ∀ q, (v.1.ownBlock = some q ∨ v.2.1.ownBlock = some q ∨ v.2.2.ownBlock = some q) → base ≤ q
theorem EntO.fr {w : World} {b base : Nat} {vS vU vP : Value} {x : En} (h : EntO w b vS vU vP x) (hb : base ≤ b) : ∀ q, (vS.ownBlock = some q ∨ vU.ownBlock = some q ∨ vP.ownBlock = some q) → base ≤ q := by
  intro q hq
  rcases hq with hq | hq | hq
  · exact Nat.le_trans hb (h.s.lt q hq).1
  · exact Nat.le_trans hb (h.u.lt q hq).1
  · exact Nat.le_trans hb (h.p.lt q hq).1
theorem EnW.fr {w : World} {base : Nat} {u : Value} {vs : List V3} {l : List En} (h : EnW w base u vs l) : FrB base vs := by
  intro v hv
  obtain ⟨j, hj, rfl⟩ := List.getElem_of_mem hv
  exact (h.own j (by rw [← h.len]; exact hj) hj).fr (Nat.le_refl _)
theorem FrB.push {base : Nat} {vs : List V3} (h : FrB base vs) {v : V3} (hv : ∀ q, (v.1.ownBlock = some q ∨ v.2.1.ownBlock = some q ∨ v.2.2.ownBlock = some q) → base ≤ q) : FrB base (vs ++ [v]) := by
  intro u hu
  rcases List.mem_append.1 hu with hu | hu
  · exact h u hu
  · simp at hu; subst hu; exact hv
theorem FrB.set {base : Nat} {vs : List V3} (h : FrB base vs) (j : Nat) {v : V3} (hv : ∀ q, (v.1.ownBlock = some q ∨ v.2.1.ownBlock = some q ∨ v.2.2.ownBlock = some q) → base ≤ q) : FrB base (vs.set j v) := by
  intro u hu
  rcases List.mem_or_eq_of_mem_set hu with hu | rfl
  · exact h u hu
  · exact hv
theorem FrB.sub {base : Nat} {vs us : List V3} (h : FrB base vs) (hs : ∀ v ∈ us, v ∈ vs) : FrB base us := fun v hv => h v (hs v hv)
theorem FrB.erase {base : Nat} {vs : List V3} (h : FrB base vs) (i : Nat) : FrB base (vs.eraseIdx i) := h.sub fun _ hv => List.mem_of_mem_eraseIdx hv
/-- what the four answer. -/
def MadeQ (base : Nat) (R : List En × Int) (w : World) (e : Ending) (w' : World) : Prop := ∃ u vs, e = .returned (.tuple #[u, .int .i64 R.2]) ∧ EnS w' base u vs R.1 ∧ Below base w w' ∧ FrB base vs
theorem MadeQ.mk {base : Nat} {R : List En × Int} {w w' : World} {e : Ending} (l : List En) (er : Int) (u : Value) (vs : List V3) (hR : R = (l, er)) (h1 : e = .returned (.tuple #[u, .int .i64 er])) (h2 : EnS w' base u vs l) (h3 : Below base w w') (h4 : FrB base vs) : MadeQ base R w e w' := by
  subst hR; exact ⟨u, vs, h1, h2, h3, h4⟩
theorem MadeQ.no {base : Nat} {R : List En × Int} {w w' : World} {er : Int} (hR : R = ([], er)) (h3 : Below base w w') : MadeQ base R w (.returned (.tuple #[.slice none 0 0, .int .i64 er])) w' :=
  MadeQ.mk [] er _ [] hR rfl (EnS.nil _ _) h3 (fun v hv => by cases hv)
/-- the cells of a row's entry. -/
theorem EnS.cells {w : World} {base g n c : Nat} {vs : List V3} {l : List En} (h : EnS w base (.slice (some ⟨g, 0, none⟩) n c) vs l) (hn : n = l.length) {j : Nat} (hj : j < l.length) :
    ∃ a1 k1 a2 k2 a3 k3, w.cell? ⟨g, j * 5, none⟩ = some (.string l[j].name) ∧ w.cell? ⟨g, j * 5 + 1, none⟩ = some (.string l[j].who) ∧ w.cell? ⟨g, j * 5 + 2, none⟩ = some (.slice a1 l[j].says.length k1) ∧ w.cell? ⟨g, j * 5 + 3, none⟩ = some (.slice a2 l[j].uses.length k2) ∧ w.cell? ⟨g, j * 5 + 4, none⟩ = some (.slice a3 l[j].proof.length k3) ∧ EntAt w (.slice a1 l[j].says.length k1) (.slice a2 l[j].uses.length k2) (.slice a3 l[j].proof.length k3) l[j] := by
  subst hn
  have hv : j < vs.length := by rw [h.len]; exact hj
  obtain ⟨g0, g1, g2, g3, g4⟩ := ensC_get l vs h.len j hj hv
  have he := h.rd w (fun _ _ _ => rfl) j hj hv
  have key : ∀ r, r < 5 → w.cell? ⟨g, j * 5 + r, none⟩ = (ensC l vs)[j * 5 + r]? := fun r hr => h.top.cellAt (j * 5 + r) (by omega)
  obtain ⟨a1, k1, e1, -⟩ := he.s.open
  obtain ⟨a2, k2, e2, -⟩ := he.u.open
  obtain ⟨a3, k3, e3, -⟩ := he.p.open
  refine ⟨a1, k1, a2, k2, a3, k3, (key 0 (by omega)).trans g0, (key 1 (by omega)).trans g1, (key 2 (by omega)).trans (g2.trans (by rw [e1])), (key 3 (by omega)).trans (g3.trans (by rw [e2])), (key 4 (by omega)).trans (g4.trans (by rw [e3])), ?_⟩
  rw [e1, e2, e3] at he
  exact he
/-- a row that is not empty lies in a block. -/
theorem EnS.blk {w : World} {base : Nat} {u : Value} {vs : List V3} {l : List En} (h : EnS w base u vs l) (hl : 0 < l.length) : ∃ g c, u = .slice (some ⟨g, 0, none⟩) l.length c ∧ base ≤ g ∧ g < w.heap.size ∧ l.length ≤ c := by
  have ht := h.top
  rcases ht.2 with ⟨-, h0⟩ | ⟨g, cap, cur, rfl, hg, h3, h4, -⟩
  · omega
  · exact ⟨g, cap, rfl, hg, (ht.lt g rfl).2, h4⟩
set_option maxHeartbeats 4000000 in
set_option maxRecDepth 100000 in
theorem blame_add (base : Nat) (u : Value) (vs : List V3) (l : List En) (c : Chg) (vS vU vP : Value) (w : World) (hE : EnW w base u vs l) (hc : ChgAt w vS vU vP c) (hb : base ≤ w.heap.size) (hl : l.length ≤ 60) (hsm : EnSm c.ent) :
    Calls Tryz.prog 110 #[u, chV c vS vU vP] w fun e w' => MadeQ base (addL l c) w e w' := by
  obtain ⟨sa, sc, rfl, -⟩ := hc.e.s.open
  obtain ⟨ua, uc, rfl, -⟩ := hc.e.u.open
  obtain ⟨pa, pc, rfl, -⟩ := hc.e.p.open
  obtain ⟨ra, rc, rfl⟩ := hE.slice
  unfold chV
  have hCB := CB.new w c (.slice sa c.ent.says.length sc) (.slice ua c.ent.uses.length uc) (.slice pa c.ent.proof.length pc) 43
  obtain ⟨V, hV⟩ : ∃ V, w.alloc (.cells #[.int .i64 c.kind, .string c.who, .string c.name, .string c.new, .string c.ent.name, .string c.ent.who, .slice sa c.ent.says.length sc, .slice ua c.ent.uses.length uc, .slice pa c.ent.proof.length pc] 43) = V := ⟨_, rfl⟩
  have hbV : Below w.heap.size w V := hV ▸ (Below.refl _ _).alloc (Nat.le_refl _) _
  rw [hV] at hCB
  have HF := hid (blame_find _ l c.ent.name V ((hE.below hbV).ents (by omega)))
  have HW := hid hV
  have HBV := hid hbV
  have HCB := hid hCB
  have HE := hid hE
  have HC := hid hc
  obtain ⟨c0, c1, c2, c3, c4, c5, c6, c7, c8⟩ := hCB
  clear hV hE hc hbV
  cases hi : idxN l c.ent.name with
  | some i =>
    have HR : Hid (addL l c = ([], 6)) := hid (by unfold addL; rw [hi]; rfl)
    rw [idxI_some hi] at HF
    have b0 : (0 : Int) ≤ (i : Int) := by omega
    clear hi
    go_enter Tryz.func110, Tryz.ntmps110
    go_wp2_with fail
    rw [HW.out]
    refine HF.out.mono ?_
    rintro e w1 ⟨rfl, hb1⟩
    go_wp2
    go_ret2
    exact MadeQ.no HR.out ((HBV.out.trans (hb1.mono HBV.out.size)).mono hb)
  | none =>
    rw [idxI_no hi] at HF
    by_cases h60 : l.length = 60
    · have HR : Hid (addL l c = ([], 4)) := hid (by unfold addL; rw [hi, if_neg (by simp), if_pos h60])
      have q : ((l.length : Int) == 60) = true := by simp [h60]
      clear hi h60
      go_enter Tryz.func110, Tryz.ntmps110
      go_wp2_with fail
      rw [HW.out]
      refine HF.out.mono ?_
      rintro e w1 ⟨rfl, hb1⟩
      go_wp2
      go_ret2
      exact MadeQ.no HR.out ((HBV.out.trans (hb1.mono HBV.out.size)).mono hb)
    · have HR : Hid (addL l c = (l ++ [c.ent], 0)) := hid (by unfold addL; rw [hi, if_neg (by simp), if_neg h60])
      have q : ((l.length : Int) == 60) = false := by rw [beq_eq_false_iff_ne]; omega
      clear hi h60
      go_enter Tryz.func110, Tryz.ntmps110
      go_wp2_with fail
      rw [HW.out]
      refine HF.out.mono ?_
      rintro e w1 ⟨rfl, hb1⟩
      have hbw1 := HBV.out.trans (hb1.mono HBV.out.size)
      have HCP := hid (blame_copied (.slice sa c.ent.says.length sc) (.slice ua c.ent.uses.length uc) (.slice pa c.ent.proof.length pc) c.ent w1 (HC.out.e.below hbw1) hsm.1 hsm.2.1 hsm.2.2.1 hsm.2.2.2)
      obtain ⟨d0, d1, d2, d3, d4, d5, d6, d7, d8⟩ := HCB.out.below hb1
      have HB1 := hid hbw1
      clear c0 c1 c2 c3 c4 c5 c6 c7 c8 hb1 hbw1
      go_wp2_with fail
      refine HCP.out.mono ?_
      rintro e w2 ⟨v, rfl, ⟨vS, vU, vP, rfl, hO⟩, hb2⟩
      have hbw2 := HB1.out.trans (hb2.mono HB1.out.size)
      obtain ⟨a1, k1, rfl⟩ := owns_slice hO.s
      obtain ⟨a2, k2, rfl⟩ := owns_slice hO.u
      obtain ⟨a3, k3, rfl⟩ := owns_slice hO.p
      have HE2 := hid (HE.out.below hbw2)
      have HO2 := hid hO
      have HB2 := hid hbw2
      have HSZ2 := hid hbw2.size
      have hwz := hbw2.size
      have hown2 := HE2.out.top
      have hownA := hown2.alloc (.cells #[.string c.ent.name, .string c.ent.who, .slice a1 c.ent.says.length k1, .slice a2 c.ent.uses.length k2, .slice a3 c.ent.proof.length k3] 41)
      have HROW := hid (row_one_ent w2 (.string c.ent.name) (.string c.ent.who) (.slice a1 c.ent.says.length k1) (.slice a2 c.ent.uses.length k2) (.slice a3 c.ent.proof.length k3) 41)
      obtain ⟨x, hx⟩ : ∃ x, c.ent = x := ⟨_, rfl⟩
      rw [hx] at hownA HROW HO2 HR
      simp only [hx]
      have HX := hid hx
      clear hO hb2 hbw2 hown2 d0 d1 d2 d3 d4 d5 d6 d7 d8 HCP HF HCB hx
      go_wp2_with (at_builtin; refine wpList_append_lie rfl _ _ 24 rfl base 41 el_ent Tryz.underlying24 rfl (by decide) _ l.length (ensC l vs) rfl hownA _ 1 (enC x (.slice a1 x.says.length k1, .slice a2 x.uses.length k2, .slice a3 x.proof.length k3)) rfl HROW.out (enC_one _ _ _ _ _ _ _ _ _ _) (by omega) (by omega) (by omega) (by simp; omega) _ rfl ?_; intro g cap w4 hown4 hgrow4 hat4 hlt4)
      go_ret2
      have hba : Below w2.heap.size w2 (w2.alloc (.cells #[.string x.name, .string x.who, .slice a1 x.says.length k1, .slice a2 x.uses.length k2, .slice a3 x.proof.length k3] 41)) := (Below.refl _ _).alloc (Nat.le_refl _) _
      refine MadeQ.mk _ _ _ (vs ++ [(.slice a1 x.says.length k1, .slice a2 x.uses.length k2, .slice a3 x.proof.length k3)]) HR.out rfl ?_ ?_ (HE.out.fr.push (HO2.out.fr (Nat.le_trans hb HB1.out.size)))
      · have hbW := HB2.out.trans (hba.mono HB2.out.size)
        exact (HE.out.push (w1 := w2.alloc _) hbW (HO2.out.blocks HB1.out.size fun q _ hq => hba.block q hq) hb rfl hown4 hgrow4).toS
      · exact ((HB2.out.mono hb).alloc (by omega) _).grown hgrow4 (by simp; omega) (fun q hq => (HE.out.top.lt q hq).1)
set_option maxHeartbeats 4000000 in
set_option maxRecDepth 100000 in
theorem blame_set (base : Nat) (u : Value) (vs : List V3) (l : List En) (c : Chg) (vS vU vP : Value) (w : World) (hE : EnW w base u vs l) (hc : ChgAt w vS vU vP c) (hb : base ≤ w.heap.size) (hl : l.length ≤ 60) (hsm : EnSm c.ent) :
    Calls Tryz.prog 111 #[u, chV c vS vU vP] w fun e w' => MadeQ base (setL l c) w e w' := by
  obtain ⟨sa, sc, rfl, -⟩ := hc.e.s.open
  obtain ⟨ua, uc, rfl, -⟩ := hc.e.u.open
  obtain ⟨pa, pc, rfl, -⟩ := hc.e.p.open
  unfold chV
  have hCB := CB.new w c (.slice sa c.ent.says.length sc) (.slice ua c.ent.uses.length uc) (.slice pa c.ent.proof.length pc) 43
  obtain ⟨V, hV⟩ : ∃ V, w.alloc (.cells #[.int .i64 c.kind, .string c.who, .string c.name, .string c.new, .string c.ent.name, .string c.ent.who, .slice sa c.ent.says.length sc, .slice ua c.ent.uses.length uc, .slice pa c.ent.proof.length pc] 43) = V := ⟨_, rfl⟩
  have hbV : Below w.heap.size w V := hV ▸ (Below.refl _ _).alloc (Nat.le_refl _) _
  rw [hV] at hCB
  have HF := hid (blame_find _ l c.ent.name V ((hE.below hbV).ents (by omega)))
  have HW := hid hV
  have HBV := hid hbV
  have HCB := hid hCB
  have HE := hid hE
  have HC := hid hc
  obtain ⟨c0, c1, c2, c3, c4, c5, c6, c7, c8⟩ := hCB
  clear hV hE hc hbV
  cases hi : idxN l c.ent.name with
  | none =>
    have HR : Hid (setL l c = ([], 5)) := hid (by unfold setL; rw [hi])
    rw [idxI_no hi] at HF
    obtain ⟨ra, rc, rfl⟩ := HE.out.slice
    clear hi
    go_enter Tryz.func111, Tryz.ntmps111
    go_wp2_with fail
    rw [HW.out]
    refine HF.out.mono ?_
    rintro e w1 ⟨rfl, hb1⟩
    go_wp2
    go_ret2
    exact MadeQ.no HR.out ((HBV.out.trans (hb1.mono HBV.out.size)).mono hb)
  | some i =>
    rw [idxI_some hi] at HF
    have b0 : (0 : Int) ≤ (i : Int) := by omega
    obtain ⟨hil, -⟩ := idxN_some hi
    have b1 : (i : Int) < (l.length : Int) := by omega
    obtain ⟨g, rc, rfl, hg1, hg2, hg3⟩ := HE.out.toS.blk (by omega)
    have HRR : Hid (setL l c = if l[i] = c.ent then ([], 8) else (l.set i c.ent, 0)) := hid (by unfold setL; rw [hi]; show (if l.getD i en0 = c.ent then _ else _) = _; rw [getD_at hil])
    clear hi
    go_enter Tryz.func111, Tryz.ntmps111
    go_wp2_with fail
    rw [HW.out]
    refine HF.out.mono ?_
    rintro e w1 ⟨rfl, hb1⟩
    have hbw1 := HBV.out.trans (hb1.mono HBV.out.size)
    obtain ⟨x1, y1, x2, y2, x3, y3, e0, e1, e2, e3, e4, he⟩ := (HE.out.toS.below hbw1).cells rfl hil
    have HSM := hid (fun (X : World) (hX : Below w1.heap.size w1 X) => blame_Same _ _ _ _ _ _ l[i] c.ent X (he.below hX) ((HC.out.e.below hbw1).below hX))
    have D := hid (HCB.out.below hb1)
    obtain ⟨d0, d1, d2, d3, d4, d5, d6, d7, d8⟩ := HCB.out.below hb1
    have HB1 := hid hbw1
    have HES := hid (HE.out.toS.below hbw1)
    have HZ1 := hid hbw1.size
    obtain ⟨y, hy⟩ : ∃ y, l[i] = y := ⟨_, rfl⟩
    rw [hy] at e0 e1 e2 e3 e4 HSM HRR
    obtain ⟨x, hx⟩ : ∃ x, c.ent = x := ⟨_, rfl⟩
    have HCE : Hid (ChgAt w (.slice sa c.ent.says.length sc) (.slice ua c.ent.uses.length uc) (.slice pa c.ent.proof.length pc) c) := HC
    have HEX := hid (HC.out.e.below hbw1)
    rw [hx] at d4 d5 d6 d7 d8 HSM HRR HEX hsm
    simp only [hx]
    have hgw : g < w1.heap.size := by have := hbw1.size; omega
    have E0 := hid e0
    have E1 := hid e1
    have E2 := hid e2
    have E3 := hid e3
    have E4 := hid e4
    have D4 := hid d4
    have D5 := hid d5
    have D6 := hid d6
    have D7 := hid d7
    have D8 := hid d8
    clear c0 c1 c2 c3 c4 c5 c6 c7 c8 hb1 hbw1 he hy hx HCB HC HCE D
    obtain ⟨bb, hbb⟩ : ∃ bb, decide (y = x) = bb := ⟨_, rfl⟩
    rw [hbb] at HSM
    go_wp2
    go_region_held3 (fun w' => w'.cell? ⟨g, i * 5, none⟩ = some (.string y.name) ∧ w'.cell? ⟨g, i * 5 + 1, none⟩ = some (.string y.who) ∧ w'.cell? ⟨g, i * 5 + 2, none⟩ = some (.slice x1 y.says.length y1) ∧ w'.cell? ⟨g, i * 5 + 3, none⟩ = some (.slice x2 y.uses.length y2) ∧ w'.cell? ⟨g, i * 5 + 4, none⟩ = some (.slice x3 y.proof.length y3) ∧
        w'.cell? ⟨w.heap.size, 4, none⟩ = some (.string x.name) ∧ w'.cell? ⟨w.heap.size, 5, none⟩ = some (.string x.who) ∧ w'.cell? ⟨w.heap.size, 6, none⟩ = some (.slice sa x.says.length sc) ∧ w'.cell? ⟨w.heap.size, 7, none⟩ = some (.slice ua x.uses.length uc) ∧ w'.cell? ⟨w.heap.size, 8, none⟩ = some (.slice pa x.proof.length pc))
      (first | exact ⟨by assumption, by assumption, by assumption, by assumption, by assumption, by assumption, by assumption, by assumption, by assumption, by assumption⟩ | go_keep)
      (first | (go_at_call 35; (with_reducible refine (HSM.out _ (by (repeat (first | with_reducible assumption | with_reducible exact Below.refl _ _ | with_reducible exact below_self_drewN _ _ | with_reducible refine Below.drew ?_ | with_reducible refine below_drewN ?_ _ | (with_reducible refine Below.alloc ?_ ?_ _; rotate_left; focus (first | (simp; done) | omega | (simp; omega))))))).mono ?_); rintro e wz ⟨rfl, hbz⟩; have hbr : Below w1.heap.size w1 wz := Below.trans (by (repeat (first | with_reducible assumption | with_reducible exact Below.refl _ _ | with_reducible exact below_self_drewN _ _ | with_reducible refine Below.drew ?_ | with_reducible refine below_drewN ?_ _ | (with_reducible refine Below.alloc ?_ ?_ _; rotate_left; focus (first | (simp; done) | omega | (simp; omega)))))) (hbz.mono (by (first | (simp; done) | omega | (simp; omega)))); have e0 := (hbr.cell (World.block_lt_of_cell? _ _ E0.out)).trans E0.out; have e1 := (hbr.cell (World.block_lt_of_cell? _ _ E1.out)).trans E1.out; have e2 := (hbr.cell (World.block_lt_of_cell? _ _ E2.out)).trans E2.out; have e3 := (hbr.cell (World.block_lt_of_cell? _ _ E3.out)).trans E3.out; have e4 := (hbr.cell (World.block_lt_of_cell? _ _ E4.out)).trans E4.out; have d4 := (hbr.cell (World.block_lt_of_cell? _ _ D4.out)).trans D4.out; have d5 := (hbr.cell (World.block_lt_of_cell? _ _ D5.out)).trans D5.out; have d6 := (hbr.cell (World.block_lt_of_cell? _ _ D6.out)).trans D6.out; have d7 := (hbr.cell (World.block_lt_of_cell? _ _ D7.out)).trans D7.out; have d8 := (hbr.cell (World.block_lt_of_cell? _ _ D8.out)).trans D8.out))
    cases bb
    case true =>
      have HR : Hid (setL l c = ([], 8)) := hid (by rw [HRR.out, if_pos (of_decide_eq_true hbb)])
      clear hbb e0 e1 e2 e3 e4 d0 d1 d2 d3 d4 d5 d6 d7 d8
      go_wp2
      go_ret2
      exact MadeQ.no HR.out ((HB1.out.trans (hbr.mono HZ1.out)).mono hb)
    case false =>
      have HR : Hid (setL l c = (l.set i x, 0)) := hid (by rw [HRR.out, if_neg (of_decide_eq_false hbb)])
      have HCP := hid (blame_copied _ _ _ x wz (HEX.out.below hbr) hsm.1 hsm.2.1 hsm.2.2.1 hsm.2.2.2)
      have HBZ := hid (HB1.out.trans (hbr.mono HZ1.out))
      have HSZ := hid (HES.out.below hbr)
      clear hbb e0 e1 e2 e3 e4 d0 d1 d2 d3
      go_wp2_with fail
      refine HCP.out.mono ?_
      rintro e w2 ⟨v, rfl, ⟨vS, vU, vP, rfl, hO⟩, hb2⟩
      obtain ⟨a1, k1, rfl⟩ := owns_slice hO.s
      obtain ⟨a2, k2, rfl⟩ := owns_slice hO.u
      obtain ⟨a3, k3, rfl⟩ := owns_slice hO.p
      have hS2 := HSZ.out.below hb2
      obtain ⟨q1, z1, q2, z2, q3, z3, f0, f1, f2, f3, f4, -⟩ := hS2.cells rfl hil
      have p0 := hS2.top.frozenAt (i * 5)
      have p1 := hS2.top.frozenAt (i * 5 + 1)
      have p2 := hS2.top.frozenAt (i * 5 + 2)
      have p3 := hS2.top.frozenAt (i * 5 + 3)
      have p4 := hS2.top.frozenAt (i * 5 + 4)
      have hgz : g < wz.heap.size := by have := hbr.size; omega
      obtain ⟨hS3, hk3⟩ := hS2.set (j := i) (x := x) (v := (.slice a1 x.says.length k1, .slice a2 x.uses.length k2, .slice a3 x.proof.length k3)) rfl hil (fun W' hW' => (hO.blocks (base' := 0) (Nat.zero_le _) fun q h1 h2 => hW' q h2 (by omega)).ent)
      have HS3 := hid hS3
      have HFR := hid (HE.out.fr.set i (v := (.slice a1 x.says.length k1, .slice a2 x.uses.length k2, .slice a3 x.proof.length k3)) (hO.fr (Nat.le_trans hb HBZ.out.size)))
      have hbz2 := HBZ.out.trans (hb2.mono HBZ.out.size)
      have HB3 := hid (below_of_kb (hbz2.mono hb) hk3 hg1 (Nat.le_trans hb hbz2.size))
      clear hS2 hO hb2 hS3 hk3 hbz2 HSM HCP
      go_wp2
      go_ret2
      exact MadeQ.mk _ _ _ _ HR.out rfl HS3.out HB3.out HFR.out
set_option maxHeartbeats 4000000 in
set_option maxRecDepth 100000 in
theorem blame_drop (base : Nat) (u : Value) (vs : List V3) (l : List En) (c : Chg) (vS vU vP : Value) (w : World) (hE : EnW w base u vs l) (hc : ChgAt w vS vU vP c) (hb : base ≤ w.heap.size) (hl : l.length ≤ 60) :
    Calls Tryz.prog 113 #[u, chV c vS vU vP] w fun e w' => MadeQ base (dropL l c) w e w' := by
  obtain ⟨sa, sc, rfl, -⟩ := hc.e.s.open
  obtain ⟨ua, uc, rfl, -⟩ := hc.e.u.open
  obtain ⟨pa, pc, rfl, -⟩ := hc.e.p.open
  unfold chV
  have hCB := CB.new w c (.slice sa c.ent.says.length sc) (.slice ua c.ent.uses.length uc) (.slice pa c.ent.proof.length pc) 43
  obtain ⟨V, hV⟩ : ∃ V, w.alloc (.cells #[.int .i64 c.kind, .string c.who, .string c.name, .string c.new, .string c.ent.name, .string c.ent.who, .slice sa c.ent.says.length sc, .slice ua c.ent.uses.length uc, .slice pa c.ent.proof.length pc] 43) = V := ⟨_, rfl⟩
  have hbV : Below w.heap.size w V := hV ▸ (Below.refl _ _).alloc (Nat.le_refl _) _
  rw [hV] at hCB
  have HF := hid (blame_find _ l c.name V ((hE.below hbV).ents (by omega)))
  have HU := hid (fun (X : World) (hX : Below V.heap.size V X) => blame_used _ l c.name c.name X (((hE.below hbV).below hX).ents (by omega)))
  have HW := hid hV
  have HBV := hid hbV
  have HCB := hid hCB
  have HE := hid hE
  obtain ⟨c0, c1, c2, c3, c4, c5, c6, c7, c8⟩ := hCB
  clear hV hE hc hbV
  cases hi : idxN l c.name with
  | none =>
    have HR : Hid (dropL l c = ([], 5)) := hid (by unfold dropL; rw [hi])
    rw [idxI_no hi] at HF
    obtain ⟨ra, rc, rfl⟩ := HE.out.slice
    clear hi
    go_enter Tryz.func113, Tryz.ntmps113
    go_wp2_with fail
    rw [HW.out]
    refine HF.out.mono ?_
    rintro e w1 ⟨rfl, hb1⟩
    go_wp2
    go_ret2
    exact MadeQ.no HR.out ((HBV.out.trans (hb1.mono HBV.out.size)).mono hb)
  | some i =>
    rw [idxI_some hi] at HF
    have b0 : (0 : Int) ≤ (i : Int) := by omega
    obtain ⟨hil, -⟩ := idxN_some hi
    have b1 : (i : Int) < (l.length : Int) := by omega
    obtain ⟨g, rc, rfl, hg1, hg2, hg3⟩ := HE.out.toS.blk (by omega)
    have HRR : Hid (dropL l c = if usedB l c.name c.name = true then ([], 10) else (l.eraseIdx i, 0)) := hid (by unfold dropL; rw [hi])
    clear hi
    go_enter Tryz.func113, Tryz.ntmps113
    go_wp2_with fail
    rw [HW.out]
    refine HF.out.mono ?_
    rintro e w1 ⟨rfl, hb1⟩
    obtain ⟨d0, d1, d2, d3, d4, d5, d6, d7, d8⟩ := HCB.out.below hb1
    have HU1 := hid (HU.out w1 hb1)
    have HB1 := hid (HBV.out.trans (hb1.mono HBV.out.size))
    clear c0 c1 c2 c3 c4 c5 c6 c7 c8 hb1
    go_wp2_with fail
    refine HU1.out.mono ?_
    rintro e w2 ⟨rfl, hb2⟩
    have HB2 := hid (HB1.out.trans (hb2.mono HB1.out.size))
    obtain ⟨bb, hbb⟩ : ∃ bb, (l.any fun x => decide (x.name ≠ c.name) && hasN x.uses c.name) = bb := ⟨_, rfl⟩
    have hub : usedB l c.name c.name = bb := hbb
    rw [hbb]
    cases bb
    case true =>
      have HR : Hid (dropL l c = ([], 10)) := hid (by rw [HRR.out, if_pos hub])
      clear hbb hub d0 d1 d2 d3 d4 d5 d6 d7 d8 hb2
      go_wp2
      go_ret2
      exact MadeQ.no HR.out (HB2.out.mono hb)
    case false =>
      have HR : Hid (dropL l c = (l.eraseIdx i, 0)) := hid (by rw [HRR.out, if_neg (by rw [hub]; simp)])
      obtain ⟨m, hm⟩ : ∃ m, l.length = m + 1 := ⟨l.length - 1, by omega⟩
      have hS2 := HE.out.toS.below HB2.out
      rw [hm] at hS2
      have HD := hid (sl_Delete_ents base g m rc i vs l w2 hm (by omega) (by omega) hS2)
      have HM := hid hm
      clear hbb hub d0 d1 d2 d3 d4 d5 d6 d7 d8 hb2 hS2
      rw [hm] at b1
      simp only [hm]
      clear hm
      go_wp2_with fail
      refine HD.out.mono ?_
      rintro e w3 ⟨rfl, hS3, hk3⟩
      have HS3 := hid hS3
      have HB3 := hid (below_of_kb (HB2.out.mono hb) hk3 hg1 (Nat.le_trans hb HB2.out.size))
      clear hS3 hk3
      go_wp2
      go_ret2
      exact MadeQ.mk _ _ _ _ HR.out rfl HS3.out HB3.out (HE.out.fr.erase i)
end Go.Proofs.YtlbjbmpkaniojaaGreat
namespace Go.Proofs.YtlbjbmpkaniojaaGreat
open Go Go.RowKit Go.Maps
structure ChS (w : World) (base : Nat) (u : Value) (vs : List V3) (l : List Chg) : Prop where
  top : w.ownsRow base 43 9 u l.length (chsC l vs)
  len : vs.length = l.length
  rd : ∀ W' : World, (∀ q, q < w.heap.size → some q ≠ u.ownBlock → W'.heap[q]? = w.heap[q]?) → ∀ (j : Nat) (h : j < l.length) (h' : j < vs.length), ChgAt W' vs[j].1 vs[j].2.1 vs[j].2.2 l[j]
theorem ChS.nil (w : World) (base : Nat) : ChS w base (.slice none 0 0) [] [] := ⟨World.ownsRow_nil _ _ _ _, rfl, fun _ _ j h => by simp at h⟩
theorem ChS.below {w w' : World} {base : Nat} {u : Value} {vs : List V3} {l : List Chg} (h : ChS w base u vs l) (hb : Below w.heap.size w w') : ChS w' base u vs l :=
  ⟨owns_below h.top hb, h.len, fun W' hW => h.rd W' fun q hq hne => (hW q (Nat.lt_of_lt_of_le hq hb.size) hne).trans (hb.block q hq)⟩
theorem ChS.slice {w : World} {base : Nat} {u : Value} {vs : List V3} {l : List Chg} (h : ChS w base u vs l) : ∃ a c, u = .slice a l.length c := owns_slice h.top
theorem chsC_snoc (l : List Chg) (x : Chg) (vs : List V3) (v : V3) (h : vs.length = l.length) : chsC (l ++ [x]) (vs ++ [v]) = chsC l vs ++ chC x v := by
  rw [chsC_append l [x] vs [v] h]
  simp [chsC]
theorem ChS.push {w w1 w2 : World} {base : Nat} {u : Value} {vs : List V3} {l : List Chg} (h : ChS w base u vs l) (hb : Below w.heap.size w w1) {x : Chg} {v : V3}
    (hx : ∀ W' : World, (∀ q, q < w1.heap.size → some q ≠ u.ownBlock → W'.heap[q]? = w1.heap[q]?) → ChgAt W' v.1 v.2.1 v.2.2 x)
    {g cap n : Nat} (hn : n = l.length) (hown : w2.ownsRow base 43 9 (.slice (some ⟨g, 0, none⟩) (n + 1) cap) (n + 1) (chsC l vs ++ chC x v)) (hg : w1.grownBy w2 u.ownBlock) {H : Nat} (hH : H = w1.heap.size) (hat : u.ownBlock = some g ∨ g = H) :
    ChS w2 base (.slice (some ⟨g, 0, none⟩) (n + 1) cap) (vs ++ [v]) (l ++ [x]) := by
  subst hn
  have hb1 := h.below hb
  have key : ∀ W' : World, (∀ q, q < w2.heap.size → some q ≠ (Value.slice (some ⟨g, 0, none⟩) (l.length + 1) cap).ownBlock → W'.heap[q]? = w2.heap[q]?) → ∀ q, q < w1.heap.size → some q ≠ u.ownBlock → W'.heap[q]? = w1.heap[q]? := by
    intro W' hW q hq hne
    rw [hW q (Nat.lt_of_lt_of_le hq hg.size) ?_, hg.block q hq hne]
    intro e
    have e : q = g := Option.some.inj e
    rcases hat with ha | ha
    · exact hne (by rw [ha, e])
    · omega
  refine ⟨by rw [chsC_snoc _ _ _ _ h.len]; simpa using hown, by simp [h.len], fun W' hW j hj hj' => ?_⟩
  have k1 := key W' hW
  by_cases hlt : j < l.length
  · have hv : j < vs.length := by rw [h.len]; exact hlt
    rw [List.getElem_append_left hlt, List.getElem_append_left hv]
    exact hb1.rd W' k1 j hlt hv
  · have e : j = l.length := by simp at hj; omega
    subst e
    have e1 : (l ++ [x])[l.length] = x := by simp
    have e2 : (vs ++ [v])[l.length] = v := by rw [List.getElem_append_right (by rw [h.len]; exact Nat.le_refl _)]; simp [h.len]
    rw [e1, e2]
    exact hx W' k1
/-- a box that holds a list of values. -/
structure BX (w : World) (b : Nat) (xs : List Value) : Prop where
  c : ∀ (j : Nat) (h : j < xs.length), w.cell? ⟨b, j, none⟩ = some xs[j]
  z : ∀ j, w.frozen? ⟨b, j, none⟩ = false
theorem BX.new (w : World) (xs : List Value) (t : TypeId) : BX (w.alloc (.cells xs.toArray t)) w.heap.size xs := by
  refine ⟨fun j h => ?_, fun j => ?_⟩
  · rw [World.cell?_alloc_new]; simp [h]
  · unfold World.frozen? World.alloc
    simp
theorem BX.block {w w' : World} {b : Nat} {xs : List Value} (h : BX w b xs) (hb : w'.heap[b]? = w.heap[b]?) : BX w' b xs :=
  ⟨fun j hj => (World.cell?_of_block hb).trans (h.c j hj), fun j => by
    have := h.z j
    unfold World.frozen? at this ⊢
    rw [hb]; exact this⟩
theorem BX.lt {w : World} {b : Nat} {xs : List Value} (h : BX w b xs) (h0 : 0 < xs.length) : b < w.heap.size := World.block_lt_of_cell? _ _ (h.c 0 h0)
theorem BX.below {w w' : World} {b : Nat} {xs : List Value} (h : BX w b xs) (h0 : 0 < xs.length) (hb : Below w.heap.size w w') : BX w' b xs := h.block (hb.block b (h.lt h0))
theorem BX.set {w : World} {b : Nat} {xs : List Value} (h : BX w b xs) {k : Nat} (hk : k < xs.length) (y : Value) : BX (w.setCell ⟨b, k, none⟩ y) b (xs.set k y) := by
  have hin := World.cell?_setCells_in b [y] k w (by
    intro j hj
    match j, hj with
    | 0, _ => show (w.cell? ⟨b, k, none⟩).isSome = true; rw [h.c k hk]; rfl)
  have hout := fun (o : Nat) (ho : o ≠ k) => World.cell?_setCells_out b [y] k w ⟨b, o, none⟩ (fun _ _ => by simp; omega)
  have hf := fun j => World.frozen?_setCells b [y] k w ⟨b, j, none⟩
  refine ⟨fun j hj => ?_, fun j => (hf j).trans (h.z j)⟩
  rw [List.length_set] at hj
  by_cases e : j = k
  · subst e
    rw [List.getElem_set_self]
    exact hin 0 (by simp)
  · rw [List.getElem_set_ne (by omega)]
    exact (hout j e).trans (h.c j hj)
theorem BX.sets : ∀ (ys : List Value) {w : World} {b : Nat} {xs : List Value} (o : Nat), BX w b xs → o + ys.length ≤ xs.length → BX (w.setCells b o ys) b (ovL xs o ys)
  | [], _, _, _, _, h, _ => h
  | y :: ys, w, b, xs, o, h, ho => by
    rw [List.length_cons] at ho
    exact BX.sets ys (o + 1) (h.set (by omega) y) (by rw [List.length_set]; omega)
end Go.Proofs.YtlbjbmpkaniojaaGreat
