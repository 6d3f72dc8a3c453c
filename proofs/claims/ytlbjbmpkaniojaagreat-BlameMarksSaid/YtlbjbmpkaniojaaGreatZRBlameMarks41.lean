/-
  WHAT IT HOLDS: contracts of empty and Valid of the reference of layer 9. Conditions: the arguments read as data; small signs.
  WHAT IT HOLDS: contracts of without and Do of the reference of layer 9. Conditions: the arguments read as data; an edition and a valid change.
  WHAT IT HOLDS: contract of Do of the reference of layer 9. Conditions: the arguments read as data; an edition and a valid change.
  WHAT IT HOLDS: contract of Do of the reference of layer 9 at a change that renames, and at any valid change. Conditions: the arguments read as data; an edition and a valid change.
-/
import Derived.Deep.RegionLaw
import Derived.Deep.RegionHeld3
import Derived.Test.YtlbjbmpkaniojaaGreatZRBlameMarks36
import Derived.Test.YtlbjbmpkaniojaaGreatZRBlameMarks32
import Derived.Test.YtlbjbmpkaniojaaGreatZRBlameMarks18
import Derived.Test.YtlbjbmpkaniojaaGreatZRBlameMarks35
import Derived.Test.YtlbjbmpkaniojaaGreatZRBlameMarks13
namespace Go.Proofs.YtlbjbmpkaniojaaGreat
open Go Go.RowKit Go.Maps
set_option maxHeartbeats 2000000 in
theorem ref9_empty (vS vU vP : Value) (x : En) (w : World) (hx : EntAt w vS vU vP x) :
    Calls Tryz.prog 76 #[.agg #[.string x.name, .string x.who, vS, vU, vP]] w fun e w' => e = .returned (.bool (decide (x = en0))) ∧ Below w.heap.size w w' := by
  obtain ⟨sa, sc, rfl, -⟩ := hx.s.open
  obtain ⟨ua, uc, rfl, -⟩ := hx.u.open
  obtain ⟨pa, pc, rfl, -⟩ := hx.p.open
  have EB0 := EB.new w x (.slice sa x.says.length sc) (.slice ua x.uses.length uc) (.slice pa x.proof.length pc) 41
  obtain ⟨V, hV⟩ : ∃ V, w.alloc (.cells #[.string x.name, .string x.who, .slice sa x.says.length sc, .slice ua x.uses.length uc, .slice pa x.proof.length pc] 41) = V := ⟨_, rfl⟩
  have hbV : Below w.heap.size w V := hV ▸ (Below.refl _ _).alloc (Nat.le_refl _) _
  rw [hV] at EB0
  have HSE := hid (ref6_SameEntry _ _ _ (.slice none 0 0) (.slice none 0 0) (.slice none 0 0) x en0 V (hx.below hbV) (EntAt.zero V))
  obtain ⟨c0, c1, c2, c3, c4⟩ := EB0
  have HV := hid hV
  have HBV := hid hbV
  clear hV hbV hx
  go_enter Tryz.func76, Tryz.ntmps76
  go_wp2_with (rw [HV.out])
  refine HSE.out.mono ?_
  rintro e w2 ⟨rfl, hb2⟩
  go_wp2
  go_ret
  exact ⟨rfl, HBV.out.trans (hb2.mono HBV.out.size)⟩
set_option maxHeartbeats 8000000 in
set_option maxRecDepth 100000 in
theorem ref9_Valid (vs vS vU vP : Value) (s : Sg) (c : Chg) (w : World) (hs : SignAt w vs s) (hc : ChgAt w vS vU vP c) (hs1 : s.length ≤ 1000) :
    Calls Tryz.prog 27 #[vs, chV c vS vU vP] w fun e w' => e = .returned (.bool (chgB s c)) ∧ Below w.heap.size w w' := by
  obtain ⟨sa, sc, rfl, -⟩ := hc.e.s.open
  obtain ⟨ua, uc, rfl, -⟩ := hc.e.u.open
  obtain ⟨pa, pc, rfl, -⟩ := hc.e.p.open
  unfold chV
  have hCB := CB.new w c (.slice sa c.ent.says.length sc) (.slice ua c.ent.uses.length uc) (.slice pa c.ent.proof.length pc) 43
  obtain ⟨V, hV⟩ : ∃ V, w.alloc (.cells #[.int .i64 c.kind, .string c.who, .string c.name, .string c.new, .string c.ent.name, .string c.ent.who, .slice sa c.ent.says.length sc, .slice ua c.ent.uses.length uc, .slice pa c.ent.proof.length pc] 43) = V := ⟨_, rfl⟩
  have hbV : Below w.heap.size w V := hV ▸ (Below.refl _ _).alloc (Nat.le_refl _) _
  rw [hV] at hCB
  have HSG := hid ((ref1_ValidSign vs s V (hs.below hbV)).mono fun e w' h => (show e = .returned (.bool (signB s)) ∧ Below V.heap.size V w' from ⟨h.1, by obtain ⟨-, n, rfl⟩ := h; exact below_self_drewN _ _⟩))
  have HNM := hid (fun (n : Nm) (X : World) (hn : n.size ≤ 140737488355328) => ref6_Name n X hn)
  have HVE := hid (fun (X : World) (hX : Below V.heap.size V X) => ref6_ValidEntry vs _ _ _ s c.ent X ((hs.below hbV).below hX) ((hc.e.below hbV).below hX) hs1)
  have HEM := hid (fun (X : World) (hX : Below V.heap.size V X) => ref9_empty _ _ _ c.ent X ((hc.e.below hbV).below hX))
  have HR := hid (chgB_eq s c)
  have HW := hid hV
  have HBV := hid hbV
  have HCB := hid hCB
  have HN := hid (And.intro hc.n1 (And.intro hc.n2 hc.n3))
  clear hV hbV hc hs hCB
  cases g1 : signB s
  · have HF : Hid (chgB s c = false) := hid (by rw [HR.out, g1]; cases nmB c.who <;> rfl)
    rw [g1] at HSG
    clear g1
    go_enter Tryz.func27, Tryz.ntmps27
    go_wp2_with (rw [HW.out])
    refine HSG.out.mono ?_
    rintro e w1 ⟨rfl, hb1⟩
    go_wp2
    go_ret
    exact ⟨ret_bool HF.out.symm, HBV.out.trans (hb1.mono HBV.out.size)⟩
  rw [g1] at HSG HR
  clear g1
  go_enter Tryz.func27, Tryz.ntmps27
  go_wp2_with (rw [HW.out])
  refine HSG.out.mono ?_
  rintro e w1 ⟨rfl, hb1⟩
  obtain ⟨d0, d1, d2, d3, d4, d5, d6, d7, d8⟩ := HCB.out.below hb1
  have HD := hid (HCB.out.below hb1)
  have HB1 := hid hb1
  have HBW := hid (HBV.out.trans (hb1.mono HBV.out.size))
  have HN1 := hid (HNM.out c.who w1 HN.out.1)
  clear hb1 HSG HCB
  cases g2 : nmB c.who
  · have HF : Hid (chgB s c = false) := hid (by rw [HR.out, g2]; rfl)
    rw [g2] at HN1
    clear g2
    go_wp2_with (go_at_call 53; refine HN1.out.mono ?_; rintro e w' ⟨rfl, rfl⟩)
    go_ret
    exact ⟨ret_bool HF.out.symm, HBW.out⟩
  rw [g2] at HN1 HR
  clear g2
  by_cases k12 : c.kind = 1 ∨ c.kind = 2
  · rw [if_pos k12] at HR
    have q1 : (c.kind == 1) = true ∨ ((c.kind == 1) = false ∧ (c.kind == 2) = true) := by
      rcases k12 with k | k
      · exact Or.inl (by simpa using k)
      · exact Or.inr ⟨by rw [k]; rfl, by simpa using k⟩
    clear k12
    by_cases n1 : c.name = em
    · obtain ⟨r1, r2, r3⟩ := str_em n1
      by_cases n2 : c.new = em
      · obtain ⟨t1, t2, t3⟩ := str_em n2
        have HF : Hid (chgB s c = entryB s c.ent) := hid (by rw [HR.out, n1, n2]; simp)
        have HV1 := hid (HVE.out w1 HB1.out)
        clear n1 n2
        rcases q1 with q1 | ⟨q1, q2⟩
        all_goals
          go_wp2_with (go_at_call 53; refine HN1.out.mono ?_; rintro e w' ⟨rfl, rfl⟩)
          refine HV1.out.mono ?_
          rintro e w2 ⟨rfl, hb2⟩
          go_wp2
          go_ret
          exact ⟨ret_bool HF.out.symm, HBW.out.trans (hb2.mono HBW.out.size)⟩
      · obtain ⟨t1, t2, t3⟩ := str_ne n2
        have HF : Hid (chgB s c = false) := hid (by rw [HR.out, decide_eq_false n2]; simp)
        clear n1 n2
        rcases q1 with q1 | ⟨q1, q2⟩
        all_goals
          go_wp2_with (go_at_call 53; refine HN1.out.mono ?_; rintro e w' ⟨rfl, rfl⟩)
          go_ret
          exact ⟨ret_bool HF.out.symm, HBW.out⟩
    · obtain ⟨r1, r2, r3⟩ := str_ne n1
      have HF : Hid (chgB s c = false) := hid (by rw [HR.out, decide_eq_false n1]; simp)
      clear n1
      rcases q1 with q1 | ⟨q1, q2⟩
      all_goals
        go_wp2_with (go_at_call 53; refine HN1.out.mono ?_; rintro e w' ⟨rfl, rfl⟩)
        go_ret
        exact ⟨ret_bool HF.out.symm, HBW.out⟩
  rw [if_neg k12] at HR
  have j1 : (c.kind == 1) = false := by simp; omega
  have j2 : (c.kind == 2) = false := by simp; omega
  have HE1 := hid (HEM.out w1 HB1.out)
  clear HVE HEM
  by_cases k3 : c.kind = 3
  · rw [if_pos k3] at HR
    have j3 : (c.kind == 3) = true := by simpa using k3
    clear k12 k3
    have HP := hid (HNM.out c.name w1 HN.out.2.1)
    have HQ := hid (HNM.out c.new w1 HN.out.2.2)
    cases g3 : nmB c.name
    · have HF : Hid (chgB s c = false) := hid (by rw [HR.out, g3]; rfl)
      rw [g3] at HP
      clear g3
      go_wp2_with (go_at_call 53; first | ((with_reducible refine HN1.out.mono ?_); rintro e w' ⟨rfl, rfl⟩) | ((with_reducible refine HP.out.mono ?_); rintro e w' ⟨rfl, rfl⟩))
      go_ret
      exact ⟨ret_bool HF.out.symm, HBW.out⟩
    rw [g3] at HR HP
    clear g3
    cases g4 : nmB c.new
    · have HF : Hid (chgB s c = false) := hid (by rw [HR.out, g4]; rfl)
      rw [g4] at HQ
      clear g4
      go_wp2_with (go_at_call 53; first | ((with_reducible refine HN1.out.mono ?_); rintro e w' ⟨rfl, rfl⟩) | ((with_reducible refine HP.out.mono ?_); rintro e w' ⟨rfl, rfl⟩) | ((with_reducible refine HQ.out.mono ?_); rintro e w' ⟨rfl, rfl⟩))
      go_ret
      exact ⟨ret_bool HF.out.symm, HBW.out⟩
    rw [g4] at HR HQ
    clear g4
    by_cases hne : c.name = c.new
    · have HF : Hid (chgB s c = false) := hid (by rw [HR.out, decide_eq_false (fun h => h hne)]; rfl)
      have q1 : (c.name.toList == c.new.toList) = true := by rw [bytes_eq]; simpa using hne
      have q2 : (c.name.toList != c.new.toList) = false := by rw [bne, q1]; rfl
      clear hne
      go_wp2_with (go_at_call 53; first | ((with_reducible refine HN1.out.mono ?_); rintro e w' ⟨rfl, rfl⟩) | ((with_reducible refine HP.out.mono ?_); rintro e w' ⟨rfl, rfl⟩) | ((with_reducible refine HQ.out.mono ?_); rintro e w' ⟨rfl, rfl⟩))
      go_ret
      exact ⟨ret_bool HF.out.symm, HBW.out⟩
    · have HF : Hid (chgB s c = decide (c.ent = en0)) := hid (by rw [HR.out, decide_eq_true (show c.name ≠ c.new from hne)]; rfl)
      have q1 : (c.name.toList == c.new.toList) = false := by rw [bytes_eq]; simpa using hne
      have q2 : (c.name.toList != c.new.toList) = true := by rw [bne, q1]; rfl
      clear hne
      go_wp2_with (go_at_call 53; first | ((with_reducible refine HN1.out.mono ?_); rintro e w' ⟨rfl, rfl⟩) | ((with_reducible refine HP.out.mono ?_); rintro e w' ⟨rfl, rfl⟩) | ((with_reducible refine HQ.out.mono ?_); rintro e w' ⟨rfl, rfl⟩))
      refine HE1.out.mono ?_
      rintro e w2 ⟨rfl, hb2⟩
      go_wp2
      go_ret
      exact ⟨ret_bool HF.out.symm, HBW.out.trans (hb2.mono HBW.out.size)⟩
  rw [if_neg k3] at HR
  have j3 : (c.kind == 3) = false := by simpa using k3
  by_cases k4 : c.kind = 4
  · rw [if_pos k4] at HR
    have j4 : (c.kind == 4) = true := by simpa using k4
    clear k12 k3 k4
    have HP := hid (HNM.out c.name w1 HN.out.2.1)
    cases g3 : nmB c.name
    · have HF : Hid (chgB s c = false) := hid (by rw [HR.out, g3]; rfl)
      rw [g3] at HP
      clear g3
      go_wp2_with (go_at_call 53; first | ((with_reducible refine HN1.out.mono ?_); rintro e w' ⟨rfl, rfl⟩) | ((with_reducible refine HP.out.mono ?_); rintro e w' ⟨rfl, rfl⟩))
      go_ret
      exact ⟨ret_bool HF.out.symm, HBW.out⟩
    rw [g3] at HR HP
    clear g3
    by_cases n2 : c.new = em
    · have HF : Hid (chgB s c = decide (c.ent = en0)) := hid (by rw [HR.out, decide_eq_true n2]; rfl)
      obtain ⟨t1, t2, t3⟩ := str_em n2
      clear n2
      go_wp2_with (go_at_call 53; first | ((with_reducible refine HN1.out.mono ?_); rintro e w' ⟨rfl, rfl⟩) | ((with_reducible refine HP.out.mono ?_); rintro e w' ⟨rfl, rfl⟩))
      refine HE1.out.mono ?_
      rintro e w2 ⟨rfl, hb2⟩
      go_wp2
      go_ret
      exact ⟨ret_bool HF.out.symm, HBW.out.trans (hb2.mono HBW.out.size)⟩
    · have HF : Hid (chgB s c = false) := hid (by rw [HR.out, decide_eq_false n2]; rfl)
      obtain ⟨t1, t2, t3⟩ := str_ne n2
      clear n2
      go_wp2_with (go_at_call 53; first | ((with_reducible refine HN1.out.mono ?_); rintro e w' ⟨rfl, rfl⟩) | ((with_reducible refine HP.out.mono ?_); rintro e w' ⟨rfl, rfl⟩))
      go_ret
      exact ⟨ret_bool HF.out.symm, HBW.out⟩
  rw [if_neg k4] at HR
  have j4 : (c.kind == 4) = false := by simpa using k4
  have HF : Hid (chgB s c = false) := hid (by rw [HR.out]; rfl)
  clear k12 k3 k4
  go_wp2_with (go_at_call 53; refine HN1.out.mono ?_; rintro e w' ⟨rfl, rfl⟩)
  go_ret
  exact ⟨ret_bool HF.out.symm, HBW.out⟩
end Go.Proofs.YtlbjbmpkaniojaaGreat
namespace Go.Proofs.YtlbjbmpkaniojaaGreat
open Go Go.RowKit Go.Maps
theorem RowK.from5 {w : World} {b o n cap : Nat} {xs : List Value} (h : RowK w (.slice (some ⟨b, o, none⟩) n cap) 5 n xs) {k : Nat} (hk : k ≤ n) : RowK w (.slice (some ⟨b, o + k * 5, none⟩) (n - k) (cap - k)) 5 (n - k) (xs.drop (k * 5)) := by
  obtain ⟨h1, a, c, h2, h3, h4, h5, h6⟩ := h
  simp only [Value.slice.injEq] at h2
  obtain ⟨rfl, _, rfl⟩ := h2
  refine ⟨by rw [List.length_drop, h1, Nat.sub_mul], _, _, rfl, by omega, by omega, (fun h => by cases h), fun j u hj => ?_⟩
  rw [List.getElem?_drop] at hj
  obtain ⟨b', o', h7, h8⟩ := h6 _ _ hj
  simp only [Option.some.injEq, Addr.mk.injEq, and_true] at h7
  obtain ⟨rfl, rfl⟩ := h7
  exact ⟨_, _, rfl, by rw [Nat.add_assoc]; exact h8⟩
theorem RowK.upTo5 {w : World} {b o n cap : Nat} {xs : List Value} (h : RowK w (.slice (some ⟨b, o, none⟩) n cap) 5 n xs) {k : Nat} (hk : k ≤ n) : RowK w (.slice (some ⟨b, o, none⟩) k cap) 5 k (xs.take (k * 5)) := by
  obtain ⟨h1, a, c, h2, h3, h4, h5, h6⟩ := h
  simp only [Value.slice.injEq] at h2
  obtain ⟨rfl, _, rfl⟩ := h2
  refine ⟨by rw [List.length_take, h1]; exact Nat.min_eq_left (Nat.mul_le_mul_right 5 hk), _, _, rfl, by omega, by omega, (fun h => by cases h), fun j u hj => ?_⟩
  rw [List.getElem?_take] at hj
  split at hj
  · exact h6 _ _ hj
  · cases hj
theorem RowK.nil5 (w : World) (b o c : Nat) : RowK w (.slice (some ⟨b, o, none⟩) 0 c) 5 0 [] := ⟨rfl, _, _, rfl, Nat.zero_le _, by simp, (fun h => by cases h), fun j u hj => by simp at hj⟩
theorem ents_one1 {w : World} {vs : List V3} {l : List En} (h : ∀ (j : Nat) (h : j < l.length) (h' : j < vs.length), EntAt w vs[j].1 vs[j].2.1 vs[j].2.2 l[j]) (hl : vs.length = l.length) : ∀ u ∈ ensC l vs, u.oneCell' = true := by
  intro u hu
  obtain ⟨i, hi, rfl⟩ := List.getElem_of_mem hu
  rw [ensC_len l vs hl] at hi
  have hj : i / 5 < l.length := by omega
  have hjv : i / 5 < vs.length := by omega
  obtain ⟨g0, g1, g2, g3, g4⟩ := ensC_get l vs hl (i / 5) hj hjv
  have he := h (i / 5) hj hjv
  obtain ⟨a1, k1, e1, -⟩ := he.s.open
  obtain ⟨a2, k2, e2, -⟩ := he.u.open
  obtain ⟨a3, k3, e3, -⟩ := he.p.open
  have key : ∀ {r : Nat} {v : Value}, (ensC l vs)[r]? = some v → ∀ (hr : r < (ensC l vs).length), (ensC l vs)[r] = v := fun {r v} e hr => by rw [List.getElem?_eq_getElem hr] at e; exact Option.some.inj e
  have hm5 : i = i / 5 * 5 ∨ i = i / 5 * 5 + 1 ∨ i = i / 5 * 5 + 2 ∨ i = i / 5 * 5 + 3 ∨ i = i / 5 * 5 + 4 := by omega
  have hlt : i < (ensC l vs).length := by rw [ensC_len l vs hl]; exact hi
  rcases hm5 with e | e | e | e | e
  · have q := g0; rw [← e] at q; rw [key q hlt]; rfl
  · have q := g1; rw [← e] at q; rw [key q hlt]; rfl
  · have q := g2; rw [← e] at q; rw [key q hlt, e1]; rfl
  · have q := g3; rw [← e] at q; rw [key q hlt, e2]; rfl
  · have q := g4; rw [← e] at q; rw [key q hlt, e3]; rfl
set_option maxHeartbeats 8000000 in
set_option maxRecDepth 100000 in
theorem ref9_withoutV (vl : Value) (vs : List V3) (l : List En) (i : Nat) (w : World) (hi : i < l.length) (hl : EntsV w vl vs l) (hl1 : l.length ≤ 1000) :
    Calls Tryz.prog 86 #[vl, .int .i64 i] w fun e w' => ∃ u, e = .returned u ∧ w'.ownsRow w.heap.size 41 5 u (l.eraseIdx i).length (ensC (l.eraseIdx i) (vs.eraseIdx i)) ∧ Below w.heap.size w w' := by
  obtain ⟨hrow, hlen, hents⟩ := hl
  obtain ⟨b, o, c, rfl, hnc⟩ : ∃ b o c, vl = .slice (some ⟨b, o, none⟩) l.length c ∧ l.length ≤ c := by
    obtain ⟨h1, a, c, h2, h3, h4, h5, h6⟩ := hrow
    have h0 : 0 < (ensC l vs).length := by rw [h1]; omega
    obtain ⟨b, o, e, -⟩ := h6 0 _ (List.getElem?_eq_getElem h0)
    subst e
    exact ⟨b, o, c, h2, h3⟩
  have hone := ents_one1 hents hlen
  have hE0 := ensC_take_erase l vs hlen i hi
  have hel : (l.eraseIdx i).length = l.length - 1 := List.length_eraseIdx_of_lt hi
  have hev : (vs.eraseIdx i).length = vs.length - 1 := List.length_eraseIdx_of_lt (by omega)
  have HR1 := hid (fun (X : World) (hX : Below w.heap.size w X) => (hrow.upTo5 (k := i) (by omega)).below hX)
  have HR2 := hid (fun (X : World) (hX : Below w.heap.size w X) => (hrow.from5 (k := i + 1) (by omega)).below hX)
  have HO1 : Hid (∀ u ∈ (ensC l vs).take (i * 5), u.oneCell' = true) := hid (fun u hu => hone u (List.mem_of_mem_take hu))
  have HO2 : Hid (∀ u ∈ (ensC l vs).drop ((i + 1) * 5), u.oneCell' = true) := hid (fun u hu => hone u (List.mem_of_mem_drop hu))
  have hbA : Below w.heap.size w (w.alloc (.cells #[] 41)).drew := ((Below.refl _ _).alloc (Nat.le_refl _) _).drew
  have HBA := hid hbA
  have hownA := World.ownsRow_lit (base := w.heap.size) (e := 41) (size := 5) w #[] 0 (Nat.le_refl _) (by simp [maxLen]) rfl
  have HOWNA := hid (owns_below hownA ((below_self_drewN _ 1)))
  have HEQ := hid hE0
  have HEL := hid hel
  have HEV := hid (show (vs.eraseIdx i).length = (l.eraseIdx i).length by omega)
  have q1 : 0 + i ≤ 140737488355328 := by omega
  have q2 : (0 + i) * 88 ≤ 140737488355328 := by omega
  have q3 : w.heap.size ≤ (w.alloc (.cells #[] 41)).drew.heap.size := by simp
  have q4 : 0 + i + (l.length - (i + 1)) ≤ 140737488355328 := by omega
  have q5 : (0 + i + (l.length - (i + 1))) * 88 ≤ 140737488355328 := by omega
  have y0 : (0 : Int) ≤ (i : Int) := by omega
  have y1 : (i : Int) ≤ (l.length : Int) := by omega
  have y2 : (i : Int) ≤ (c : Int) := by omega
  have y3 : (i : Int) + 1 ≤ (l.length : Int) := by omega
  have y4 : (i : Int) + 1 ≤ (c : Int) := by omega
  have y5 : (0 : Int) ≤ (i : Int) + 1 := by omega
  have y6 : ((i : Int) + 1).toNat = i + 1 := by omega
  have y7 : IntKind.i64.wrap ((i : Int) + 1) = (i : Int) + 1 := by rw [IntWalk.i64_in _ (by omega)]
  by_cases hc1 : c = i + 1
  · subst hc1
    have hc4 : l.length = i + 1 := by omega
    have y8 : (i : Int) ≤ (i : Int) + 1 := by omega
    have HDN : Hid ((ensC l vs).drop ((i + 1) * 5) = []) := hid (List.drop_of_length_le (by rw [ensC_len l vs hlen, hc4]; exact Nat.le_refl _))
    clear hrow hlen hents hone hE0 hel hev hbA hownA
    go_enter Tryz.func86, Tryz.ntmps86
    go_wp2
    go_region_law (first
      | (refine step_append_row rfl (.tmp 5) (.tmp 8) 24 rfl w.heap.size 41 el_ent Tryz.underlying24 rfl (by decide) _ _ _ rfl HOWNA.out _ i ((ensC l vs).take (i * 5)) rfl (HR1.out _ HBA.out) HO1.out q1 (by omega) q3 ?_
         intro v8 w8 hown8 hgrow8
         have hb8 : Below w.heap.size w w8 := HBA.out.grown hgrow8 q3 (fun q hq => (HOWNA.out.lt q hq).1)
         have hsz8 := hb8.size)
      | (refine step_append_row rfl (.tmp 9) (.tmp 13) 24 rfl w.heap.size 41 el_ent Tryz.underlying24 rfl (by decide) _ _ _ rfl hown8 _ 0 [] rfl (RowK.nil5 _ b o 0) (fun u hu => by cases hu) (by omega) (by omega) hsz8 ?_
         intro v9 w9 hown9 hgrow9
         have hb9 : Below w.heap.size w w9 := hb8.grown hgrow9 hb8.size (fun q hq => (hown8.lt q hq).1)
         have HO9 := hid hown9
         have HB9 := hid hb9
         clear hown8 hgrow8 hown9 hgrow9 hb8 hb9))
    go_wp2
    go_ret
    have hown : w9.ownsRow w.heap.size 41 5 v9 (l.eraseIdx i).length (ensC (l.eraseIdx i) (vs.eraseIdx i)) := by
      have h := HO9.out
      have e1 : 0 + i + 0 = (l.eraseIdx i).length := by have := HEL.out; omega
      rw [e1] at h
      rw [HEQ.out, HDN.out, ← List.nil_append ((ensC l vs).take (i * 5))]
      exact h
    exact ⟨_, rfl, hown, HB9.out⟩
  · have hc2 : i + 1 < c := by omega
    have hc3 : ¬ c = i + 1 := hc1
    clear hrow hlen hents hone hE0 hel hev hbA hownA
    go_enter Tryz.func86, Tryz.ntmps86
    go_wp2
    go_region_law (first
      | (refine step_append_row rfl (.tmp 5) (.tmp 8) 24 rfl w.heap.size 41 el_ent Tryz.underlying24 rfl (by decide) _ _ _ rfl HOWNA.out _ i ((ensC l vs).take (i * 5)) rfl (HR1.out _ HBA.out) HO1.out q1 (by omega) q3 ?_
         intro v8 w8 hown8 hgrow8
         have hb8 : Below w.heap.size w w8 := HBA.out.grown hgrow8 q3 (fun q hq => (HOWNA.out.lt q hq).1)
         have hsz8 := hb8.size)
      | (refine step_append_row rfl (.tmp 9) (.tmp 13) 24 rfl w.heap.size 41 el_ent Tryz.underlying24 rfl (by decide) _ _ _ rfl hown8 _ (l.length - (i + 1)) ((ensC l vs).drop ((i + 1) * 5)) rfl (HR2.out _ hb8) HO2.out q4 (by omega) hsz8 ?_
         intro v9 w9 hown9 hgrow9
         have hb9 : Below w.heap.size w w9 := hb8.grown hgrow9 hb8.size (fun q hq => (hown8.lt q hq).1)
         have HO9 := hid hown9
         have HB9 := hid hb9
         clear hown8 hgrow8 hown9 hgrow9 hb8 hb9))
    go_wp2
    go_ret
    have hown : w9.ownsRow w.heap.size 41 5 v9 (l.eraseIdx i).length (ensC (l.eraseIdx i) (vs.eraseIdx i)) := by
      have h := HO9.out
      have e1 : 0 + i + (l.length - (i + 1)) = (l.eraseIdx i).length := by have := HEL.out; omega
      rw [e1] at h
      rw [HEQ.out, ← List.nil_append ((ensC l vs).take (i * 5))]
      exact h
    exact ⟨_, rfl, hown, HB9.out⟩
theorem EntsV.erase {w : World} {v : Value} {vs : List V3} {l : List En} (h : EntsV w v vs l) (i : Nat) (hi : i < l.length) (j : Nat) (h1 : j < (l.eraseIdx i).length) (h2 : j < (vs.eraseIdx i).length) : EntAt w (vs.eraseIdx i)[j].1 (vs.eraseIdx i)[j].2.1 (vs.eraseIdx i)[j].2.2 (l.eraseIdx i)[j] := by
  have hel : (l.eraseIdx i).length = l.length - 1 := List.length_eraseIdx_of_lt hi
  have hlen := h.2.1
  rw [List.getElem_eraseIdx, List.getElem_eraseIdx]
  split
  · exact h.2.2 j (by omega) (by omega)
  · exact h.2.2 (j + 1) (by omega) (by omega)
theorem ref9_without (vl : Value) (l : List En) (i : Nat) (w : World) (hi : i < l.length) (hl : EntsAt w vl l) (hl1 : l.length ≤ 1000) :
    Calls Tryz.prog 86 #[vl, .int .i64 i] w fun e w' => ∃ u, e = .returned u ∧ EntsAt w' u (l.eraseIdx i) ∧ Below w.heap.size w w' := by
  obtain ⟨vs, hv⟩ := hl
  refine (ref9_withoutV vl vs l i w hi hv hl1).mono ?_
  rintro e w' ⟨u, rfl, ho, hb⟩
  have hel : (l.eraseIdx i).length = l.length - 1 := List.length_eraseIdx_of_lt hi
  have hev : (vs.eraseIdx i).length = vs.length - 1 := List.length_eraseIdx_of_lt (by have := hv.2.1; omega)
  exact ⟨_, rfl, ⟨vs.eraseIdx i, RowK.of_owns ho (by omega), by have := hv.2.1; omega, (hv.below hb).erase i hi⟩, hb⟩
end Go.Proofs.YtlbjbmpkaniojaaGreat
namespace Go.Proofs.YtlbjbmpkaniojaaGreat
open Go Go.RowKit Go.Maps
/-- what Do answers: an edition in memory of its own. -/
def DoQ (R : List En × Int) (w : World) (e : Ending) (w' : World) : Prop := ∃ u vs B, w.heap.size ≤ B ∧ e = .returned (.tuple #[u, .int .i64 R.2]) ∧ EnW w' B u vs R.1 ∧ Below w.heap.size w w'
theorem DoQ.no {R : List En × Int} {w w' : World} {er : Int} (hR : R = ([], er)) (h : Below w.heap.size w w') : DoQ R w (.returned (.tuple #[.slice none 0 0, .int .i64 er])) w' := by
  subst hR; exact ⟨_, [], w.heap.size, Nat.le_refl _, rfl, EnW.nil _ _, h⟩
theorem DoQ.yes {R : List En × Int} {w w' : World} {L : List En} {B : Nat} {u : Value} {vs : List V3} (hR : R = (L, 0)) (hB : w.heap.size ≤ B) (hE : EnW w' B u vs L) (h : Below w.heap.size w w') : DoQ R w (.returned (.tuple #[u, .int .i64 0])) w' := by
  subst hR; exact ⟨u, vs, B, hB, rfl, hE, h⟩
theorem DoQ.ents {R : List En × Int} {w w' : World} {e : Ending} (h : DoQ R w e w') (hl : R.1.length ≤ 1000) : ∃ u, e = .returned (.tuple #[u, .int .i64 R.2]) ∧ EntsAt w' u R.1 ∧ Below w.heap.size w w' := by
  obtain ⟨u, vs, B, -, h1, h2, h3⟩ := h
  exact ⟨u, h1, h2.ents hl, h3⟩
set_option maxHeartbeats 4000000 in
set_option maxRecDepth 100000 in
theorem ref9_Do1 (vl : Value) (l : List En) (c : Chg) (vS vU vP : Value) (w : World) (hl : EntsAt w vl l) (hc : ChgAt w vS vU vP c) (hk : c.kind = 1) (hl60 : l.length ≤ 60) (hok : ∀ x ∈ l, EnSm x) (hsm : EnSm c.ent) :
    Calls Tryz.prog 77 #[vl, chV c vS vU vP] w fun e w' => DoQ (doI l c (idxN l (nameC c))) w e w' := by
  obtain ⟨ck, cw, cn, cm, ce⟩ := c; have hk : ck = 1 := hk; subst hk; obtain ⟨sa, sc, rfl, -⟩ := hc.e.s.open; obtain ⟨ua, uc, rfl, -⟩ := hc.e.u.open; obtain ⟨pa, pc, rfl, -⟩ := hc.e.p.open; unfold chV; dsimp only; have hCB := CB.new w ⟨1, cw, cn, cm, ce⟩ (.slice sa ce.says.length sc) (.slice ua ce.uses.length uc) (.slice pa ce.proof.length pc) 43; obtain ⟨V, hV⟩ : ∃ V, w.alloc (.cells #[.int .i64 1, .string cw, .string cn, .string cm, .string ce.name, .string ce.who, .slice sa ce.says.length sc, .slice ua ce.uses.length uc, .slice pa ce.proof.length pc] 43) = V := ⟨_, rfl⟩; have hbV : Below w.heap.size w V := hV ▸ (Below.refl _ _).alloc (Nat.le_refl _) _; have hV' : w.alloc (.cells #[.int .i64 (Chg.mk 1 cw cn cm ce).kind, .string (Chg.mk 1 cw cn cm ce).who, .string (Chg.mk 1 cw cn cm ce).name, .string (Chg.mk 1 cw cn cm ce).new, .string (Chg.mk 1 cw cn cm ce).ent.name, .string (Chg.mk 1 cw cn cm ce).ent.who, .slice sa ce.says.length sc, .slice ua ce.uses.length uc, .slice pa ce.proof.length pc] 43) = V := hV; rw [hV'] at hCB; have HCV := hid (hc.below hbV); have HLV := hid (hl.below hbV); have HCB := hid hCB; have HW := hid hV; have HBV := hid hbV; obtain ⟨c0, c1, c2, c3, c4, c5, c6, c7, c8⟩ := hCB; dsimp only at c0 c1 c2 c3 c4 c5; obtain ⟨la, lc, rfl, -, ll, -, HC⟩ := hl.open; have HC' := hid HC; clear hV hV' hbV hc hl HC
  have hnm : nameC ⟨1, cw, cn, cm, ce⟩ = ce.name := by unfold nameC; rw [if_pos (Or.inl rfl)]
  rw [hnm]
  clear hnm
  have HIX := hid (ref6_Index _ l ce.name V HLV.out)
  have HPT := hid (ref9_putW _ _ _ _ l ce V HLV.out HCV.out.e (by omega) hok hsm)
  cases hi : idxN l ce.name with
  | some i =>
    have HF : Hid (doI l ⟨1, cw, cn, cm, ce⟩ (some i) = ([], 6)) := hid (by unfold doI; rfl)
    rw [idxI_some hi] at HIX
    clear hi
    have b0 : (0 : Int) ≤ (i : Int) := by omega
    go_enter Tryz.func77, Tryz.ntmps77
    go_wp2_with (first | rw [HW.out] | (go_at_call 51; refine HIX.out.mono ?_; rintro e w' ⟨rfl, rfl⟩))
    go_ret2
    exact DoQ.no (HF.out.trans rfl) HBV.out
  | none =>
    rw [idxI_no hi] at HIX
    clear hi
    by_cases h60 : 60 ≤ l.length
    · have HF : Hid (doI l ⟨1, cw, cn, cm, ce⟩ none = ([], 4)) := hid (by unfold doI; rw [if_pos rfl]; simp [h60])
      have b1 : (60 : Int) ≤ (l.length : Int) := by omega
      clear h60
      go_enter Tryz.func77, Tryz.ntmps77
      go_wp2_with (first | rw [HW.out] | (go_at_call 51; refine HIX.out.mono ?_; rintro e w' ⟨rfl, rfl⟩))
      go_ret2
      exact DoQ.no (HF.out.trans rfl) HBV.out
    · have HF : Hid (doI l ⟨1, cw, cn, cm, ce⟩ none = (putE ce l, 0)) := hid (by unfold doI; rw [if_pos rfl]; simp [h60])
      have b1 : ¬ (60 : Int) ≤ (l.length : Int) := by omega
      clear h60
      go_enter Tryz.func77, Tryz.ntmps77
      go_wp2_with (first | rw [HW.out] | (go_at_call 51; refine HIX.out.mono ?_; rintro e w' ⟨rfl, rfl⟩))
      refine HPT.out.mono ?_
      rintro e w2 ⟨u, vsu, Bu, hBu, rfl, hu, hb2⟩
      have HU := hid hu
      have HLE := hid (Nat.le_trans HBV.out.size hBu)
      have HB2 := hid (HBV.out.trans (hb2.mono HBV.out.size))
      obtain ⟨ra, rc, rfl⟩ := hu.slice
      clear hu hb2
      go_wp2
      go_ret2
      exact DoQ.yes (HF.out.trans rfl) HLE.out HU.out HB2.out
set_option maxHeartbeats 8000000 in
set_option maxRecDepth 100000 in
theorem ref9_Do2 (vl : Value) (l : List En) (c : Chg) (vS vU vP : Value) (w : World) (hl : EntsAt w vl l) (hc : ChgAt w vS vU vP c) (hk : c.kind = 2) (hl60 : l.length ≤ 60) (hok : ∀ x ∈ l, EnSm x) (hsm : EnSm c.ent) :
    Calls Tryz.prog 77 #[vl, chV c vS vU vP] w fun e w' => DoQ (doI l c (idxN l (nameC c))) w e w' := by
  obtain ⟨ck, cw, cn, cm, ce⟩ := c; have hk : ck = 2 := hk; subst hk; obtain ⟨sa, sc, rfl, -⟩ := hc.e.s.open; obtain ⟨ua, uc, rfl, -⟩ := hc.e.u.open; obtain ⟨pa, pc, rfl, -⟩ := hc.e.p.open; unfold chV; dsimp only; have hCB := CB.new w ⟨2, cw, cn, cm, ce⟩ (.slice sa ce.says.length sc) (.slice ua ce.uses.length uc) (.slice pa ce.proof.length pc) 43; obtain ⟨V, hV⟩ : ∃ V, w.alloc (.cells #[.int .i64 2, .string cw, .string cn, .string cm, .string ce.name, .string ce.who, .slice sa ce.says.length sc, .slice ua ce.uses.length uc, .slice pa ce.proof.length pc] 43) = V := ⟨_, rfl⟩; have hbV : Below w.heap.size w V := hV ▸ (Below.refl _ _).alloc (Nat.le_refl _) _; have hV' : w.alloc (.cells #[.int .i64 (Chg.mk 2 cw cn cm ce).kind, .string (Chg.mk 2 cw cn cm ce).who, .string (Chg.mk 2 cw cn cm ce).name, .string (Chg.mk 2 cw cn cm ce).new, .string (Chg.mk 2 cw cn cm ce).ent.name, .string (Chg.mk 2 cw cn cm ce).ent.who, .slice sa ce.says.length sc, .slice ua ce.uses.length uc, .slice pa ce.proof.length pc] 43) = V := hV; rw [hV'] at hCB; have HCV := hid (hc.below hbV); have HLV := hid (hl.below hbV); have HCB := hid hCB; have HW := hid hV; have HBV := hid hbV; obtain ⟨c0, c1, c2, c3, c4, c5, c6, c7, c8⟩ := hCB; dsimp only at c0 c1 c2 c3 c4 c5; obtain ⟨la, lc, rfl, -, ll, -, HC⟩ := hl.open; have HC' := hid HC; clear hV hV' hbV hc hl HC
  have hnm : nameC ⟨2, cw, cn, cm, ce⟩ = ce.name := by unfold nameC; rw [if_pos (Or.inr rfl)]
  rw [hnm]
  clear hnm
  have HIX := hid (ref6_Index _ l ce.name V HLV.out)
  have HPT := hid (fun (X : World) (hX : Below V.heap.size V X) (u : Value) (L : List En) (hu : EntsAt X u L) (h1 : L.length ≤ 900) (h2 : ∀ x ∈ L, EnSm x) => (ref9_putW u _ _ _ L ce X hu (HCV.out.e.below hX) h1 h2 hsm).mono fun e w' ⟨u', vs', B', q1, q2, q3, q4⟩ => (show ∃ u vs B, V.heap.size ≤ B ∧ e = Ending.returned u ∧ EnW w' B u vs (putE ce L) ∧ Below X.heap.size X w' from ⟨u', vs', B', Nat.le_trans hX.size q1, q2, q3, q4⟩))
  cases hi : idxN l ce.name with
  | none =>
    have HF : Hid (doI l ⟨2, cw, cn, cm, ce⟩ none = ([], 5)) := hid (by unfold doI; rfl)
    rw [idxI_no hi] at HIX
    clear hi
    go_enter Tryz.func77, Tryz.ntmps77
    go_wp2_with (first | rw [HW.out] | (go_at_call 51; refine HIX.out.mono ?_; rintro e w' ⟨rfl, rfl⟩))
    go_ret2
    exact DoQ.no (HF.out.trans rfl) HBV.out
  | some i =>
    obtain ⟨hil, hin⟩ := idxN_some hi
    rw [idxI_some hi] at HIX
    clear hi
    have HFY : Hid (l[i] = ce → doI l ⟨2, cw, cn, cm, ce⟩ (some i) = ([], 8)) := hid (fun h => by unfold doI; rw [if_neg (by simp)]; simp only [if_pos]; rw [if_pos (by rw [getD_at hil]; exact h)])
    have HFN : Hid (l[i] ≠ ce → doI l ⟨2, cw, cn, cm, ce⟩ (some i) = (putE ce (l.eraseIdx i), 0)) := hid (fun h => by unfold doI; rw [if_neg (by simp)]; simp only [if_pos]; rw [if_neg (by rw [getD_at hil]; exact h)])
    have b0 : ¬ (i : Int) < 0 := by omega
    have b1 : (0 : Int) ≤ (i : Int) := by omega
    have b2 : (i : Int) < (l.length : Int) := by omega
    have HWI := hid (fun (X : World) (hX : Below V.heap.size V X) => ref9_without _ l i X hil (HLV.out.below hX) (by omega))
    have HER := hid (show (l.eraseIdx i).length ≤ 900 from Nat.le_trans (List.eraseIdx_sublist l i).length_le (by omega))
    have HES := hid (fun x (hx : x ∈ l.eraseIdx i) => hok x (List.mem_of_mem_eraseIdx hx))
    obtain ⟨lb, lo, xS, xU, xP, rfl, n0, n1, n2, n3, n4, he⟩ := HC'.out i hil
    replace n0 := (HBV.out.cell (World.block_lt_of_cell? _ _ n0)).trans n0
    replace n1 := (HBV.out.cell (World.block_lt_of_cell? _ _ n1)).trans n1
    replace n2 := (HBV.out.cell (World.block_lt_of_cell? _ _ n2)).trans n2
    replace n3 := (HBV.out.cell (World.block_lt_of_cell? _ _ n3)).trans n3
    replace n4 := (HBV.out.cell (World.block_lt_of_cell? _ _ n4)).trans n4
    have HSE := hid (fun (X : World) (hX : Below V.heap.size V X) => ref6_SameEntry xS xU xP (.slice sa ce.says.length sc) (.slice ua ce.uses.length uc) (.slice pa ce.proof.length pc) l[i] ce X ((he.below HBV.out).below hX) (HCV.out.e.below hX))
    obtain ⟨s1, t1, rfl, -⟩ := he.s.open
    obtain ⟨s2, t2, rfl, -⟩ := he.u.open
    obtain ⟨s3, t3, rfl, -⟩ := he.p.open
    obtain ⟨y, hy⟩ : ∃ y, l[i] = y := ⟨_, rfl⟩
    rw [hy] at n0 n1 n2 n3 n4 HSE HFY HFN
    obtain ⟨bb, hbb⟩ : ∃ bb, decide (y = ce) = bb := ⟨_, rfl⟩
    simp only [hbb] at HSE
    have N0 := hid n0
    have N1 := hid n1
    have N2 := hid n2
    have N3 := hid n3
    have N4 := hid n4
    have C0 := hid c0
    have C4 := hid c4
    have C5 := hid c5
    have C6 := hid c6
    have C7 := hid c7
    have C8 := hid c8
    clear he hy hin hok hsm
    go_enter Tryz.func77, Tryz.ntmps77
    go_wp2_with (first | rw [HW.out] | (go_at_call 51; refine HIX.out.mono ?_; rintro e w' ⟨rfl, rfl⟩))
    go_region_held3 (fun w' => w'.cell? ⟨lb, lo + i * 5, none⟩ = some (.string y.name) ∧ w'.cell? ⟨lb, lo + i * 5 + 1, none⟩ = some (.string y.who) ∧ w'.cell? ⟨lb, lo + i * 5 + 2, none⟩ = some (.slice s1 y.says.length t1) ∧ w'.cell? ⟨lb, lo + i * 5 + 3, none⟩ = some (.slice s2 y.uses.length t2) ∧ w'.cell? ⟨lb, lo + i * 5 + 4, none⟩ = some (.slice s3 y.proof.length t3) ∧
        w'.cell? ⟨w.heap.size, 4, none⟩ = some (.string ce.name) ∧ w'.cell? ⟨w.heap.size, 5, none⟩ = some (.string ce.who) ∧ w'.cell? ⟨w.heap.size, 6, none⟩ = some (.slice sa ce.says.length sc) ∧ w'.cell? ⟨w.heap.size, 7, none⟩ = some (.slice ua ce.uses.length uc) ∧ w'.cell? ⟨w.heap.size, 8, none⟩ = some (.slice pa ce.proof.length pc))
      (first | exact ⟨by assumption, by assumption, by assumption, by assumption, by assumption, by assumption, by assumption, by assumption, by assumption, by assumption⟩ | go_keep)
      (first | (go_at_call 52; (with_reducible refine (HSE.out _ (by (repeat (first | with_reducible assumption | with_reducible exact Below.refl _ _ | with_reducible exact below_self_drewN _ _ | with_reducible refine Below.drew ?_ | with_reducible refine below_drewN ?_ _ | (with_reducible refine Below.alloc ?_ ?_ _; rotate_left; focus (first | (simp; done) | omega | (simp; omega))))))).mono ?_); rintro e wz ⟨rfl, hbz⟩; have hbr : Below V.heap.size V wz := Below.trans (by (repeat (first | with_reducible assumption | with_reducible exact Below.refl _ _ | with_reducible exact below_self_drewN _ _ | with_reducible refine Below.drew ?_ | with_reducible refine below_drewN ?_ _ | (with_reducible refine Below.alloc ?_ ?_ _; rotate_left; focus (first | (simp; done) | omega | (simp; omega)))))) (hbz.mono (by (first | (simp; done) | omega | (simp; omega)))); have n0 := (hbr.cell (World.block_lt_of_cell? _ _ N0.out)).trans N0.out; have n1 := (hbr.cell (World.block_lt_of_cell? _ _ N1.out)).trans N1.out; have n2 := (hbr.cell (World.block_lt_of_cell? _ _ N2.out)).trans N2.out; have n3 := (hbr.cell (World.block_lt_of_cell? _ _ N3.out)).trans N3.out; have n4 := (hbr.cell (World.block_lt_of_cell? _ _ N4.out)).trans N4.out; have c4 := (hbr.cell (World.block_lt_of_cell? _ _ C4.out)).trans C4.out; have c5 := (hbr.cell (World.block_lt_of_cell? _ _ C5.out)).trans C5.out; have c6 := (hbr.cell (World.block_lt_of_cell? _ _ C6.out)).trans C6.out; have c7 := (hbr.cell (World.block_lt_of_cell? _ _ C7.out)).trans C7.out; have c8 := (hbr.cell (World.block_lt_of_cell? _ _ C8.out)).trans C8.out))
    have HBZ := hid hbr
    have HBWZ := hid (HBV.out.trans (hbr.mono HBV.out.size))
    cases bb
    case true =>
      have HF := hid (HFY.out (of_decide_eq_true hbb))
      clear hbb n0 n1 n2 n3 n4 hbr
      go_wp2
      go_ret2
      exact DoQ.no (HF.out.trans rfl) HBWZ.out
    case false =>
      have HF := hid (HFN.out (of_decide_eq_false hbb))
      have hbz0 := HBZ.out
      have hvz := HBZ.out.size
      clear n0 n1 n2 n3 n4 hbr c0 c1 c2 c3
      go_wp2
      go_region_held3 (fun w' => w'.cell? ⟨w.heap.size, 4, none⟩ = some (.string ce.name) ∧ w'.cell? ⟨w.heap.size, 5, none⟩ = some (.string ce.who) ∧ w'.cell? ⟨w.heap.size, 6, none⟩ = some (.slice sa ce.says.length sc) ∧ w'.cell? ⟨w.heap.size, 7, none⟩ = some (.slice ua ce.uses.length uc) ∧ w'.cell? ⟨w.heap.size, 8, none⟩ = some (.slice pa ce.proof.length pc))
        (first | exact ⟨by assumption, by assumption, by assumption, by assumption, by assumption⟩ | go_keep)
        (first
          | (go_at_call 86; (with_reducible refine (HWI.out _ (by (repeat (first | with_reducible assumption | with_reducible exact Below.refl _ _ | with_reducible exact below_self_drewN _ _ | with_reducible refine Below.drew ?_ | with_reducible refine below_drewN ?_ _ | (with_reducible refine Below.alloc ?_ ?_ _; rotate_left; focus (first | (simp; done) | omega | (simp; omega))))))).mono ?_); rintro e wa ⟨u, rfl, hu, hba⟩; have hbra : Below V.heap.size V wa := Below.trans (by (repeat (first | with_reducible assumption | with_reducible exact Below.refl _ _ | with_reducible exact below_self_drewN _ _ | with_reducible refine Below.drew ?_ | with_reducible refine below_drewN ?_ _ | (with_reducible refine Below.alloc ?_ ?_ _; rotate_left; focus (first | (simp; done) | omega | (simp; omega)))))) (hba.mono (by first | exact hvz | (first | (simp; done) | omega | (simp; omega)))); have HU := hid hu; have hvz := Nat.le_trans hvz hba.size; have c4 := (hbra.cell (World.block_lt_of_cell? _ _ C4.out)).trans C4.out; have c5 := (hbra.cell (World.block_lt_of_cell? _ _ C5.out)).trans C5.out; have c6 := (hbra.cell (World.block_lt_of_cell? _ _ C6.out)).trans C6.out; have c7 := (hbra.cell (World.block_lt_of_cell? _ _ C7.out)).trans C7.out; have c8 := (hbra.cell (World.block_lt_of_cell? _ _ C8.out)).trans C8.out)
          | (go_at_call 69; (with_reducible refine (HPT.out _ (by (repeat (first | with_reducible assumption | with_reducible exact Below.refl _ _ | with_reducible exact below_self_drewN _ _ | with_reducible refine Below.drew ?_ | with_reducible refine below_drewN ?_ _ | (with_reducible refine Below.alloc ?_ ?_ _; rotate_left; focus (first | (simp; done) | omega | (simp; omega)))))) _ _ (HU.out.below (by (repeat (first | with_reducible assumption | with_reducible exact Below.refl _ _ | with_reducible exact below_self_drewN _ _ | with_reducible refine Below.drew ?_ | with_reducible refine below_drewN ?_ _ | (with_reducible refine Below.alloc ?_ ?_ _; rotate_left; focus (first | (simp; done) | omega | (simp; omega))))))) HER.out HES.out).mono ?_); rintro e wp ⟨up, vsp, Bp, hBp, rfl, hup, hbp⟩; have hbrp : Below V.heap.size V wp := Below.trans (by (repeat (first | with_reducible assumption | with_reducible exact Below.refl _ _ | with_reducible exact below_self_drewN _ _ | with_reducible refine Below.drew ?_ | with_reducible refine below_drewN ?_ _ | (with_reducible refine Below.alloc ?_ ?_ _; rotate_left; focus (first | (simp; done) | omega | (simp; omega)))))) (hbp.mono (by first | exact hvz | exact hbra.size | (first | (simp; done) | omega | (simp; omega)))); have HUP := hid hup; have c4 := (hbrp.cell (World.block_lt_of_cell? _ _ C4.out)).trans C4.out; have c5 := (hbrp.cell (World.block_lt_of_cell? _ _ C5.out)).trans C5.out; have c6 := (hbrp.cell (World.block_lt_of_cell? _ _ C6.out)).trans C6.out; have c7 := (hbrp.cell (World.block_lt_of_cell? _ _ C7.out)).trans C7.out; have c8 := (hbrp.cell (World.block_lt_of_cell? _ _ C8.out)).trans C8.out))
      have HBP := hid (HBV.out.trans (hbrp.mono HBV.out.size))
      have HLE := hid (Nat.le_trans HBV.out.size hBp)
      obtain ⟨ra, rc, rfl⟩ := HUP.out.slice
      clear hu hba hup hbp
      go_wp2
      go_ret2
      exact DoQ.yes (HF.out.trans rfl) HLE.out HUP.out HBP.out
set_option maxHeartbeats 4000000 in
set_option maxRecDepth 100000 in
theorem ref9_Do4 (vl : Value) (l : List En) (c : Chg) (vS vU vP : Value) (w : World) (hl : EntsAt w vl l) (hc : ChgAt w vS vU vP c) (hk : c.kind = 4) (hl60 : l.length ≤ 60) (hok : ∀ x ∈ l, EnSm x) :
    Calls Tryz.prog 77 #[vl, chV c vS vU vP] w fun e w' => DoQ (doI l c (idxN l (nameC c))) w e w' := by
  obtain ⟨ck, cw, cn, cm, ce⟩ := c; have hk : ck = 4 := hk; subst hk; obtain ⟨sa, sc, rfl, -⟩ := hc.e.s.open; obtain ⟨ua, uc, rfl, -⟩ := hc.e.u.open; obtain ⟨pa, pc, rfl, -⟩ := hc.e.p.open; unfold chV; dsimp only; have hCB := CB.new w ⟨4, cw, cn, cm, ce⟩ (.slice sa ce.says.length sc) (.slice ua ce.uses.length uc) (.slice pa ce.proof.length pc) 43; obtain ⟨V, hV⟩ : ∃ V, w.alloc (.cells #[.int .i64 4, .string cw, .string cn, .string cm, .string ce.name, .string ce.who, .slice sa ce.says.length sc, .slice ua ce.uses.length uc, .slice pa ce.proof.length pc] 43) = V := ⟨_, rfl⟩; have hbV : Below w.heap.size w V := hV ▸ (Below.refl _ _).alloc (Nat.le_refl _) _; have hV' : w.alloc (.cells #[.int .i64 (Chg.mk 4 cw cn cm ce).kind, .string (Chg.mk 4 cw cn cm ce).who, .string (Chg.mk 4 cw cn cm ce).name, .string (Chg.mk 4 cw cn cm ce).new, .string (Chg.mk 4 cw cn cm ce).ent.name, .string (Chg.mk 4 cw cn cm ce).ent.who, .slice sa ce.says.length sc, .slice ua ce.uses.length uc, .slice pa ce.proof.length pc] 43) = V := hV; rw [hV'] at hCB; have HCV := hid (hc.below hbV); have HLV := hid (hl.below hbV); have HCB := hid hCB; have HW := hid hV; have HBV := hid hbV; obtain ⟨c0, c1, c2, c3, c4, c5, c6, c7, c8⟩ := hCB; dsimp only at c0 c1 c2 c3 c4 c5; obtain ⟨la, lc, rfl, -, ll, -, HC⟩ := hl.open; have HC' := hid HC; clear hV hV' hbV hc hl HC
  have hnm : nameC ⟨4, cw, cn, cm, ce⟩ = cn := by unfold nameC; rw [if_neg (by simp)]
  rw [hnm]
  clear hnm
  have HIX := hid (ref6_Index _ l cn V HLV.out)
  cases hi : idxN l cn with
  | none =>
    have HF : Hid (doI l ⟨4, cw, cn, cm, ce⟩ none = ([], 5)) := hid (by unfold doI; rfl)
    rw [idxI_no hi] at HIX
    clear hi
    go_enter Tryz.func77, Tryz.ntmps77
    go_wp2_with (first | rw [HW.out] | (go_at_call 51; refine HIX.out.mono ?_; rintro e w' ⟨rfl, rfl⟩))
    go_ret2
    exact DoQ.no (HF.out.trans rfl) HBV.out
  | some i =>
    obtain ⟨hil, hin⟩ := idxN_some hi
    rw [idxI_some hi] at HIX
    clear hi
    have b0 : ¬ (i : Int) < 0 := by omega
    have HUS := hid (ref9_used _ l cn i V HLV.out)
    have HWI := hid (ref9_without _ l i V hil HLV.out (by omega))
    have HER := hid (show (l.eraseIdx i).length ≤ 900 from Nat.le_trans (List.eraseIdx_sublist l i).length_le (by omega))
    have HES := hid (fun x (hx : x ∈ l.eraseIdx i) => hok x (List.mem_of_mem_eraseIdx hx))
    have HFI : Hid (doI l ⟨4, cw, cn, cm, ce⟩ (some i) = if usedI l cn i then ([], 10) else (l.eraseIdx i, 0)) := hid (by unfold doI; rw [if_neg (by simp)]; simp)
    obtain ⟨bb, hbb⟩ : ∃ bb, usedI l cn i = bb := ⟨_, rfl⟩
    rw [hbb] at HUS HFI
    clear hok hin hbb
    cases bb
    case true =>
      go_enter Tryz.func77, Tryz.ntmps77
      go_wp2_with (first | rw [HW.out] | (go_at_call 51; refine HIX.out.mono ?_; rintro e w' ⟨rfl, rfl⟩) | (go_at_call 81; refine HUS.out.mono ?_; rintro e w' ⟨rfl, rfl⟩))
      go_ret2
      exact DoQ.no (HFI.out.trans rfl) HBV.out
    case false =>
      go_enter Tryz.func77, Tryz.ntmps77
      go_wp2_with (first | rw [HW.out] | (go_at_call 51; refine HIX.out.mono ?_; rintro e w' ⟨rfl, rfl⟩) | (go_at_call 81; refine HUS.out.mono ?_; rintro e w' ⟨rfl, rfl⟩))
      refine HWI.out.mono ?_
      rintro e wa ⟨u, rfl, hu, hba⟩
      have HP2 := hid (ref9_put2 u (l.eraseIdx i) wa hu (by have := HER.out; omega) HES.out)
      have HBA := hid (HBV.out.trans (hba.mono HBV.out.size))
      clear hu hba
      go_wp2_with fail
      refine HP2.out.mono ?_
      rintro e wp ⟨up, vsp, rfl, hup, hbp⟩
      have HUP := hid hup
      have HLE := hid HBA.out.size
      have HBP := hid (HBA.out.trans (hbp.mono HBA.out.size))
      obtain ⟨ra, rc, rfl⟩ := HUP.out.slice
      clear hup hbp
      go_wp2
      go_ret2
      exact DoQ.yes (HFI.out.trans rfl) HLE.out HUP.out HBP.out
end Go.Proofs.YtlbjbmpkaniojaaGreat
namespace Go.Proofs.YtlbjbmpkaniojaaGreat
open Go Go.RowKit Go.Maps
theorem EntO.useSet {w : World} {base : Nat} {vS vP : Value} {x : En} {b n c i : Nat} (h : EntO w base vS (.slice (some ⟨b, 0, none⟩) n c) vP x) (hi : i < x.uses.length) (m : Nm) (hm : m.size ≤ 140737488355328) :
    EntO (w.setCell ⟨b, i, none⟩ (.string m)) base vS (.slice (some ⟨b, 0, none⟩) n c) vP { x with uses := x.uses.set i m } := by
  have hS := h.u
  have hn : n = x.uses.length := by
    obtain ⟨a', c', e⟩ := owns_slice hS; cases e; rfl
  subst hn
  have hS1 := (hS.stored i (.string m)).1
  have hother : ∀ q, q ≠ b → (w.setCell ⟨b, i, none⟩ (.string m)).heap[q]? = w.heap[q]? := fun q hq => Below.heap_setCell _ _ _ _ hq
  refine ⟨?_, ?_, ?_, h.ls, by rw [List.length_set]; exact h.lu, h.lp, fun y hy => ?_, h.n1, h.n2⟩
  · exact owns_blocks h.s fun q _ _ hq => hother q fun e => owns_ne h.s h.u (by decide) hq (by rw [e]; rfl)
  · rw [List.length_set, List.map_set]
    exact hS1
  · exact owns_blocks h.p fun q _ _ hq => hother q fun e => owns_ne h.p h.u (by decide) hq (by rw [e]; rfl)
  · rcases List.mem_or_eq_of_mem_set hy with h' | rfl
    · exact h.nu y h'
    · exact hm
theorem EntO.named {w : World} {base : Nat} {vS vU vP : Value} {x : En} (h : EntO w base vS vU vP x) {m : Nm} (hm : m.size ≤ 140737488355328) : EntO w base vS vU vP { x with name := m } := ⟨h.s, h.u, h.p, h.ls, h.lu, h.lp, h.nu, hm, h.n2⟩
theorem EntO.blk {w : World} {base : Nat} {vS vP : Value} {x : En} {a : Option Addr} {n c : Nat} (h : EntO w base vS (.slice a n c) vP x) (h0 : 0 < x.uses.length) : ∃ b, a = some ⟨b, 0, none⟩ ∧ base ≤ b ∧ b < w.heap.size := by
  rcases h.u.2 with ⟨-, h1⟩ | ⟨g, cap, cur, e, hg, h3, h4, -⟩
  · omega
  · cases e; exact ⟨g, rfl, hg, (h.u.lt g rfl).2⟩
/-- the uses behind j rounds. -/
def usJ (n m : Nm) (us : List Nm) (j : Nat) : List Nm := (us.take j).map (renN n m) ++ us.drop j
theorem usJ_len (n m : Nm) (us : List Nm) (j : Nat) : (usJ n m us j).length = us.length := by
  unfold usJ; rw [List.length_append, List.length_map, List.length_take, List.length_drop]; omega
theorem usJ_get {n m : Nm} {us : List Nm} {j : Nat} (hj : j < us.length) : (usJ n m us j)[j]? = some us[j] := by
  unfold usJ
  rw [List.getElem?_append_right (by rw [List.length_map, List.length_take]; omega), List.length_map, List.length_take, Nat.min_eq_left (by omega), Nat.sub_self, List.getElem?_drop, Nat.add_zero, List.getElem?_eq_getElem hj]
theorem usJ_next {n m : Nm} {us : List Nm} {j : Nat} (hj : j < us.length) : usJ n m us (j + 1) = (usJ n m us j).set j (renN n m us[j]) := by
  unfold usJ
  have h1 : ((us.take j).map (renN n m)).length = j := by rw [List.length_map, List.length_take]; omega
  rw [List.take_succ_eq_append_getElem hj, List.map_append, List.append_assoc, List.set_append_right _ _ (by rw [h1]; exact Nat.le_refl _), h1, Nat.sub_self, List.drop_eq_getElem_cons hj]
  rfl
theorem usJ_same {n m : Nm} {us : List Nm} {j : Nat} (hj : j < us.length) (h : us[j] ≠ n) : usJ n m us (j + 1) = usJ n m us j := by
  rw [usJ_next hj]
  have e : renN n m us[j] = us[j] := by unfold renN; rw [if_neg h]
  rw [e]
  refine List.ext_getElem? fun k => ?_
  rw [List.getElem?_set]
  by_cases hk : j = k
  · subst hk; rw [if_pos rfl, if_pos (by rw [usJ_len]; exact hj), usJ_get hj]
  · rw [if_neg hk]
theorem usJ_all (n m : Nm) (us : List Nm) : usJ n m us us.length = us.map (renN n m) := by unfold usJ; rw [List.take_length, List.drop_length, List.append_nil]
theorem usJ_zero (n m : Nm) (us : List Nm) : usJ n m us 0 = us := rfl
set_option maxHeartbeats 8000000 in
set_option maxRecDepth 100000 in
theorem ref9_Do3 (vl : Value) (l : List En) (c : Chg) (vS vU vP : Value) (w : World) (hl : EntsAt w vl l) (hc : ChgAt w vS vU vP c) (hk : c.kind = 3) (hl60 : l.length ≤ 60) (hok : ∀ x ∈ l, EnSm x) (hnd : (l.map En.name).Nodup) :
    Calls Tryz.prog 77 #[vl, chV c vS vU vP] w fun e w' => DoQ (doI l c (idxN l (nameC c))) w e w' := by
  obtain ⟨ck, cw, cn, cm, ce⟩ := c; have hk : ck = 3 := hk; subst hk; obtain ⟨sa, sc, rfl, -⟩ := hc.e.s.open; obtain ⟨ua, uc, rfl, -⟩ := hc.e.u.open; obtain ⟨pa, pc, rfl, -⟩ := hc.e.p.open; unfold chV; dsimp only; have hCB := CB.new w ⟨3, cw, cn, cm, ce⟩ (.slice sa ce.says.length sc) (.slice ua ce.uses.length uc) (.slice pa ce.proof.length pc) 43; obtain ⟨V, hV⟩ : ∃ V, w.alloc (.cells #[.int .i64 3, .string cw, .string cn, .string cm, .string ce.name, .string ce.who, .slice sa ce.says.length sc, .slice ua ce.uses.length uc, .slice pa ce.proof.length pc] 43) = V := ⟨_, rfl⟩; have hbV : Below w.heap.size w V := hV ▸ (Below.refl _ _).alloc (Nat.le_refl _) _; have hV' : w.alloc (.cells #[.int .i64 (Chg.mk 3 cw cn cm ce).kind, .string (Chg.mk 3 cw cn cm ce).who, .string (Chg.mk 3 cw cn cm ce).name, .string (Chg.mk 3 cw cn cm ce).new, .string (Chg.mk 3 cw cn cm ce).ent.name, .string (Chg.mk 3 cw cn cm ce).ent.who, .slice sa ce.says.length sc, .slice ua ce.uses.length uc, .slice pa ce.proof.length pc] 43) = V := hV; rw [hV'] at hCB; have HCV := hid (hc.below hbV); have HLV := hid (hl.below hbV); have HCB := hid hCB; have HW := hid hV; have HBV := hid hbV; obtain ⟨c0, c1, c2, c3, c4, c5, c6, c7, c8⟩ := hCB; dsimp only at c0 c1 c2 c3 c4 c5; obtain ⟨la, lc, rfl, -, ll, -, HC⟩ := hl.open; have HC' := hid HC; clear hV hV' hbV hc hl HC
  have hnm : nameC ⟨3, cw, cn, cm, ce⟩ = cn := by unfold nameC; rw [if_neg (by simp)]
  rw [hnm]
  clear hnm
  have HIX := hid (ref6_Index _ l cn V HLV.out)
  cases hi : idxN l cn with
  | none =>
    have HF : Hid (doI l ⟨3, cw, cn, cm, ce⟩ none = ([], 5)) := hid (by unfold doI; rfl)
    rw [idxI_no hi] at HIX
    clear hi
    go_enter Tryz.func77, Tryz.ntmps77
    go_wp2_with (first | rw [HW.out] | (go_at_call 51; refine HIX.out.mono ?_; rintro e w' ⟨rfl, rfl⟩))
    go_ret2
    exact DoQ.no (HF.out.trans rfl) HBV.out
  | some i =>
    obtain ⟨hil, hin⟩ := idxN_some hi
    rw [idxI_some hi] at HIX
    clear hi
    have b0 : ¬ (i : Int) < 0 := by omega
    have HIM := hid (ref6_Index _ l cm V HLV.out)
    have HUS := hid (ref9_used _ l cm (-1) V HLV.out)
    have HFI : Hid (doI l ⟨3, cw, cn, cm, ce⟩ (some i) = if (idxN l cm).isSome || usedI l cm (-1) then ([], 6) else (srtE (l.map (renE cn cm)), 0)) := hid (by unfold doI; rw [if_neg (by simp)]; simp)
    have HIXX := hid (fun (h1 : V.heap.size = V.heap.size) => HIX.out)
    cases hm : idxN l cm with
    | some i2 =>
      rw [idxI_some hm] at HIM
      have b1 : (0 : Int) ≤ (i2 : Int) := by omega
      have HF : Hid (doI l ⟨3, cw, cn, cm, ce⟩ (some i) = ([], 6)) := hid (by rw [HFI.out, hm]; rfl)
      clear hm hok hin HFI
      go_enter Tryz.func77, Tryz.ntmps77
      go_wp2_with (first | rw [HW.out] | (go_at_call 51; first | ((with_reducible refine HIX.out.mono ?_); rintro e w' ⟨rfl, rfl⟩) | ((with_reducible refine HIM.out.mono ?_); rintro e w' ⟨rfl, rfl⟩)))
      go_ret2
      exact DoQ.no (HF.out.trans rfl) HBV.out
    | none =>
      rw [idxI_no hm] at HIM
      rw [hm] at HFI
      clear hm
      obtain ⟨bb, hbb⟩ : ∃ bb, usedI l cm (-1) = bb := ⟨_, rfl⟩
      rw [hbb] at HUS HFI
      clear hbb
      cases bb
      case true =>
        clear hok hin
        go_enter Tryz.func77, Tryz.ntmps77
        go_wp2_with (first | rw [HW.out] | (go_at_call 51; first | ((with_reducible refine HIX.out.mono ?_); rintro e w' ⟨rfl, rfl⟩) | ((with_reducible refine HIM.out.mono ?_); rintro e w' ⟨rfl, rfl⟩)) | (go_at_call 81; refine HUS.out.mono ?_; rintro e w' ⟨rfl, rfl⟩))
        go_ret2
        exact DoQ.no (HFI.out.trans rfl) HBV.out
      case false =>
        have HOK := hid hok
        have HRA := hid (fun (k : Nat) (hk : k < l.length) => ren_at hnd hil (n := cn) (m := cm) hin hk)
        clear hok hin
        go_enter Tryz.func77, Tryz.ntmps77
        go_wp2_with (first | rw [HW.out] | (go_at_call 51; first | ((with_reducible refine HIX.out.mono ?_); rintro e w' ⟨rfl, rfl⟩) | ((with_reducible refine HIM.out.mono ?_); rintro e w' ⟨rfl, rfl⟩)) | (go_at_call 81; refine HUS.out.mono ?_; rintro e w' ⟨rfl, rfl⟩))
        go_loopw [8, 9] (fun uo kv wr => ∃ k : Nat, k ≤ l.length ∧ kv = .int .i64 k ∧ (∃ vs B, V.heap.size ≤ B ∧ EnW wr B uo vs (srtE ((l.take k).map (renE cn cm)))) ∧ Below V.heap.size V wr) (fun _ kv _ => l.length - (intOf kv).toNat)
        case atStart => exact ⟨0, by omega, rfl, ⟨[], V.heap.size, Nat.le_refl _, EnW.nil _ _⟩, Below.refl _ _⟩
        case round =>
          obtain ⟨wo, rfl⟩ : ∃ wo : World, wo = wr := ⟨_, rfl⟩
          obtain ⟨k, hk, rfl, ⟨vse, Be, hBe, hEW⟩, hb⟩ := hrel
          have hE := hEW.ents (by rw [srtE_len, List.length_map, List.length_take]; omega)
          have hsz := hb.size
          obtain ⟨ea, ec, hu0, -⟩ := hE.open
          obtain ⟨en, hen⟩ : ∃ en, (srtE ((l.take k).map (renE cn cm))).length = en := ⟨_, rfl⟩
          rw [hen] at hu0
          subst hu0
          clear hen
          have HEW := hid hEW
          have HBE := hid hBe
          clear hEW hBe
          by_cases hlt : k < l.length
          · obtain ⟨lb, lo, xS, xU, xP, rfl, d0, d1, d2, d3, d4, he⟩ := HC'.out k hlt
            have hbw := HBV.out.trans (hb.mono HBV.out.size)
            replace d0 := (hbw.cell (World.block_lt_of_cell? _ _ d0)).trans d0
            replace d1 := (hbw.cell (World.block_lt_of_cell? _ _ d1)).trans d1
            replace d2 := (hbw.cell (World.block_lt_of_cell? _ _ d2)).trans d2
            replace d3 := (hbw.cell (World.block_lt_of_cell? _ _ d3)).trans d3
            replace d4 := (hbw.cell (World.block_lt_of_cell? _ _ d4)).trans d4
            have he' := he.below hbw
            obtain ⟨s1, t1, rfl, -⟩ := he'.s.open
            obtain ⟨s2, t2, rfl, -⟩ := he'.u.open
            obtain ⟨s3, t3, rfl, -⟩ := he'.p.open
            obtain ⟨z0, z1, z2, z3⟩ := HOK.out _ (List.getElem_mem hlt)
            have hra := HRA.out k hlt
            have hren : (l.take (k + 1)).map (renE cn cm) = (l.take k).map (renE cn cm) ++ [renE cn cm l[k]] := by rw [List.take_succ_eq_append_getElem hlt, List.map_append]; rfl
            have hsn : srtE ((l.take (k + 1)).map (renE cn cm)) = putE (renE cn cm l[k]) (srtE ((l.take k).map (renE cn cm))) := by rw [hren, srtE_snoc]
            have hsl : (srtE ((l.take k).map (renE cn cm))).length ≤ 900 := by rw [srtE_len, List.length_map, List.length_take]; omega
            have hsm : ∀ y ∈ srtE ((l.take k).map (renE cn cm)), EnSm y := fun y hy => by
              obtain ⟨q, hq, rfl⟩ := List.mem_map.1 ((srtE_mem _).1 hy)
              obtain ⟨q0, q1, q2, q3⟩ := HOK.out q (List.mem_of_mem_take hq)
              exact ⟨q0, q1, by unfold renE; simpa using q2, q3⟩
            have hn1 := he'.n1
            obtain ⟨x, hx⟩ : ∃ x, l[k] = x := ⟨_, rfl⟩
            obtain ⟨OL, hOL⟩ : ∃ OL, srtE ((l.take k).map (renE cn cm)) = OL := ⟨_, rfl⟩
            rw [hx] at d0 d1 d2 d3 d4 he' z0 z1 z2 z3 hra hsn hn1
            have hEo : EntsAt wo (.slice ea en ec) OL := by rw [← hOL]; exact hE
            rw [hOL] at hsn hsl hsm
            have HRA1 := hid hra
            have HSN := hid hsn
            have HSL := hid hsl
            have HSM := hid hsm
            have HZ := hid (And.intro z0 (And.intro z1 (And.intro z2 z3)))
            have HE := hid hEo
            have HB := hid hb
            have HN1 := hid hn1
            have HCP := hid (ref9_copied _ _ _ x wo he' z1 z2 z3)
            clear hra hsn hsl hsm hE hEo hb he he' hx hOL hren hbw z0 z1 z2 z3 hn1
            go_wp2_with fail
            refine HCP.out.mono ?_
            rintro e w2 ⟨v, rfl, ⟨vS, vU, vP, rfl, hO⟩, hb2⟩
            obtain ⟨a1, k1, rfl⟩ := owns_slice hO.s
            obtain ⟨a2, k2, rfl⟩ := owns_slice hO.u
            obtain ⟨a3, k3, rfl⟩ := owns_slice hO.p
            have hEB := EB.new w2 x (.slice a1 x.says.length k1) (.slice a2 x.uses.length k2) (.slice a3 x.proof.length k3) 41
            have hbx := BX.new w2 [.string x.name, .string x.who, .slice a1 x.says.length k1, .slice a2 x.uses.length k2, .slice a3 x.proof.length k3] 41
            obtain ⟨X, hX⟩ : ∃ X, w2.alloc (.cells #[.string x.name, .string x.who, .slice a1 x.says.length k1, .slice a2 x.uses.length k2, .slice a3 x.proof.length k3] 41) = X := ⟨_, rfl⟩
            have hX' : w2.alloc (.cells ([.string x.name, .string x.who, .slice a1 x.says.length k1, .slice a2 x.uses.length k2, .slice a3 x.proof.length k3] : List Value).toArray 41) = X := hX
            rw [hX] at hEB
            rw [hX'] at hbx
            have hbX : Below w2.heap.size w2 X := hX ▸ (Below.refl _ _).alloc (Nat.le_refl _) _
            have hb2X := hb2.trans (hbX.mono hb2.size)
            have hOX := hO.blocks (W' := X) (base' := wo.heap.size) (Nat.le_refl _) fun q _ hq => hbX.block q hq
            obtain ⟨-, -, -, p3, -⟩ := HCB.out.below (HB.out.trans (hb2X.mono HB.out.size))
            dsimp only at p3
            obtain ⟨e0, e1, e2, e3, e4⟩ := hEB
            have f0 := hbx.z 0
            have HO := hid hO
            have HX := hid hX
            have HW2 := hid hb2.size
            have HOX := hid hOX
            have HEX := hid (EB.mk e0 e1 e2 e3 e4)
            have HBX := hid hb2X
            have hV1 : w.heap.size < V.heap.size := World.block_lt_of_cell? _ _ c0
            have hV2 : V.heap.size ≤ w2.heap.size := Nat.le_trans hsz hb2.size
            obtain ⟨y, hy⟩ : ∃ y : En, ({ x with name := if k = i then cm else x.name } : En) = y := ⟨_, rfl⟩
            have HY := hid hy
            clear hX hX' hbX hbx hb2X hOX hb2 hO hy
            by_cases hki : k = i
            case' pos =>
              have q0 : ((k : Int) == (i : Int)) = true := by simp [hki]
              obtain ⟨Y, hYY⟩ : ∃ Y, X.setCell ⟨w2.heap.size, 0, none⟩ (.string cm) = Y := ⟨_, rfl⟩
              have hk0 : ∀ q, q ≠ w2.heap.size → Y.heap[q]? = X.heap[q]? := fun q hq => by rw [← hYY]; exact Below.heap_setCell _ _ _ _ hq
              have HEY : Hid (EB Y w2.heap.size y (.slice a1 x.says.length k1) (.slice a2 x.uses.length k2) (.slice a3 x.proof.length k3)) := hid (by
                rw [← HY.out, if_pos hki, ← hYY]
                refine ⟨World.cell?_setCell_same _ _ _ e0, ?_, ?_, ?_, ?_⟩
                · rw [World.cell?_setCell_other _ _ _ _ (by simp)]; exact e1
                · rw [World.cell?_setCell_other _ _ _ _ (by simp)]; exact e2
                · rw [World.cell?_setCell_other _ _ _ _ (by simp)]; exact e3
                · rw [World.cell?_setCell_other _ _ _ _ (by simp)]; exact e4)
              have HOY : Hid (EntO Y wo.heap.size (.slice a1 x.says.length k1) (.slice a2 x.uses.length k2) (.slice a3 x.proof.length k3) y) := hid (by
                rw [← HY.out, if_pos hki]
                refine EntO.named ((HOX.out).keep (Nat.le_refl _) fun q _ _ hq => hk0 q fun eq => ?_) HCV.out.n3
                have : q < w2.heap.size := by
                  rcases hq with hq | hq | hq
                  · exact (HO.out.s.lt q hq).2
                  · exact (HO.out.u.lt q hq).2
                  · exact (HO.out.p.lt q hq).2
                omega)
              have HBY : Hid (Below wo.heap.size wo Y) := hid (by rw [← hYY]; exact HBX.out.setCell (p := ⟨w2.heap.size, 0, none⟩) HW2.out _)
              have HYW := hid hYY
              clear hYY hk0 hki
              go_wp2_with (first | rw [HX.out] | rw [HYW.out])
            case' neg =>
              have q0 : ((k : Int) == (i : Int)) = false := by simp; omega
              obtain ⟨Y, hYY⟩ : ∃ Y, Y = X := ⟨_, rfl⟩
              have HEY : Hid (EB Y w2.heap.size y (.slice a1 x.says.length k1) (.slice a2 x.uses.length k2) (.slice a3 x.proof.length k3)) := hid (by
                rw [← HY.out, if_neg hki, hYY]; exact HEX.out)
              have HOY : Hid (EntO Y wo.heap.size (.slice a1 x.says.length k1) (.slice a2 x.uses.length k2) (.slice a3 x.proof.length k3) y) := hid (by
                rw [← HY.out, if_neg hki, hYY]; exact HOX.out)
              have HBY : Hid (Below wo.heap.size wo Y) := hid (hYY ▸ HBX.out)
              have HYW := hid hYY
              clear hYY hki
              go_wp2_with (rw [HX.out])
              rw [← HYW.out]
            all_goals
              have HOY0 : Hid (EntO Y wo.heap.size (.slice a1 x.says.length k1) (.slice a2 x.uses.length k2) (.slice a3 x.proof.length k3) { y with uses := usJ cn cm x.uses 0 }) := hid (by rw [usJ_zero, show ({ y with uses := x.uses } : En) = y from by rw [← HY.out]]; exact HOY.out)
              go_loopw [11] (fun jv wr => ∃ j : Nat, j ≤ x.uses.length ∧ jv = .int .i64 j ∧ EntO wr wo.heap.size (.slice a1 x.says.length k1) (.slice a2 x.uses.length k2) (.slice a3 x.proof.length k3) { y with uses := usJ cn cm x.uses j } ∧ EB wr w2.heap.size y (.slice a1 x.says.length k1) (.slice a2 x.uses.length k2) (.slice a3 x.proof.length k3) ∧ Below wo.heap.size wo wr) (fun jv _ => x.uses.length - (intOf jv).toNat)
              case atStart => exact ⟨0, by omega, rfl, HOY0.out, HEY.out, HBY.out⟩
              case round =>
                obtain ⟨j, hj, rfl, hOj, hEj, hBj⟩ := hrel
                have HOJ := hid hOj
                have HEJ := hid hEj
                have HBJ := hid hBj
                have hszj := hBj.size
                have hux : x.uses.length ≤ 1000 := HZ.out.2.2.1
                have HVB := hid (HB.out.trans (hBj.mono HB.out.size))
                obtain ⟨g0, g1, g2, g3, g4⟩ := hEj
                by_cases hjl : j < x.uses.length
                · obtain ⟨ub, rfl, hu1, hu2⟩ := hOj.blk (by show 0 < (usJ cn cm x.uses j).length; rw [usJ_len]; omega)
                  have hu : wr.ownsRow wo.heap.size 9 1 (.slice (some ⟨ub, 0, none⟩) x.uses.length k2) x.uses.length ((usJ cn cm x.uses j).map Value.string) := by simpa only [usJ_len] using hOj.u
                  have hcl := hu.cellAt j (by omega)
                  obtain ⟨un, hun⟩ : ∃ un, x.uses[j] = un := ⟨_, rfl⟩
                  replace hcl : wr.cell? ⟨ub, j, none⟩ = some (.string un) := by rw [hcl, List.getElem?_map, usJ_get hjl, ← hun]; rfl
                  have hfr := hu.frozenAt j
                  have hub : ub < w2.heap.size := (HO.out.u.lt ub rfl).2
                  have HJL := hid hjl
                  have HNX : Hid (usJ cn cm x.uses (j + 1) = (usJ cn cm x.uses j).set j (renN cn cm un)) := hid (by rw [← hun]; exact usJ_next hjl)
                  have HSM1 : Hid (un ≠ cn → usJ cn cm x.uses (j + 1) = usJ cn cm x.uses j) := hid (by rw [← hun]; exact usJ_same hjl)
                  obtain ⟨-, -, -, q3, -⟩ := HCB.out.below HVB.out
                  dsimp only at q3
                  clear hun hOj hBj hu
                  by_cases h2 : un = cn
                  · have HNX2 : Hid (usJ cn cm x.uses (j + 1) = (usJ cn cm x.uses j).set j cm) := hid (by rw [HNX.out]; unfold renN; rw [if_pos h2])
                    have q2 : (un.toList == cn.toList) = true := by rw [bytes_eq]; simpa using h2
                    have HSO := hid (HOJ.out.useSet (i := j) (by show j < (usJ cn cm x.uses j).length; rw [usJ_len]; exact hjl) cm HCV.out.n3)
                    have HSE := hid (HEJ.out.block (Below.heap_setCell wr (⟨ub, j, none⟩ : Addr) (.string cm) w2.heap.size (by show w2.heap.size ≠ ub; omega)))
                    have HSB := hid (HBJ.out.setCell (p := ⟨ub, j, none⟩) hu1 (.string cm))
                    clear h2
                    go_wp2
                    go_roundw
                    case rel => exact ⟨j + 1, by omega, by go_num, by rw [HNX2.out]; exact HSO.out, HSE.out, HSB.out⟩
                    case measure => simp [intOf]; omega
                  · have HSM2 := hid (HSM1.out h2)
                    have q2 : (un.toList == cn.toList) = false := by rw [bytes_eq]; simpa using h2
                    clear h2
                    go_wp2
                    go_roundw
                    case rel => exact ⟨j + 1, by omega, by go_num, by rw [HSM2.out]; exact HOJ.out, HEJ.out, HBJ.out⟩
                    case measure => simp [intOf]; omega
                · have hje : j = x.uses.length := by omega
                  subst hje
                  have hz : ({ y with uses := usJ cn cm x.uses x.uses.length } : En) = renE cn cm x := by rw [HRA1.out, ← HY.out, usJ_all]
                  have hEN := HOJ.out.ent
                  rw [hz] at hEN
                  have hzs : EnSm (renE cn cm x) := ⟨HZ.out.1, HZ.out.2.1, by unfold renE; simpa using HZ.out.2.2.1, HZ.out.2.2.2⟩
                  have hzn : (renE cn cm x).name = y.name ∧ (renE cn cm x).who = y.who := by rw [← hz]; exact ⟨rfl, rfl⟩
                  have HPU := hid (ref9_putW _ _ _ _ OL (renE cn cm x) wr (HE.out.below HBJ.out) hEN HSL.out HSM.out hzs)
                  rw [hzn.1, hzn.2] at HPU
                  clear hEN hzs hzn hz hOj hBj
                  go_wp2_with (go_at_call 69; with_reducible refine HPU.out.mono ?_; rintro e w3 ⟨u, vs3, B3, hB3, rfl, hu3, hb3⟩)
                  have HU3 := hid hu3
                  have HL3 := hid (Nat.le_trans HVB.out.size hB3)
                  have HB3 := hid (HVB.out.trans (hb3.mono HVB.out.size))
                  clear hu3 hb3 hB3
                  go_roundw
                  case rel => exact ⟨k + 1, by omega, by go_num, ⟨vs3, B3, HL3.out, by rw [HSN.out]; exact HU3.out⟩, HB3.out⟩
                  case measure => simp [intOf]; omega
          · have hkl : k = l.length := by omega
            subst hkl
            have HE := hid (show EnW wo Be (.slice ea en ec) vse (srtE (l.map (renE cn cm))) from by have h := HEW.out; rw [List.take_of_length_le (Nat.le_refl _)] at h; exact h)
            have HLE := hid (Nat.le_trans HBV.out.size HBE.out)
            clear hE HEW
            go_wp2
            go_ret2
            exact DoQ.yes (HFI.out.trans rfl) HLE.out HE.out (HBV.out.trans (hb.mono HBV.out.size))
end Go.Proofs.YtlbjbmpkaniojaaGreat
