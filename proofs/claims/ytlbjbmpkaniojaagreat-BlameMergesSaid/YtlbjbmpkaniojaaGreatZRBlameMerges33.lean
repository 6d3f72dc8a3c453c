/-
  WHAT IT HOLDS: how changes lie: a change, lists of changes, and parts of them. No program's walk in sight.
  WHAT IT HOLDS: contracts of Valid and valid of package blame: whether changes are valid. Conditions: the arguments read as data; small signs.
  WHAT IT HOLDS: contracts of SameLibrary of the reference of layer 6 and of slices.EqualFunc at entries. Conditions: the arguments read as data.
  WHAT IT HOLDS: contract of the iterator slices.Backward at changes: it hands over the places and the changes, the last first. Conditions: the slice reads as changes.
-/
import Derived.Test.YtlbjbmpkaniojaaGreatZRBlameMerges31
import Derived.Test.YtlbjbmpkaniojaaGreatZRBlameMerges18
import Derived.Test.YtlbjbmpkaniojaaGreatZRBlameMerges15
namespace Go.Proofs.YtlbjbmpkaniojaaGreat
open Go Go.RowKit
structure ChgAt (w : World) (vS vU vP : Value) (c : Chg) : Prop where
  e : EntAt w vS vU vP c.ent
  n1 : c.who.size ≤ 140737488355328
  n2 : c.name.size ≤ 140737488355328
  n3 : c.new.size ≤ 140737488355328
theorem ChgAt.below {w w' : World} {vS vU vP : Value} {c : Chg} (h : ChgAt w vS vU vP c) (hb : Below w.heap.size w w') : ChgAt w' vS vU vP c := ⟨h.e.below hb, h.n1, h.n2, h.n3⟩
/-- the value of a change. -/
def chV (c : Chg) (vS vU vP : Value) : Value := .agg #[.int .i64 c.kind, .string c.who, .string c.name, .string c.new, .string c.ent.name, .string c.ent.who, vS, vU, vP]
def chC (c : Chg) (v : V3) : List Value := [.int .i64 c.kind, .string c.who, .string c.name, .string c.new, .string c.ent.name, .string c.ent.who, v.1, v.2.1, v.2.2]
/-- a change in a box. -/
structure CB (w : World) (b : Nat) (c : Chg) (vS vU vP : Value) : Prop where
  c0 : w.cell? ⟨b, 0, none⟩ = some (.int .i64 c.kind)
  c1 : w.cell? ⟨b, 1, none⟩ = some (.string c.who)
  c2 : w.cell? ⟨b, 2, none⟩ = some (.string c.name)
  c3 : w.cell? ⟨b, 3, none⟩ = some (.string c.new)
  c4 : w.cell? ⟨b, 4, none⟩ = some (.string c.ent.name)
  c5 : w.cell? ⟨b, 5, none⟩ = some (.string c.ent.who)
  c6 : w.cell? ⟨b, 6, none⟩ = some vS
  c7 : w.cell? ⟨b, 7, none⟩ = some vU
  c8 : w.cell? ⟨b, 8, none⟩ = some vP
theorem CB.block {w w' : World} {b : Nat} {c : Chg} {vS vU vP : Value} (h : CB w b c vS vU vP) (hb : w'.heap[b]? = w.heap[b]?) : CB w' b c vS vU vP :=
  ⟨(World.cell?_of_block hb).trans h.c0, (World.cell?_of_block hb).trans h.c1, (World.cell?_of_block hb).trans h.c2, (World.cell?_of_block hb).trans h.c3, (World.cell?_of_block hb).trans h.c4, (World.cell?_of_block hb).trans h.c5, (World.cell?_of_block hb).trans h.c6, (World.cell?_of_block hb).trans h.c7, (World.cell?_of_block hb).trans h.c8⟩
theorem CB.below {w w' : World} {b : Nat} {c : Chg} {vS vU vP : Value} (h : CB w b c vS vU vP) (hb : Below w.heap.size w w') : CB w' b c vS vU vP :=
  h.block (hb.block b (World.block_lt_of_cell? _ _ h.c0))
theorem CB.new (w : World) (c : Chg) (vS vU vP : Value) (t : TypeId) : CB (w.alloc (.cells #[.int .i64 c.kind, .string c.who, .string c.name, .string c.new, .string c.ent.name, .string c.ent.who, vS, vU, vP] t)) w.heap.size c vS vU vP := by
  constructor <;> (rw [World.cell?_alloc_new]; rfl)
def chsC : List Chg → List V3 → List Value
  | x :: l, v :: vs => chC x v ++ chsC l vs
  | _, _ => []
theorem chsC_len : ∀ (l : List Chg) (vs : List V3), vs.length = l.length → (chsC l vs).length = l.length * 9
  | [], [], _ => rfl
  | [], _ :: _, h => by simp at h
  | _ :: _, [], h => by simp at h
  | x :: l, v :: vs, h => by
    have := chsC_len l vs (by simpa using h)
    simp [chsC, chC, this]; omega
theorem chsC_get : ∀ (l : List Chg) (vs : List V3) (_ : vs.length = l.length) (j : Nat) (h : j < l.length) (h' : j < vs.length) (r : Nat), r < 9 → (chsC l vs)[j * 9 + r]? = (chC l[j] vs[j])[r]?
  | [], _, _, j, h, _, _, _ => by simp at h
  | _ :: _, [], e, _, _, _, _, _ => by simp at e
  | x :: l, v :: vs, e, 0, _, _, r, hr => by
    show (chC x v ++ chsC l vs)[0 * 9 + r]? = _
    rw [Nat.zero_mul, Nat.zero_add, List.getElem?_append_left (by simp [chC]; exact hr)]
    rfl
  | x :: l, v :: vs, e, j + 1, h, h', r, hr => by
    show (chC x v ++ chsC l vs)[(j + 1) * 9 + r]? = _
    have h9 : (chC x v).length = 9 := rfl
    rw [List.getElem?_append_right (by rw [h9]; omega), h9, show (j + 1) * 9 + r - 9 = j * 9 + r by omega]
    exact chsC_get l vs (by simpa using e) j (by simpa using h) (by simpa using h') r hr
theorem chsC_append : ∀ (l m : List Chg) (vs us : List V3), vs.length = l.length → chsC (l ++ m) (vs ++ us) = chsC l vs ++ chsC m us
  | [], m, [], us, _ => rfl
  | [], _, _ :: _, _, h => by simp at h
  | _ :: _, _, [], _, h => by simp at h
  | x :: l, m, v :: vs, us, h => by simp [chsC, chsC_append l m vs us (by simpa using h)]
/-- a list of changes in memory. -/
def ChsV (w : World) (v : Value) (vs : List V3) (l : List Chg) : Prop := RowK w v 9 l.length (chsC l vs) ∧ vs.length = l.length ∧ ∀ (j : Nat) (h : j < l.length) (h' : j < vs.length), ChgAt w vs[j].1 vs[j].2.1 vs[j].2.2 l[j]
def ChsAt (w : World) (v : Value) (l : List Chg) : Prop := ∃ vs, ChsV w v vs l
theorem ChsV.below {w w' : World} {v : Value} {vs : List V3} {l : List Chg} (h : ChsV w v vs l) (hb : Below w.heap.size w w') : ChsV w' v vs l := ⟨h.1.below hb, h.2.1, fun j h1 h2 => (h.2.2 j h1 h2).below hb⟩
theorem ChsAt.below {w w' : World} {v : Value} {l : List Chg} (h : ChsAt w v l) (hb : Below w.heap.size w w') : ChsAt w' v l := by
  obtain ⟨vs, h⟩ := h; exact ⟨vs, h.below hb⟩
theorem ChsAt.nil (w : World) : ChsAt w (.slice none 0 0) [] := ⟨[], ⟨rfl, none, 0, rfl, Nat.le_refl _, by simp, fun _ => rfl, fun j u hj => by simp [chsC] at hj⟩, rfl, fun j h => by simp at h⟩
theorem ChsAt.open {w : World} {v : Value} {l : List Chg} (h : ChsAt w v l) :
    ∃ a cap, v = .slice a l.length cap ∧ l.length ≤ cap ∧ l.length ≤ 140737488355328 ∧ (a = none → cap = 0) ∧
      ∀ j (h : j < l.length), ∃ b o vs vu vp, a = some ⟨b, o, none⟩ ∧ w.cell? ⟨b, o + j * 9, none⟩ = some (.int .i64 l[j].kind) ∧ w.cell? ⟨b, o + j * 9 + 1, none⟩ = some (.string l[j].who) ∧ w.cell? ⟨b, o + j * 9 + 2, none⟩ = some (.string l[j].name) ∧ w.cell? ⟨b, o + j * 9 + 3, none⟩ = some (.string l[j].new) ∧ w.cell? ⟨b, o + j * 9 + 4, none⟩ = some (.string l[j].ent.name) ∧ w.cell? ⟨b, o + j * 9 + 5, none⟩ = some (.string l[j].ent.who) ∧ w.cell? ⟨b, o + j * 9 + 6, none⟩ = some vs ∧ w.cell? ⟨b, o + j * 9 + 7, none⟩ = some vu ∧ w.cell? ⟨b, o + j * 9 + 8, none⟩ = some vp ∧ ChgAt w vs vu vp l[j] := by
  obtain ⟨vs, ⟨_, a, cap, h2, h3, h4, h5, h6⟩, hl, he⟩ := h
  refine ⟨a, cap, h2, h3, h4, h5, fun j hj => ?_⟩
  have hjv : j < vs.length := by omega
  have g := fun r hr => chsC_get l vs hl j hj hjv r hr
  have key : ∀ r (hr : r < 9) u, (chC l[j] vs[j])[r]? = some u → ∃ b o, a = some ⟨b, o, none⟩ ∧ w.cell? ⟨b, o + (j * 9 + r), none⟩ = some u := fun r hr u hu => h6 _ _ ((g r hr).trans hu)
  obtain ⟨b, o, e0, q0⟩ := key 0 (by omega) _ rfl
  have key2 : ∀ r (hr : r < 9) u, (chC l[j] vs[j])[r]? = some u → w.cell? ⟨b, o + (j * 9 + r), none⟩ = some u := fun r hr u hu => by
    obtain ⟨b', o', e', q'⟩ := key r hr u hu
    rw [e0] at e'
    cases e'
    exact q'
  refine ⟨b, o, vs[j].1, vs[j].2.1, vs[j].2.2, e0, q0, ?_, ?_, ?_, ?_, ?_, ?_, ?_, ?_, he j hj hjv⟩ <;> (rw [Nat.add_assoc]; exact key2 _ (by omega) _ rfl)
/-- the first changes, and those behind them. -/
theorem ChsV.take {w : World} {a : Option Addr} {n cap : Nat} {vs : List V3} {l : List Chg} (h : ChsV w (.slice a n cap) vs l) (k : Nat) (hk : k ≤ l.length) : ChsV w (.slice a k cap) (vs.take k) (l.take k) := by
  obtain ⟨⟨h1, a', cap', h2, h3, h4, h5, h6⟩, hl, he⟩ := h
  simp only [Value.slice.injEq] at h2
  obtain ⟨rfl, rfl, rfl⟩ := h2
  have hlk : (l.take k).length = k := by rw [List.length_take]; omega
  have hvk : (vs.take k).length = k := by rw [List.length_take]; omega
  refine ⟨⟨chsC_len _ _ (by rw [hlk, hvk]), a, cap, by rw [hlk], by omega, by omega, h5, fun j u hj => ?_⟩, by rw [hlk, hvk], fun j g g' => ?_⟩
  · have e : chsC l vs = chsC (l.take k) (vs.take k) ++ chsC (l.drop k) (vs.drop k) := by
      rw [← chsC_append _ _ _ _ (by rw [hlk, hvk]), List.take_append_drop, List.take_append_drop]
    refine h6 j u ?_
    rw [e, List.getElem?_append_left (List.getElem?_eq_some_iff.1 hj).1]
    exact hj
  · simp only [List.getElem_take]
    exact he j (by omega) (by omega)
theorem ChsAt.take {w : World} {a : Option Addr} {n cap : Nat} {l : List Chg} (h : ChsAt w (.slice a n cap) l) (k : Nat) (hk : k ≤ l.length) : ChsAt w (.slice a k cap) (l.take k) := by
  obtain ⟨vs, h⟩ := h
  exact ⟨_, h.take k hk⟩
theorem ChsAt.drop {w : World} {b o n cap : Nat} {l : List Chg} (h : ChsAt w (.slice (some ⟨b, o, none⟩) n cap) l) (k : Nat) (hk : k ≤ l.length) : ChsAt w (.slice (some ⟨b, o + k * 9, none⟩) (l.length - k) (cap - k)) (l.drop k) := by
  obtain ⟨vs, ⟨h1, a', cap', h2, h3, h4, h5, h6⟩, hl, he⟩ := h
  simp only [Value.slice.injEq] at h2
  obtain ⟨rfl, rfl, rfl⟩ := h2
  have hlk : (l.take k).length = k := by rw [List.length_take]; omega
  have hvk : (vs.take k).length = k := by rw [List.length_take]; omega
  refine ⟨vs.drop k, ⟨chsC_len _ _ (by simp [hl]), some ⟨b, o + k * 9, none⟩, cap - k, by simp, by simp; omega, by simp; omega, (fun h => by cases h), fun j u hj => ?_⟩, by simp [hl], fun j g g' => ?_⟩
  · have e : chsC l vs = chsC (l.take k) (vs.take k) ++ chsC (l.drop k) (vs.drop k) := by
      rw [← chsC_append _ _ _ _ (by rw [hlk, hvk]), List.take_append_drop, List.take_append_drop]
    have hk9 : (chsC (l.take k) (vs.take k)).length = k * 9 := by rw [chsC_len _ _ (by rw [hlk, hvk]), hlk]
    have := h6 (k * 9 + j) u (by rw [e, List.getElem?_append_right (by omega), hk9, Nat.add_sub_cancel_left]; exact hj)
    obtain ⟨b', o', e', q⟩ := this
    cases e'
    exact ⟨b, o + k * 9, rfl, by rw [Nat.add_assoc]; exact q⟩
  · simp only [List.getElem_drop]
    rw [List.length_drop] at g g'
    exact he (k + j) (by omega) (by omega)
end Go.Proofs.YtlbjbmpkaniojaaGreat
namespace Go.Proofs.YtlbjbmpkaniojaaGreat
open Go Go.RowKit Go.Maps
theorem chgB_eq (s : Sg) (c : Chg) : chgB s c = (nmB c.who && (signB s && (if c.kind = 1 ∨ c.kind = 2 then entryB s c.ent && (decide (c.name = em) && decide (c.new = em))
    else if c.kind = 3 then nmB c.name && (nmB c.new && (decide (c.name ≠ c.new) && decide (c.ent = en0)))
    else if c.kind = 4 then nmB c.name && (decide (c.new = em) && decide (c.ent = en0)) else false))) := by
  unfold chgB
  by_cases h : c.kind = 1 ∨ c.kind = 2
  · rw [if_pos h, if_pos h]
    cases signB s <;> cases nmB c.who <;> cases entryB s c.ent <;> cases decide (c.name = em) <;> cases decide (c.new = em) <;> rfl
  · rw [if_neg h, if_neg h]
    cases signB s <;> cases nmB c.who <;> rfl
theorem em_toL : (em : Nm).toList = [] := by rw [ByteArray.toList_eq]
theorem str_em {x : Nm} (h : x = em) : (x.toList == ([] : List UInt8)) = true ∧ x.toList = [] ∧ x.toList.isEmpty = true := by
  subst h; rw [em_toL]; exact ⟨rfl, rfl, rfl⟩
theorem str_ne {x : Nm} (h : x ≠ em) : (x.toList == ([] : List UInt8)) = false ∧ ¬ x.toList = [] ∧ x.toList.isEmpty = false := by
  have h0 : x.toList ≠ [] := fun e => h (by
    have h1 := bytes_eq x em
    rw [em_toL, e] at h1
    simpa using h1)
  exact ⟨by simpa using h0, h0, by simpa using h0⟩
set_option maxHeartbeats 4000000 in
set_option maxRecDepth 100000 in
theorem blame_Valid (vs vS vU vP : Value) (s : Sg) (c : Chg) (w : World) (hs : SignAt w vs s) (hc : ChgAt w vS vU vP c) (hs1 : s.length ≤ 1000) :
    Calls Tryz.prog 26 #[vs, chV c vS vU vP] w fun e w' => e = .returned (.bool (chgB s c)) ∧ Below w.heap.size w w' := by
  obtain ⟨sa, sc, rfl, -⟩ := hc.e.s.open
  obtain ⟨ua, uc, rfl, -⟩ := hc.e.u.open
  obtain ⟨pa, pc, rfl, -⟩ := hc.e.p.open
  unfold chV
  have hCB := CB.new w c (.slice sa c.ent.says.length sc) (.slice ua c.ent.uses.length uc) (.slice pa c.ent.proof.length pc) 43
  obtain ⟨V, hV⟩ : ∃ V, w.alloc (.cells #[.int .i64 c.kind, .string c.who, .string c.name, .string c.new, .string c.ent.name, .string c.ent.who, .slice sa c.ent.says.length sc, .slice ua c.ent.uses.length uc, .slice pa c.ent.proof.length pc] 43) = V := ⟨_, rfl⟩
  have hbV : Below w.heap.size w V := hV ▸ (Below.refl _ _).alloc (Nat.le_refl _) _
  rw [hV] at hCB
  have HSM := hid (blame_Same _ _ _ (.slice none 0 0) (.slice none 0 0) (.slice none 0 0) c.ent en0 V (hc.e.below hbV) (EntAt.zero V))
  have HNM := hid (fun (n : Nm) (X : World) (hn : n.size ≤ 140737488355328) => deps_Name n X hn)
  have HSG := hid (fun (X : World) (hX : Below V.heap.size V X) => term_ValidSign vs s X ((hs.below hbV).below hX) hs1)
  have HVE := hid (fun (X : World) (hX : Below V.heap.size V X) => deps_ValidEntry vs _ _ _ s c.ent X ((hs.below hbV).below hX) ((hc.e.below hbV).below hX) hs1)
  have HR := hid (chgB_eq s c)
  have HW := hid hV
  have HBV := hid hbV
  have HCB := hid hCB
  have HN := hid (And.intro hc.n1 (And.intro hc.n2 hc.n3))
  obtain ⟨c0, c1, c2, c3, c4, c5, c6, c7, c8⟩ := hCB
  clear hV hbV hc hs
  go_enter Tryz.func26, Tryz.ntmps26
  go_wp2_with (rw [HW.out])
  refine HSM.out.mono ?_
  rintro e w1 ⟨rfl, hb1⟩
  obtain ⟨d0, d1, d2, d3, d4, d5, d6, d7, d8⟩ := HCB.out.below hb1
  have HB1 := hid hb1
  have HD := hid (HCB.out.below hb1)
  obtain ⟨eb, heb⟩ : ∃ eb, decide (c.ent = en0) = eb := ⟨_, rfl⟩
  rw [heb]
  rw [heb] at HR
  clear c0 c1 c2 c3 c4 c5 c6 c7 c8 hb1 heb HSM HCB
  cases g1 : nmB c.who
  · have HF : Hid (chgB s c = false) := hid (by rw [HR.out, g1]; rfl)
    have HN1 := hid (HNM.out c.who w1 HN.out.1)
    rw [g1] at HN1
    clear g1
    go_wp2_with (go_at_call 71; refine HN1.out.mono ?_; rintro e w' ⟨rfl, rfl⟩)
    go_ret
    exact ⟨ret_bool HF.out.symm, HBV.out.trans (HB1.out.mono HBV.out.size)⟩
  have HN1 := hid (HNM.out c.who w1 HN.out.1)
  rw [g1] at HN1 HR
  clear g1
  cases g2 : signB s
  · have HF : Hid (chgB s c = false) := hid (by rw [HR.out, g2]; rfl)
    have HS1 := hid (HSG.out w1 HB1.out)
    rw [g2] at HS1
    clear g2
    go_wp2_with (first | (go_at_call 71; refine HN1.out.mono ?_; rintro e w' ⟨rfl, rfl⟩) | (go_at_call 72; refine HS1.out.mono ?_; rintro e w2 ⟨rfl, hb2⟩))
    go_ret
    exact ⟨ret_bool HF.out.symm, HBV.out.trans ((HB1.out.trans (hb2.mono HB1.out.size)).mono HBV.out.size)⟩
  have HS1 := hid (HSG.out w1 HB1.out)
  rw [g2] at HS1 HR
  clear g2
  by_cases k12 : c.kind = 1 ∨ c.kind = 2
  · rw [if_pos k12] at HR
    have q1 : (c.kind == 1) = true ∨ ((c.kind == 1) = false ∧ (c.kind == 2) = true) := by
      rcases k12 with k | k
      · exact Or.inl (by simpa using k)
      · exact Or.inr ⟨by rw [k]; rfl, by simpa using k⟩
    clear k12
    have HVEE := HVE
    cases g3 : entryB s c.ent
    · have HF : Hid (chgB s c = false) := hid (by rw [HR.out, g3]; rfl)
      simp only [g3] at HVEE
      clear g3
      rcases q1 with q1 | ⟨q1, q2⟩
      all_goals
        go_wp2_with (first | (go_at_call 71; refine HN1.out.mono ?_; rintro e w' ⟨rfl, rfl⟩) | (go_at_call 72; refine HS1.out.mono ?_; rintro e w2 ⟨rfl, hb2⟩; obtain ⟨d0, d1, d2, d3, d4, d5, d6, d7, d8⟩ := HD.out.below hb2; have hb12 := HB1.out.trans (hb2.mono HB1.out.size)) | (go_at_call 73; refine (HVEE.out _ hb12).mono ?_; rintro e w3 ⟨rfl, hb3⟩; have hb13 := hb12.trans (hb3.mono hb12.size)))
        go_ret
        exact ⟨ret_bool HF.out.symm, HBV.out.trans (hb13.mono HBV.out.size)⟩
    · rw [g3] at HR
      simp only [g3] at HVEE
      clear g3
      by_cases n1 : c.name = em
      · by_cases n2 : c.new = em
        · have HF : Hid (chgB s c = true) := hid (by rw [HR.out, n1, n2]; rfl)
          obtain ⟨r1, r2, r3⟩ := str_em n1
          obtain ⟨t1, t2, t3⟩ := str_em n2
          clear n1 n2
          rcases q1 with q1 | ⟨q1, q2⟩
          all_goals
            go_wp2_with (first | (go_at_call 71; refine HN1.out.mono ?_; rintro e w' ⟨rfl, rfl⟩) | (go_at_call 72; refine HS1.out.mono ?_; rintro e w2 ⟨rfl, hb2⟩; obtain ⟨d0, d1, d2, d3, d4, d5, d6, d7, d8⟩ := HD.out.below hb2; have hb12 := HB1.out.trans (hb2.mono HB1.out.size)) | (go_at_call 73; refine (HVEE.out _ hb12).mono ?_; rintro e w3 ⟨rfl, hb3⟩; have hb13 := hb12.trans (hb3.mono hb12.size); obtain ⟨d0, d1, d2, d3, d4, d5, d6, d7, d8⟩ := HD.out.below (hb2.trans (hb3.mono hb2.size))))
            go_ret
            exact ⟨ret_bool HF.out.symm, HBV.out.trans (hb13.mono HBV.out.size)⟩
        · have HF : Hid (chgB s c = false) := hid (by rw [HR.out, n1, decide_eq_false n2]; rfl)
          obtain ⟨r1, r2, r3⟩ := str_em n1
          obtain ⟨t1, t2, t3⟩ := str_ne n2
          clear n1 n2
          rcases q1 with q1 | ⟨q1, q2⟩
          all_goals
            go_wp2_with (first | (go_at_call 71; refine HN1.out.mono ?_; rintro e w' ⟨rfl, rfl⟩) | (go_at_call 72; refine HS1.out.mono ?_; rintro e w2 ⟨rfl, hb2⟩; obtain ⟨d0, d1, d2, d3, d4, d5, d6, d7, d8⟩ := HD.out.below hb2; have hb12 := HB1.out.trans (hb2.mono HB1.out.size)) | (go_at_call 73; refine (HVEE.out _ hb12).mono ?_; rintro e w3 ⟨rfl, hb3⟩; have hb13 := hb12.trans (hb3.mono hb12.size); obtain ⟨d0, d1, d2, d3, d4, d5, d6, d7, d8⟩ := HD.out.below (hb2.trans (hb3.mono hb2.size))))
            go_ret
            exact ⟨ret_bool HF.out.symm, HBV.out.trans (hb13.mono HBV.out.size)⟩
      · have HF : Hid (chgB s c = false) := hid (by rw [HR.out, decide_eq_false n1]; rfl)
        obtain ⟨r1, r2, r3⟩ := str_ne n1
        clear n1
        rcases q1 with q1 | ⟨q1, q2⟩
        all_goals
          go_wp2_with (first | (go_at_call 71; refine HN1.out.mono ?_; rintro e w' ⟨rfl, rfl⟩) | (go_at_call 72; refine HS1.out.mono ?_; rintro e w2 ⟨rfl, hb2⟩; obtain ⟨d0, d1, d2, d3, d4, d5, d6, d7, d8⟩ := HD.out.below hb2; have hb12 := HB1.out.trans (hb2.mono HB1.out.size)) | (go_at_call 73; refine (HVEE.out _ hb12).mono ?_; rintro e w3 ⟨rfl, hb3⟩; have hb13 := hb12.trans (hb3.mono hb12.size); obtain ⟨d0, d1, d2, d3, d4, d5, d6, d7, d8⟩ := HD.out.below (hb2.trans (hb3.mono hb2.size))))
          go_ret
          exact ⟨ret_bool HF.out.symm, HBV.out.trans (hb13.mono HBV.out.size)⟩
  rw [if_neg k12] at HR
  have j1 : (c.kind == 1) = false := by simp; omega
  have j2 : (c.kind == 2) = false := by simp; omega
  clear HVE
  by_cases k3 : c.kind = 3
  · rw [if_pos k3] at HR
    have j3 : (c.kind == 3) = true := by simpa using k3
    clear k12 k3
    have HP := hid (fun (X : World) => HNM.out c.name X HN.out.2.1)
    have HQ := hid (fun (X : World) => HNM.out c.new X HN.out.2.2)
    cases g3 : nmB c.name
    · have HF : Hid (chgB s c = false) := hid (by rw [HR.out, g3]; rfl)
      simp only [g3] at HP
      clear g3
      go_wp2_with (first | (go_at_call 72; refine HS1.out.mono ?_; rintro e w2 ⟨rfl, hb2⟩; obtain ⟨d0, d1, d2, d3, d4, d5, d6, d7, d8⟩ := HD.out.below hb2; have hb12 := HB1.out.trans (hb2.mono HB1.out.size)) | (go_at_call 71; (with_reducible refine HN1.out.mono ?_); rintro e w' ⟨rfl, rfl⟩) | (go_at_call 71; (with_reducible refine (HP.out _).mono ?_); rintro e w' ⟨rfl, rfl⟩))
      go_ret
      exact ⟨ret_bool HF.out.symm, HBV.out.trans (hb12.mono HBV.out.size)⟩
    rw [g3] at HR
    simp only [g3] at HP
    clear g3
    cases g4 : nmB c.new
    · have HF : Hid (chgB s c = false) := hid (by rw [HR.out, g4]; rfl)
      simp only [g4] at HQ
      clear g4
      go_wp2_with (first | (go_at_call 72; refine HS1.out.mono ?_; rintro e w2 ⟨rfl, hb2⟩; obtain ⟨d0, d1, d2, d3, d4, d5, d6, d7, d8⟩ := HD.out.below hb2; have hb12 := HB1.out.trans (hb2.mono HB1.out.size)) | (go_at_call 71; (with_reducible refine HN1.out.mono ?_); rintro e w' ⟨rfl, rfl⟩) | (go_at_call 71; (with_reducible refine (HP.out _).mono ?_); rintro e w' ⟨rfl, rfl⟩) | (go_at_call 71; (with_reducible refine (HQ.out _).mono ?_); rintro e w' ⟨rfl, rfl⟩))
      go_ret
      exact ⟨ret_bool HF.out.symm, HBV.out.trans (hb12.mono HBV.out.size)⟩
    rw [g4] at HR
    simp only [g4] at HQ
    clear g4
    by_cases hne : c.name = c.new
    · have HF : Hid (chgB s c = false) := hid (by rw [HR.out, decide_eq_false (fun h => h hne)]; rfl)
      have q1 : (c.name.toList == c.new.toList) = true := by rw [bytes_eq]; simpa using hne
      have q2 : (c.name.toList != c.new.toList) = false := by rw [bne, q1]; rfl
      clear hne
      go_wp2_with (first | (go_at_call 72; refine HS1.out.mono ?_; rintro e w2 ⟨rfl, hb2⟩; obtain ⟨d0, d1, d2, d3, d4, d5, d6, d7, d8⟩ := HD.out.below hb2; have hb12 := HB1.out.trans (hb2.mono HB1.out.size)) | (go_at_call 71; (with_reducible refine HN1.out.mono ?_); rintro e w' ⟨rfl, rfl⟩) | (go_at_call 71; (with_reducible refine (HP.out _).mono ?_); rintro e w' ⟨rfl, rfl⟩) | (go_at_call 71; (with_reducible refine (HQ.out _).mono ?_); rintro e w' ⟨rfl, rfl⟩))
      go_ret
      exact ⟨ret_bool HF.out.symm, HBV.out.trans (hb12.mono HBV.out.size)⟩
    · have HF : Hid (chgB s c = eb) := hid (by rw [HR.out, decide_eq_true (show c.name ≠ c.new from hne)]; rfl)
      have q1 : (c.name.toList == c.new.toList) = false := by rw [bytes_eq]; simpa using hne
      have q2 : (c.name.toList != c.new.toList) = true := by rw [bne, q1]; rfl
      clear hne
      go_wp2_with (first | (go_at_call 72; refine HS1.out.mono ?_; rintro e w2 ⟨rfl, hb2⟩; obtain ⟨d0, d1, d2, d3, d4, d5, d6, d7, d8⟩ := HD.out.below hb2; have hb12 := HB1.out.trans (hb2.mono HB1.out.size)) | (go_at_call 71; (with_reducible refine HN1.out.mono ?_); rintro e w' ⟨rfl, rfl⟩) | (go_at_call 71; (with_reducible refine (HP.out _).mono ?_); rintro e w' ⟨rfl, rfl⟩) | (go_at_call 71; (with_reducible refine (HQ.out _).mono ?_); rintro e w' ⟨rfl, rfl⟩))
      go_ret
      exact ⟨ret_bool HF.out.symm, HBV.out.trans (hb12.mono HBV.out.size)⟩
  rw [if_neg k3] at HR
  have j3 : (c.kind == 3) = false := by simpa using k3
  by_cases k4 : c.kind = 4
  · rw [if_pos k4] at HR
    have j4 : (c.kind == 4) = true := by simpa using k4
    clear k12 k3 k4
    have HP := hid (fun (X : World) => HNM.out c.name X HN.out.2.1)
    cases g3 : nmB c.name
    · have HF : Hid (chgB s c = false) := hid (by rw [HR.out, g3]; rfl)
      simp only [g3] at HP
      clear g3
      go_wp2_with (first | (go_at_call 72; refine HS1.out.mono ?_; rintro e w2 ⟨rfl, hb2⟩; obtain ⟨d0, d1, d2, d3, d4, d5, d6, d7, d8⟩ := HD.out.below hb2; have hb12 := HB1.out.trans (hb2.mono HB1.out.size)) | (go_at_call 71; (with_reducible refine HN1.out.mono ?_); rintro e w' ⟨rfl, rfl⟩) | (go_at_call 71; (with_reducible refine (HP.out _).mono ?_); rintro e w' ⟨rfl, rfl⟩))
      go_ret
      exact ⟨ret_bool HF.out.symm, HBV.out.trans (hb12.mono HBV.out.size)⟩
    rw [g3] at HR
    simp only [g3] at HP
    clear g3
    by_cases n2 : c.new = em
    · have HF : Hid (chgB s c = eb) := hid (by rw [HR.out, decide_eq_true n2]; rfl)
      obtain ⟨t1, t2, t3⟩ := str_em n2
      clear n2
      go_wp2_with (first | (go_at_call 72; refine HS1.out.mono ?_; rintro e w2 ⟨rfl, hb2⟩; obtain ⟨d0, d1, d2, d3, d4, d5, d6, d7, d8⟩ := HD.out.below hb2; have hb12 := HB1.out.trans (hb2.mono HB1.out.size)) | (go_at_call 71; (with_reducible refine HN1.out.mono ?_); rintro e w' ⟨rfl, rfl⟩) | (go_at_call 71; (with_reducible refine (HP.out _).mono ?_); rintro e w' ⟨rfl, rfl⟩))
      go_ret
      exact ⟨ret_bool HF.out.symm, HBV.out.trans (hb12.mono HBV.out.size)⟩
    · have HF : Hid (chgB s c = false) := hid (by rw [HR.out, decide_eq_false n2]; rfl)
      obtain ⟨t1, t2, t3⟩ := str_ne n2
      clear n2
      go_wp2_with (first | (go_at_call 72; refine HS1.out.mono ?_; rintro e w2 ⟨rfl, hb2⟩; obtain ⟨d0, d1, d2, d3, d4, d5, d6, d7, d8⟩ := HD.out.below hb2; have hb12 := HB1.out.trans (hb2.mono HB1.out.size)) | (go_at_call 71; (with_reducible refine HN1.out.mono ?_); rintro e w' ⟨rfl, rfl⟩) | (go_at_call 71; (with_reducible refine (HP.out _).mono ?_); rintro e w' ⟨rfl, rfl⟩))
      go_ret
      exact ⟨ret_bool HF.out.symm, HBV.out.trans (hb12.mono HBV.out.size)⟩
  rw [if_neg k4] at HR
  have j4 : (c.kind == 4) = false := by simpa using k4
  have HF : Hid (chgB s c = false) := hid (by rw [HR.out]; rfl)
  clear k12 k3 k4
  go_wp2_with (first | (go_at_call 72; refine HS1.out.mono ?_; rintro e w2 ⟨rfl, hb2⟩; obtain ⟨d0, d1, d2, d3, d4, d5, d6, d7, d8⟩ := HD.out.below hb2; have hb12 := HB1.out.trans (hb2.mono HB1.out.size)) | (go_at_call 71; (with_reducible refine HN1.out.mono ?_); rintro e w' ⟨rfl, rfl⟩))
  go_ret
  exact ⟨ret_bool HF.out.symm, HBV.out.trans (hb12.mono HBV.out.size)⟩
end Go.Proofs.YtlbjbmpkaniojaaGreat
namespace Go.Proofs.YtlbjbmpkaniojaaGreat
open Go Go.RowKit Go.Maps
theorem take_eq_next {l m : List En} {k : Nat} (h : l.take k = m.take k) (h1 : k < l.length) (h2 : k < m.length) (e : l[k] = m[k]) : l.take (k + 1) = m.take (k + 1) := by
  rw [List.take_succ_eq_append_getElem h1, List.take_succ_eq_append_getElem h2, h, e]
theorem ne_at {l m : List En} {k : Nat} (h1 : k < l.length) (h2 : k < m.length) (e : l[k] ≠ m[k]) : decide (l = m) = false := by
  rw [decide_eq_false_iff_not]
  intro h
  subst h
  exact e rfl
theorem ne_len {l m : List En} (h : l.length ≠ m.length) : decide (l = m) = false := by
  rw [decide_eq_false_iff_not]
  intro e
  exact h (by rw [e])
theorem eq_take {l m : List En} (h : l.length = m.length) (e : l.take l.length = m.take l.length) : decide (l = m) = true := by
  rw [decide_eq_true_eq]
  rw [List.take_of_length_le (Nat.le_refl _), List.take_of_length_le (by omega)] at e
  exact e
set_option maxHeartbeats 4000000 in
set_option maxRecDepth 100000 in
theorem ref6_SameLibrary (v u : Value) (l m : List En) (w : World) (hv : EntsAt w v l) (hu : EntsAt w u m) :
    Calls Tryz.prog 17 #[v, u] w fun e w' => e = .returned (.bool (decide (l = m))) ∧ Below w.heap.size w w' := by
  obtain ⟨a, cap, rfl, h1, hl, h3, HC⟩ := hv.open
  obtain ⟨a', cap', rfl, h1', hl', h3', HD⟩ := hu.open
  have HC' := hid HC
  have HD' := hid HD
  clear HC hv h3 HD hu h3'
  by_cases hn : l.length = m.length
  case neg =>
    have hne : (((l.length : Nat) : Int) != (m.length : Int)) = true := by simp; omega
    have HF := hid (ne_len hn)
    clear hn
    go_enter Tryz.func17, Tryz.ntmps17
    go_wp2
    go_ret
    exact ⟨ret_bool HF.out.symm, Below.refl _ _⟩
  have HN := hid hn
  have hne : (((l.length : Nat) : Int) != (m.length : Int)) = false := by simp [hn]
  have HET := hid (eq_take hn)
  clear hn
  go_enter Tryz.func17, Tryz.ntmps17
  go_wp2
  go_loopw [5] (fun i wr => ∃ k : Nat, k ≤ l.length ∧ i = .int .i64 k ∧ l.take k = m.take k ∧ Below w.heap.size w wr) (fun i _ => l.length - (intOf i).toNat)
  case atStart => exact ⟨0, by omega, rfl, by simp, Below.refl _ _⟩
  case round =>
    obtain ⟨k, hk, rfl, ht, hb⟩ := hrel
    have hsz := hb.size
    by_cases hlt : k < l.length
    · have hlt2 : k < m.length := by have := HN.out; omega
      obtain ⟨b, o, xS, xU, xP, rfl, c0, c1, c2, c3, c4, hx⟩ := HC'.out k hlt
      obtain ⟨b', o', yS, yU, yP, rfl, f0, f1, f2, f3, f4, hy⟩ := HD'.out k hlt2
      have c0 := (hb.cell (World.block_lt_of_cell? _ _ c0)).trans c0
      have c1 := (hb.cell (World.block_lt_of_cell? _ _ c1)).trans c1
      have c2 := (hb.cell (World.block_lt_of_cell? _ _ c2)).trans c2
      have c3 := (hb.cell (World.block_lt_of_cell? _ _ c3)).trans c3
      have c4 := (hb.cell (World.block_lt_of_cell? _ _ c4)).trans c4
      have f0 := (hb.cell (World.block_lt_of_cell? _ _ f0)).trans f0
      have f1 := (hb.cell (World.block_lt_of_cell? _ _ f1)).trans f1
      have f2 := (hb.cell (World.block_lt_of_cell? _ _ f2)).trans f2
      have f3 := (hb.cell (World.block_lt_of_cell? _ _ f3)).trans f3
      have f4 := (hb.cell (World.block_lt_of_cell? _ _ f4)).trans f4
      have HT1 := hid (fun (e : l[k] = m[k]) => take_eq_next ht hlt hlt2 e)
      have HT2 := hid (fun (e : l[k] ≠ m[k]) => ne_at hlt hlt2 e)
      obtain ⟨x, hxe⟩ : ∃ x, l[k] = x := ⟨_, rfl⟩
      obtain ⟨y, hye⟩ : ∃ y, m[k] = y := ⟨_, rfl⟩
      rw [hxe] at c0 c1 hx
      rw [hye] at f0 f1 hy
      rw [hxe, hye] at HT1 HT2
      obtain ⟨bb, hbb⟩ : ∃ bb, decide (x = y) = bb := ⟨_, rfl⟩
      have HSE := hid (fun (X : World) (hX : Below wr.heap.size wr X) => ref6_SameEntry xS xU xP yS yU yP x y X ((hx.below hb).below hX) ((hy.below hb).below hX))
      simp only [hbb] at HSE
      have HBB := hid hbb
      obtain ⟨a1, k1, rfl, -⟩ := hx.s.open
      obtain ⟨a2, k2, rfl, -⟩ := hx.u.open
      obtain ⟨a3, k3, rfl, -⟩ := hx.p.open
      obtain ⟨b1, j1, rfl, -⟩ := hy.s.open
      obtain ⟨b2, j2, rfl, -⟩ := hy.u.open
      obtain ⟨b3, j3, rfl, -⟩ := hy.p.open
      have HB := hid hb
      have y0 : (0 : Int) ≤ (k : Int) := by omega
      have y1 : (k : Int) < (l.length : Int) := by omega
      have y2 : (k : Int) < (m.length : Int) := by omega
      clear hb hx hy hxe hye hbb ht
      go_wp2
      go_region_held3 (fun w' => w'.cell? ⟨b, o + k * 5, none⟩ = some (.string x.name) ∧ w'.cell? ⟨b, o + k * 5 + 1, none⟩ = some (.string x.who) ∧ w'.cell? ⟨b, o + k * 5 + 2, none⟩ = some (.slice a1 x.says.length k1) ∧ w'.cell? ⟨b, o + k * 5 + 3, none⟩ = some (.slice a2 x.uses.length k2) ∧ w'.cell? ⟨b, o + k * 5 + 4, none⟩ = some (.slice a3 x.proof.length k3) ∧
          w'.cell? ⟨b', o' + k * 5, none⟩ = some (.string y.name) ∧ w'.cell? ⟨b', o' + k * 5 + 1, none⟩ = some (.string y.who) ∧ w'.cell? ⟨b', o' + k * 5 + 2, none⟩ = some (.slice b1 y.says.length j1) ∧ w'.cell? ⟨b', o' + k * 5 + 3, none⟩ = some (.slice b2 y.uses.length j2) ∧ w'.cell? ⟨b', o' + k * 5 + 4, none⟩ = some (.slice b3 y.proof.length j3))
        (first | exact ⟨by assumption, by assumption, by assumption, by assumption, by assumption, by assumption, by assumption, by assumption, by assumption, by assumption⟩ | go_keep)
        (first
        | (go_at_call 52; (with_reducible refine (HSE.out _ (Below.refl _ _)).mono ?_); rintro e w5 ⟨rfl, hb5⟩; have hbr5 : Below wr.heap.size wr w5 := hb5; have q0 := (hbr5.cell (World.block_lt_of_cell? _ _ c0)).trans c0; have q1 := (hbr5.cell (World.block_lt_of_cell? _ _ c1)).trans c1; have q2 := (hbr5.cell (World.block_lt_of_cell? _ _ c2)).trans c2; have q3 := (hbr5.cell (World.block_lt_of_cell? _ _ c3)).trans c3; have q4 := (hbr5.cell (World.block_lt_of_cell? _ _ c4)).trans c4; have r0 := (hbr5.cell (World.block_lt_of_cell? _ _ f0)).trans f0; have r1 := (hbr5.cell (World.block_lt_of_cell? _ _ f1)).trans f1; have r2 := (hbr5.cell (World.block_lt_of_cell? _ _ f2)).trans f2; have r3 := (hbr5.cell (World.block_lt_of_cell? _ _ f3)).trans f3; have r4 := (hbr5.cell (World.block_lt_of_cell? _ _ f4)).trans f4)
        | (go_at_call 52; (with_reducible refine (HSE.out _ (Below.drew (Below.refl _ _))).mono ?_); rintro e w5 ⟨rfl, hb5⟩; have hbr5 : Below wr.heap.size wr w5 := (below_self_drew _).trans hb5; have q0 := (hbr5.cell (World.block_lt_of_cell? _ _ c0)).trans c0; have q1 := (hbr5.cell (World.block_lt_of_cell? _ _ c1)).trans c1; have q2 := (hbr5.cell (World.block_lt_of_cell? _ _ c2)).trans c2; have q3 := (hbr5.cell (World.block_lt_of_cell? _ _ c3)).trans c3; have q4 := (hbr5.cell (World.block_lt_of_cell? _ _ c4)).trans c4; have r0 := (hbr5.cell (World.block_lt_of_cell? _ _ f0)).trans f0; have r1 := (hbr5.cell (World.block_lt_of_cell? _ _ f1)).trans f1; have r2 := (hbr5.cell (World.block_lt_of_cell? _ _ f2)).trans f2; have r3 := (hbr5.cell (World.block_lt_of_cell? _ _ f3)).trans f3; have r4 := (hbr5.cell (World.block_lt_of_cell? _ _ f4)).trans f4))
      have HB5 := hid (HB.out.trans (hbr5.mono hsz))
      clear hb5 hbr5 q0 q1 q2 q3 q4 r0 r1 r2 r3 r4 c0 c1 c2 c3 c4 f0 f1 f2 f3 f4
      cases bb
      case true =>
        have HTT := hid (HT1.out (of_decide_eq_true HBB.out))
        clear HBB
        go_wp2
        go_roundw
        case rel => exact ⟨k + 1, by omega, by go_num, HTT.out, HB5.out⟩
        case measure => simp [intOf]; omega
      case false =>
        have HTF := hid (HT2.out (of_decide_eq_false HBB.out))
        clear HBB
        go_wp2
        go_ret
        exact ⟨ret_bool HTF.out.symm, HB5.out⟩
    · have hke : k = l.length := by omega
      subst hke
      have HTT := hid (HET.out ht)
      clear ht
      go_wp2
      go_ret
      exact ⟨ret_bool HTT.out.symm, hb⟩
end Go.Proofs.YtlbjbmpkaniojaaGreat
namespace Go.Proofs.YtlbjbmpkaniojaaGreat
open Go Go.RowKit Go.Maps Go.Shelf
attribute [local go_sem] Oper.semAt_some
abbrev BkE := Nat × Chg × V3
def bkX (x : BkE) : Array Value := #[.int .i64 x.1, chV x.2.1 x.2.2.1 x.2.2.2.1 x.2.2.2.2]
def bkE (cs : List Chg) (pre : List BkE) (x : BkE) (_ : World) : Prop := x.1 + pre.length + 1 = cs.length ∧ cs[x.1]? = some x.2.1 ∧ ∃ a1 k1 a2 k2 a3 k3, x.2.2 = (.slice a1 x.2.1.ent.says.length k1, .slice a2 x.2.1.ent.uses.length k2, .slice a3 x.2.1.ent.proof.length k3)
set_option maxHeartbeats 2000000 in
set_option maxRecDepth 100000 in
theorem back_seq (bx : Nat) (ca : Option Addr) (cc : Nat) (cs : List Chg) (wb w0 : World) (hv : ChsAt wb (.slice ca cs.length cc) cs) (hb : Below wb.heap.size wb w0) (hc : w0.cell? ⟨bx, 0, none⟩ = some (.slice ca cs.length cc)) :
    SeqE Tryz.prog 138 #[.pointer (some ⟨bx, 0, none⟩)] bkX (bkE cs) (fun xs => xs.length = cs.length) (fun k => k < wb.heap.size ∨ k = bx) w0 := fun l' J Jx M0 W hW hM0 hJ hJx hY h0 => by
  refine callsIn_of_wp Tryz.func138 rfl trivial ?_ rfl
  simp only [Tryz.ntmps138, List.size_toArray, List.length_cons, List.length_nil, Nat.reduceAdd, Nat.reduceSub, Array.replicate_succ, Array.replicate_zero, List.push_toArray, List.append_toArray, List.nil_append, List.cons_append]
  have c1 := (hW.cell (World.block_lt_of_cell? _ _ hc)).trans hc
  have hbW := hb.trans (hW.mono hb.size)
  obtain ⟨ca', cc', e', -, hcl, -, ZC⟩ := hv.open
  cases e'
  have HCC := hid ZC
  have HM0 : Hid (∀ q, M0 q → wb.heap.size ≤ q ∧ q ≠ bx) := hid (fun q hq => by have := (hM0 q hq).1; omega)
  have HBW := hid hbW
  have HJ0 := hid h0
  have HC1 := hid c1
  have hbxW := World.block_lt_of_cell? _ _ c1
  clear hM0 h0 hc hb hv hW ZC hbW
  gi_wp2
  clear c1
  gi_loopw [3] (fun kv wr => ∃ (m : Nat) (mm : Int) (pre : List BkE) (M : Nat → Prop), kv = .int .i64 mm ∧ (m : Int) = mm + 1 ∧ pre.length + m = cs.length ∧ J pre M wr ∧ (∀ q, M q → wb.heap.size ≤ q ∧ q ≠ bx) ∧ Below wb.heap.size wb wr ∧ wr.cell? ⟨bx, 0, none⟩ = some (.slice ca cs.length cc)) (fun kv _ => (intOf kv + 1).toNat)
  case atStart => exact ⟨cs.length, (cs.length : Int) - 1, [], M0, by go_num, by omega, by simp, HJ0.out, HM0.out, HBW.out, HC1.out⟩
  case round =>
    clear HM0 HBW HJ0 HC1
    obtain ⟨m, mm, pre, M, rfl, hmm, hpl, hj, hM, hbr, hbx⟩ := hrel
    have HPL := hid hpl
    have HMM := hid hM
    have HBR := hid hbr
    have HJJ := hid hj
    have HBX := hid hbx
    clear hM hbr hj
    cases m with
    | succ k =>
      obtain rfl : mm = (k : Int) := by omega
      have hlt : k < cs.length := by omega
      have y0 : (0 : Int) ≤ (k : Int) := by omega
      have y1 : (k : Int) < (cs.length : Int) := by omega
      obtain ⟨b, o, vS, vU, vP, rfl, z0, z1, z2, z3, z4, z5, z6, z7, z8, hce⟩ := HCC.out k hlt
      replace z0 := (HBR.out.cell (World.block_lt_of_cell? _ _ z0)).trans z0
      replace z1 := (HBR.out.cell (World.block_lt_of_cell? _ _ z1)).trans z1
      replace z2 := (HBR.out.cell (World.block_lt_of_cell? _ _ z2)).trans z2
      replace z3 := (HBR.out.cell (World.block_lt_of_cell? _ _ z3)).trans z3
      replace z4 := (HBR.out.cell (World.block_lt_of_cell? _ _ z4)).trans z4
      replace z5 := (HBR.out.cell (World.block_lt_of_cell? _ _ z5)).trans z5
      replace z6 := (HBR.out.cell (World.block_lt_of_cell? _ _ z6)).trans z6
      replace z7 := (HBR.out.cell (World.block_lt_of_cell? _ _ z7)).trans z7
      replace z8 := (HBR.out.cell (World.block_lt_of_cell? _ _ z8)).trans z8
      obtain ⟨sa, sk, rfl, -⟩ := hce.e.s.open
      obtain ⟨ta, tk, rfl, -⟩ := hce.e.u.open
      obtain ⟨pa, pk, rfl, -⟩ := hce.e.p.open
      have hget : cs[k]? = some cs[k] := List.getElem?_eq_getElem hlt
      obtain ⟨c, hcx⟩ : ∃ c, cs[k] = c := ⟨_, rfl⟩
      rw [hcx] at z0 z1 z2 z3 z4 z5 z6 z7 z8 hget
      obtain ⟨fn, tmps, assign, body, hy, hR⟩ := hY pre (k, c, (.slice sa c.ent.says.length sk, .slice ta c.ent.uses.length tk, .slice pa c.ent.proof.length pk)) M wr HJJ.out ⟨by simp; omega, hget, _, _, _, _, _, _, rfl⟩
      dsimp only [bkX, chV] at hy
      have HRR := hid hR
      clear hR hce hget hcx hbx
      have hbx := HBX.out
      gi_wp2
      refine HRR.out.mono ?_
      rintro e W3 ⟨M', hM', hkb, ⟨rfl, hJ3⟩ | ⟨rfl, hJx3⟩⟩
      · have hbb3 : Below wb.heap.size wb W3 := HBR.out.trans (hkb.below HBR.out.size (fun q hq => (HMM.out q hq).1))
        have hM3 : ∀ q, M' q → wb.heap.size ≤ q ∧ q ≠ bx := by
          intro q hq
          rcases hM' q hq with h1 | h1
          · exact HMM.out q h1
          · have := HBR.out.size; have := World.block_lt_of_cell? _ _ HBX.out; simp at this; exact ⟨by omega, by omega⟩
        have hx3 : W3.cell? ⟨bx, 0, none⟩ = some (.slice (some ⟨b, o, none⟩) cs.length cc) := (World.cell?_of_block (hkb.same _ (World.block_lt_of_cell? _ _ HBX.out) (fun h => (HMM.out _ h).2 rfl))).trans HBX.out
        have HJ3 := hid hJ3
        have HB3 := hid hbb3
        have HM3 := hid hM3
        have HX3 := hid hx3
        clear hbb3 hM3 hJ3 hM' hkb hx3 z0 z1 z2 z3 z4 z5 z6 z7 z8 hbx
        gi_wp2
        go_roundw
        case rel => exact ⟨k, (k : Int) - 1, _, M', by go_num, by omega, by simp; omega, HJ3.out, HM3.out, HB3.out, HX3.out⟩
        case measure => simp [intOf]
      · gi_wp2
        refine bodyPost_ret (results_none rfl _ _ _) rfl ?_
        exact ⟨⟨_, rfl⟩, .inr ⟨_, M', hJx3⟩⟩
    | zero =>
      obtain rfl : mm = -1 := by omega
      clear hbx
      gi_wp2
      go_end0
      exact ⟨⟨_, rfl⟩, .inl ⟨pre, M, by omega, HJJ.out⟩⟩
theorem sl_Backward (a : Option Addr) (n c : Nat) (w : World) :
    Calls Tryz.prog 93 #[.slice a n c] w fun e w' => e = .returned (.func (.func 138) #[] #[.pointer (some ⟨w.heap.size, 0, none⟩)]) ∧ w.alloc (.cells #[.slice a n c] 25) = w' := by
  go_enter Tryz.func93, Tryz.ntmps93
  go_wp2
  go_ret
  exact ⟨rfl, rfl⟩
end Go.Proofs.YtlbjbmpkaniojaaGreat
