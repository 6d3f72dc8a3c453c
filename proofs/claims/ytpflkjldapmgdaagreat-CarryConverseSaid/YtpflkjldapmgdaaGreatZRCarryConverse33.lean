/-
  WHAT IT HOLDS: contracts of says, Along and There of package carry. Conditions: the arguments read as data; small signs, small libraries.
  WHAT IT HOLDS: plain laws: what is detached, and what a proof says, is one thing alone; what the proofs of a moved statement say. No program in sight.
  WHAT IT HOLDS: the contract of the helper awake of the laws of layer 8. No condition.
-/
import Derived.Test.YtpflkjldapmgdaaGreatZRCarryConverse31
import Derived.Test.YtpflkjldapmgdaaGreatZRCarryConverse29
import Derived.Test.YtpflkjldapmgdaaGreatZRCarryConverse32
import Derived.Test.YtpflkjldapmgdaaGreatZRCarryConverse20
namespace Go.Proofs.YtpflkjldapmgdaaGreat
open Go Go.RowKit Go.Maps
theorem txts_of {w : World} {b : Nat} {l : List Nm} (hl : l.length ≤ 1000) (hs : ∀ x ∈ l, x.size ≤ 140737488355328) (hc : ∀ j (h : j < l.length), w.cell? ⟨b, j, none⟩ = some (.string l[j])) : TxtsAt w (.slice (some ⟨b, 0, none⟩) l.length l.length) l := by
  refine ⟨⟨by simp, _, _, rfl, Nat.le_refl _, by omega, (fun h => by cases h), fun j u hj => ⟨b, 0, rfl, ?_⟩⟩, hs⟩
  rw [List.getElem?_map] at hj
  cases e : l[j]? with
  | none => rw [e] at hj; simp at hj
  | some x =>
    rw [e] at hj
    simp at hj
    obtain ⟨h1, h2⟩ := List.getElem?_eq_some_iff.1 e
    rw [Nat.zero_add, hc j h1, h2, hj]
theorem txts_lit1 (w : World) (x : Nm) (T : TypeId) (hx : x.size ≤ 140737488355328) : TxtsAt (w.alloc (.cells #[.string x] T)) (.slice (some ⟨w.heap.size, 0, none⟩) 1 1) [x] :=
  txts_of (l := [x]) (by simp) (by simpa using hx) fun j h => by
    match j, h with
    | 0, _ => rw [World.cell?_alloc_new]; rfl
theorem txts_lit2 (w : World) (x y : Nm) (T : TypeId) (hx : x.size ≤ 140737488355328) (hy : y.size ≤ 140737488355328) : TxtsAt (w.alloc (.cells #[.string x, .string y] T)) (.slice (some ⟨w.heap.size, 0, none⟩) 2 2) [x, y] :=
  txts_of (l := [x, y]) (by simp) (by simp; exact ⟨hx, hy⟩) fun j h => by
    match j, h with
    | 0, _ => rw [World.cell?_alloc_new]; rfl
    | 1, _ => rw [World.cell?_alloc_new]; rfl
theorem txts_lit3 (w : World) (x y z : Nm) (T : TypeId) (hx : x.size ≤ 140737488355328) (hy : y.size ≤ 140737488355328) (hz : z.size ≤ 140737488355328) : TxtsAt (w.alloc (.cells #[.string x, .string y, .string z] T)) (.slice (some ⟨w.heap.size, 0, none⟩) 3 3) [x, y, z] :=
  txts_of (l := [x, y, z]) (by simp) (by simp; exact ⟨hx, hy, hz⟩) fun j h => by
    match j, h with
    | 0, _ => rw [World.cell?_alloc_new]; rfl
    | 1, _ => rw [World.cell?_alloc_new]; rfl
    | 2, _ => rw [World.cell?_alloc_new]; rfl
/-- what says answers. -/
def SaysR (s : Sg) (l : List En) (ns : List Nm) (ts : List (List Int)) (e : Int) : Prop := (libB s l = false ∧ ts = [] ∧ e = 1) ∨ (libB s l = true ∧ ((givL l ns = none ∧ ts = [] ∧ e = 5) ∨ (givL l ns = some ts ∧ e = 0)))
theorem terms_nilC (w : World) : Terms w (.slice none 0 0) [] := ⟨[], ⟨rfl, none, 0, rfl, Nat.le_refl _, by simp, fun _ => rfl, fun j u hj => by simp at hj⟩, rfl, fun i u t h => by simp at h⟩
theorem findR_some {s : Sg} {l : List En} {n : Nm} {i : Nat} (h : libB s l = true) (hi : idxN l n = some i) : findR s l n = ((i : Int), 0) := by unfold findR; rw [h, hi]; rfl
theorem findR_none {s : Sg} {l : List En} {n : Nm} (h : libB s l = true) (hi : idxN l n = none) : findR s l n = (0, 5) := by unfold findR; rw [h, hi]; rfl
set_option maxHeartbeats 2000000 in
theorem carry_says (vs vl vn : Value) (s : Sg) (l : List En) (ns : List Nm) (w : World) (hs : SignAt w vs s) (hl : EntsAt w vl l) (hn : TxtsAt w vn ns) (hs1 : s.length ≤ 1000) (hl1 : l.length ≤ 1000) (hn1 : ns.length ≤ 1000) :
    Calls Tryz.prog 41 #[vs, vl, vn] w fun e w' => ∃ u ts er, SaysR s l ns ts er ∧ e = .returned (.tuple #[u, .int .i64 er]) ∧ Terms w' u ts ∧ Below w.heap.size w w' := by
  have HV := hid (deps_Valid vs vl s l w hs hl hs1 hl1)
  have HSG := hid hs
  have HLL := hid hl
  have HNS := hid hn.2
  obtain ⟨la, lc, rfl, -, ll, -, HC⟩ := hl.open
  obtain ⟨na, nc, rfl, -, -, -, NC⟩ := hn.open
  have HC' := hid HC
  have NC' := hid NC
  clear HC NC hl hs hn
  cases g : libB s l
  · have HR : Hid (SaysR s l ns [] 1) := hid (Or.inl ⟨g, rfl, rfl⟩)
    rw [g] at HV
    clear g
    go_enter Tryz.func41, Tryz.ntmps41
    go_wp2_with fail
    refine HV.out.mono ?_
    rintro e w1 ⟨rfl, hb1⟩
    go_wp2
    go_ret2
    exact ⟨_, [], 1, HR.out, rfl, terms_nilC _, hb1⟩
  rw [g] at HV
  have G := hid g
  clear g
  go_enter Tryz.func41, Tryz.ntmps41
  go_wp2_with fail
  refine HV.out.mono ?_
  rintro e w1 ⟨rfl, hb1⟩
  have hown0 := World.ownsRow_nil w1 w.heap.size 28 1
  go_wp2
  go_loopw [8, 19] (fun u kv wr => ∃ (k : Nat) (vvs : List Value) (ts : List (List Int)), k ≤ ns.length ∧ kv = .int .i64 k ∧ wr.ownsRow w.heap.size 28 1 u k vvs ∧ givL l (ns.take k) = some ts ∧ (∀ (i : Nat) (v : Value) (z : List Int), vvs[i]? = some v → ts[i]? = some z → Ints w v z) ∧ Below w.heap.size w wr) (fun _ kv _ => ns.length - (intOf kv).toNat)
  case atStart => exact ⟨0, [], [], by omega, rfl, hown0, by simp [givL], by simp, hb1⟩
  case round =>
    clear hown0 hb1
    obtain ⟨k, vvs, ts, hk, rfl, hown, hgiv, hrd, hb⟩ := hrel
    have hsz := hb.size
    have hvl : vvs.length = k := by have := hown.1; simpa using this
    have htl : ts.length = k := by have := givL_len hgiv; rw [List.length_take] at this; omega
    by_cases hlt : k < ns.length
    · obtain ⟨xb, xo, rfl, x0⟩ := NC'.out k hlt
      have x1 := (hb.cell (World.block_lt_of_cell? _ _ x0)).trans x0
      have hxs := HNS.out ns[k] (List.getElem_mem hlt)
      have hsn := givL_snoc l (ns.take k) ns[k]
      rw [← List.take_succ_eq_append_getElem hlt, hgiv] at hsn
      have hno := fun h => givL_no (l := l) (List.getElem_mem hlt) h
      obtain ⟨x, hx⟩ : ∃ x, ns[k] = x := ⟨_, rfl⟩
      rw [hx] at x1 hxs hsn hno
      have HFI := hid (deps_Find vs (.slice la l.length lc) s l x wr (HSG.out.below hb) (HLL.out.below hb) hs1 hl1 hxs)
      have HOWN := hid hown
      have HRD := hid hrd
      have HB := hid hb
      have HVL := hid hvl
      have HTL := hid htl
      cases hix : idxN l x with
      | none =>
        have HR : Hid (SaysR s l ns [] 5) := hid (Or.inr ⟨G.out, Or.inl ⟨hno (saysN_none hix), rfl, rfl⟩⟩)
        rw [findR_none G.out hix] at HFI
        clear x0 hx hsn hno hix hown hrd hb hvl htl hgiv
        go_wp2_with fail
        refine HFI.out.mono ?_
        rintro e w2 ⟨rfl, hb2⟩
        go_wp2
        go_ret2
        exact ⟨_, [], 5, HR.out, rfl, terms_nilC _, HB.out.trans (hb2.mono hsz)⟩
      | some j =>
        obtain ⟨hj, hsay⟩ := saysN_some hix
        rw [hsay] at hsn
        rw [findR_some G.out hix] at HFI
        obtain ⟨eb, eo, eS, eu, ep, rfl, -, -, y2, -, -, ye⟩ := HC'.out j hj
        have y2' := (HB.out.cell (World.block_lt_of_cell? _ _ y2)).trans y2
        obtain ⟨sa, sc, rfl, -⟩ := ye.s.open
        have hjl : j < l.length := hj
        have HSN : Hid (givL l (ns.take (k + 1)) = some (ts ++ [l[j].says])) := hid hsn
        have HYS := hid ye.s
        obtain ⟨t, ht⟩ : ∃ t, l[j].says = t := ⟨_, rfl⟩
        rw [ht] at y2' HSN HYS
        clear x0 hx hsn hno hix hown hrd hb hvl htl hgiv hsay y2 ye ht
        go_wp2_with fail
        refine HFI.out.mono ?_
        rintro e w2 ⟨rfl, hb2⟩
        have HB2 := hid (HB.out.trans (hb2.mono hsz))
        have HO2 := hid (owns_below HOWN.out hb2)
        have y2'' := (hb2.cell (World.block_lt_of_cell? _ _ y2')).trans y2'
        have hsz2 := HB2.out.size
        clear hb2 y2'
        go_wp2_with (first
          | (at_builtin; refine wpList_append_row rfl _ _ 56 rfl w.heap.size 28 el_term Tryz.underlying56 rfl (by decide) _ _ _ rfl (HO2.out.alloc _) _ 1 [.slice sa t.length sc] rfl (row_one_new _ _ _) (oneCell_one rfl) (by omega) (by omega) (by simp; omega) ?_; intro v' w4 hown4 hgrow4 _))
        go_roundw
        case rel =>
          refine ⟨k + 1, _, _, by omega, by go_num, hown4, HSN.out, fun q v z hv hz => ?_, (HB2.out.alloc hsz2 _).grown hgrow4 (by have := HB2.out.size; simp; omega) (fun q hq => (HO2.out.lt q hq).1)⟩
          have e1 := HVL.out
          have e2 := HTL.out
          by_cases hq : q < k
          · rw [List.getElem?_append_left (by omega)] at hv hz
            exact HRD.out q v z hv hz
          · rw [List.getElem?_append_right (by omega)] at hv hz
            have e0 : q - k = 0 := by have := (List.getElem?_eq_some_iff.1 hv).1; simp at this; omega
            rw [e1, e0] at hv
            rw [e2, e0] at hz
            simp at hv hz
            subst hv; subst hz
            exact HYS.out
        case measure => simp [intOf]; omega
    · have hkl : k = ns.length := by omega
      subst hkl
      rw [List.take_of_length_le (Nat.le_refl _)] at hgiv
      have HR : Hid (SaysR s l ns ts 0) := hid (Or.inr ⟨G.out, Or.inr ⟨hgiv, rfl⟩⟩)
      have HT : Hid (Terms wr u8 ts) := hid ⟨vvs, by unfold Vals; rw [hvl]; exact RowK.of_owns hown (by omega), by omega, fun q v z h1 h2 => (hrd q v z h1 h2).below hb⟩
      clear hgiv hown hrd
      go_wp2
      go_ret2
      exact ⟨_, ts, 0, HR.out, rfl, HT.out, hb⟩
theorem givL_two {l : List En} {a b : Nm} {ts : List (List Int)} (h : givL l [a, b] = some ts) : ∃ p q, ts = [p, q] ∧ saysN l a = some p ∧ saysN l b = some q := by
  unfold givL at h
  unfold givL at h
  unfold givL at h
  cases h1 : saysN l a with
  | none => rw [h1] at h; cases h
  | some p =>
    cases h2 : saysN l b with
    | none => rw [h1, h2] at h; cases h
    | some q => rw [h1, h2] at h; cases h; exact ⟨p, q, rfl, rfl, rfl⟩
theorem givL_three {l : List En} {a b c : Nm} {ts : List (List Int)} (h : givL l [a, b, c] = some ts) : ∃ p q r, ts = [p, q, r] ∧ saysN l a = some p ∧ saysN l b = some q ∧ saysN l c = some r := by
  unfold givL at h
  cases h1 : saysN l a with
  | none => rw [h1] at h; cases h
  | some p =>
    cases h2 : givL l [b, c] with
    | none => rw [h1, h2] at h; cases h
    | some us =>
      rw [h1, h2] at h
      cases h
      obtain ⟨q, r, rfl, h3, h4⟩ := givL_two h2
      exact ⟨p, q, r, rfl, rfl, h3, h4⟩
/-- the error of a library and of names that must be there. -/
def nmdI (s : Sg) (l : List En) (ns : List Nm) : Int := if libB s l then (if (givL l ns).isNone then 5 else 0) else 1
theorem SaysR.named {s : Sg} {l : List En} {ns : List Nm} {ts : List (List Int)} {e : Int} (h : SaysR s l ns ts e) : e = nmdI s l ns ∧ (e = 0 → libB s l = true ∧ givL l ns = some ts) := by
  unfold nmdI
  rcases h with ⟨h1, rfl, rfl⟩ | ⟨h1, ⟨h2, rfl, rfl⟩ | ⟨h2, rfl⟩⟩
  · rw [h1]; exact ⟨rfl, fun h => by cases h⟩
  · rw [h1, h2]; exact ⟨rfl, fun h => by cases h⟩
  · rw [h1, h2]; exact ⟨rfl, fun _ => ⟨rfl, rfl⟩⟩
/-- what Along answers. -/
def AloR (s : Sg) (l : List En) (a n : Nm) (x : List Int × Int) : Prop :=
  (nmdI s l [a, n] ≠ 0 ∧ x = ([], nmdI s l [a, n])) ∨ (nmdI s l [a, n] = 0 ∧ libB s l = true ∧ ∃ p q, saysN l a = some p ∧ saysN l n = some q ∧ DetR s p q x)
theorem det_len {s : Sg} {m n : List Int} {y : List Int × Int} (h : DetR s m n y) : y.1.length ≤ 60 := by
  rcases h with ⟨-, rfl⟩ | ⟨-, -, ⟨-, rfl⟩ | ⟨A, B, -, -, -, ⟨-, rfl⟩ | ⟨m, -, ⟨hb, rfl⟩ | ⟨-, rfl⟩⟩⟩⟩
  · simp
  · simp
  · simp
  · rw [canonL_len]; exact (madeB_iff.1 hb).1
  · simp
set_option maxHeartbeats 1000000 in
theorem carry_Along (vs vl : Value) (s : Sg) (l : List En) (a n : Nm) (w : World) (hs : SignAt w vs s) (hl : EntsAt w vl l) (hs1 : s.length ≤ 1000) (hl1 : l.length ≤ 1000) (ha : a.size ≤ 140737488355328) (hn : n.size ≤ 140737488355328) :
    Calls Tryz.prog 10 #[vs, vl, .string a, .string n] w fun e w' => ∃ x u, AloR s l a n x ∧ e = .returned (.tuple #[u, .int .i64 x.2]) ∧ Ints w' u x.1 ∧ Below w.heap.size w w' := by
  have hlit := txts_lit2 w a n 9 ha hn
  have hb0 : Below w.heap.size w (w.alloc (.cells #[.string a, .string n] 9)) := (Below.refl _ _).alloc (Nat.le_refl _) _
  have HSY := hid (carry_says vs vl _ s l [a, n] _ (hs.below hb0) (hl.below hb0) hlit hs1 hl1 (by simp))
  have HB0 := hid hb0
  have HSG := hid hs
  clear hlit hb0 hl hs
  go_enter Tryz.func10, Tryz.ntmps10
  go_wp2_with fail
  refine HSY.out.mono ?_
  rintro e w1 ⟨u, ts, er, hr, rfl, hT, hb1⟩
  have hb := HB0.out.trans (hb1.mono HB0.out.size)
  obtain ⟨he, hz⟩ := hr.named
  by_cases h0 : er = 0
  · obtain ⟨hlib, hg⟩ := hz h0
    obtain ⟨p, q, rfl, hp, hq⟩ := givL_two hg
    subst h0
    have HR : Hid (∀ x, DetR s p q x → AloR s l a n x) := hid fun x hx => Or.inr ⟨he.symm, hlib, p, q, hp, hq, hx⟩
    obtain ⟨ta, tc, rfl, tcap, -, -, TC⟩ := hT.open
    obtain ⟨tb, to, up, rfl, k0, i0⟩ := TC 0 (by simp)
    obtain ⟨tb', to', uq, he', k1, i1⟩ := TC 1 (by simp)
    obtain ⟨rfl, rfl⟩ : tb = tb' ∧ to = to' := by simpa using he'
    simp only [List.getElem_cons_zero, List.getElem_cons_succ, Nat.add_zero, List.length_cons, List.length_nil, Nat.zero_add, Nat.reduceAdd] at k0 k1 tcap i0 i1 ⊢
    have HDE := hid (fun (j : Nat) => kernel_Detach vs up uq s p q (w1.drewN j) ((HSG.out.below hb).drewN j) (i0.drewN j) (i1.drewN j) hs1)
    obtain ⟨pa, pc, rfl, -⟩ := i0.open
    obtain ⟨qa, qc, rfl, -⟩ := i1.open
    have HB := hid hb
    have hszb := hb.size
    clear hr hz hlib hg hp hq TC he' hT hb1 hb he i0 i1
    go_wp2
    go_region_held3 (fun w' => w'.cell? ⟨tb, to, none⟩ = some (.slice pa p.length pc) ∧ w'.cell? ⟨tb, to + 1, none⟩ = some (.slice qa q.length qc)) (first | exact ⟨by assumption, by assumption⟩ | go_keep) (first
      | (go_at_call 42; refine (HDE.out _).mono ?_; rintro e w4 ⟨x, u, hx, rfl, hown, hb4'⟩; have hb4 : Below w1.heap.size w1 w4 := (below_self_drewN w1 _).trans hb4'; have e0 := (hb4.cell (World.block_lt_of_cell? _ _ k0)).trans k0; have e1 := (hb4.cell (World.block_lt_of_cell? _ _ k1)).trans k1))
    have HX := hid (HR.out x hx)
    have HI := hid (Ints.of_owns hown (by have := det_len hx; omega))
    have HB4 := hid (HB.out.trans (hb4.mono hszb))
    clear hx hown hb4 hb4' e0 e1 k0 k1 HDE HR
    go_wp2
    go_ret2
    exact ⟨x, _, HX.out, rfl, by first | exact HI.out | exact HI.out.drewN _, by first | exact HB4.out | exact below_drewN HB4.out _⟩
  · have HR : Hid (AloR s l a n ([], er)) := hid (Or.inl ⟨by rw [← he]; exact h0, by rw [he]⟩)
    have n0 : (er != 0) = true := by simpa using h0
    clear hr he hz hT h0
    go_wp2
    go_ret2
    exact ⟨([], er), _, HR.out, rfl, Ints.nil _, hb⟩
/-- what There answers. -/
def TheR (s : Sg) (l : List En) (a b n : Nm) (x : List Int × Int) : Prop :=
  (nmdI s l [a, b, n] ≠ 0 ∧ x = ([], nmdI s l [a, b, n])) ∨ (nmdI s l [a, b, n] = 0 ∧ libB s l = true ∧ ∃ p q r y, saysN l a = some p ∧ saysN l b = some q ∧ saysN l n = some r ∧ DetR s p r y ∧ ((y.2 ≠ 0 ∧ x = ([], y.2)) ∨ (y.2 = 0 ∧ DetR s q y.1 x)))
set_option maxHeartbeats 2000000 in
theorem carry_There (vs vl : Value) (s : Sg) (l : List En) (a b n : Nm) (w : World) (hs : SignAt w vs s) (hl : EntsAt w vl l) (hs1 : s.length ≤ 1000) (hl1 : l.length ≤ 1000) (ha : a.size ≤ 140737488355328) (hbn : b.size ≤ 140737488355328) (hn : n.size ≤ 140737488355328) :
    Calls Tryz.prog 14 #[vs, vl, .string a, .string b, .string n] w fun e w' => ∃ x u, TheR s l a b n x ∧ e = .returned (.tuple #[u, .int .i64 x.2]) ∧ Ints w' u x.1 ∧ Below w.heap.size w w' := by
  have hlit := txts_lit3 w a b n 9 ha hbn hn
  have hb0 : Below w.heap.size w (w.alloc (.cells #[.string a, .string b, .string n] 9)) := (Below.refl _ _).alloc (Nat.le_refl _) _
  have HSY := hid (carry_says vs vl _ s l [a, b, n] _ (hs.below hb0) (hl.below hb0) hlit hs1 hl1 (by simp))
  have HB0 := hid hb0
  have HSG := hid hs
  clear hlit hb0 hl hs
  go_enter Tryz.func14, Tryz.ntmps14
  go_wp2_with fail
  refine HSY.out.mono ?_
  rintro e w1 ⟨u, ts, er, hr, rfl, hT, hb1⟩
  have hb := HB0.out.trans (hb1.mono HB0.out.size)
  obtain ⟨he, hz⟩ := hr.named
  by_cases h0 : er = 0
  · obtain ⟨hlib, hg⟩ := hz h0
    obtain ⟨p, q, r, rfl, hp, hq, hrr⟩ := givL_three hg
    subst h0
    have HR : Hid (∀ y x, DetR s p r y → ((y.2 ≠ 0 ∧ x = ([], y.2)) ∨ (y.2 = 0 ∧ DetR s q y.1 x)) → TheR s l a b n x) := hid fun y x hy hx => Or.inr ⟨he.symm, hlib, p, q, r, y, hp, hq, hrr, hy, hx⟩
    obtain ⟨ta, tc, rfl, tcap, -, -, TC⟩ := hT.open
    obtain ⟨tb, to, up, rfl, k0, i0⟩ := TC 0 (by simp)
    obtain ⟨tb', to', uq, he', k1, i1⟩ := TC 1 (by simp)
    obtain ⟨rfl, rfl⟩ : tb = tb' ∧ to = to' := by simpa using he'
    obtain ⟨tb', to', ur, he', k2, i2⟩ := TC 2 (by simp)
    obtain ⟨rfl, rfl⟩ : tb = tb' ∧ to = to' := by simpa using he'
    simp only [List.getElem_cons_zero, List.getElem_cons_succ, Nat.add_zero, List.length_cons, List.length_nil, Nat.zero_add, Nat.reduceAdd] at k0 k1 k2 tcap i0 i1 i2 ⊢
    have HDE := hid (fun (j : Nat) => kernel_Detach vs up ur s p r (w1.drewN j) ((HSG.out.below hb).drewN j) (i0.drewN j) (i2.drewN j) hs1)
    obtain ⟨pa, pc, rfl, -⟩ := i0.open
    obtain ⟨qa, qc, rfl, -⟩ := i1.open
    obtain ⟨ra, rc, rfl, -⟩ := i2.open
    have HB := hid hb
    have hszb := hb.size
    have I1 := hid i1
    have K1 := hid k1
    clear hr hz hlib hg hp hq hrr TC he' hT hb1 hb he i0 i1 i2 k1
    go_wp2
    go_region_held3 (fun w' => w'.cell? ⟨tb, to, none⟩ = some (.slice pa p.length pc) ∧ w'.cell? ⟨tb, to + 2, none⟩ = some (.slice ra r.length rc)) (first | exact ⟨by assumption, by assumption⟩ | go_keep) (first
      | (go_at_call 42; refine (HDE.out _).mono ?_; rintro e w4 ⟨y, u, hy, rfl, hown, hb4'⟩; have hb4 : Below w1.heap.size w1 w4 := (below_self_drewN w1 _).trans hb4'; have e0 := (hb4.cell (World.block_lt_of_cell? _ _ k0)).trans k0; have e1 := (hb4.cell (World.block_lt_of_cell? _ _ k2)).trans k2))
    have HI := hid (Ints.of_owns hown (by have := det_len hy; omega))
    have HB4 := hid (HB.out.trans (hb4.mono hszb))
    have HB14 := hid hb4
    obtain ⟨y1, y2⟩ := y
    by_cases hy0 : y2 = 0
    · subst hy0
      have HR2 : Hid (∀ x, DetR s q y1 x → TheR s l a b n x) := hid fun x hx => HR.out _ x hy (Or.inr ⟨rfl, hx⟩)
      obtain ⟨ya, yc, rfl, -⟩ := HI.out.open
      have HD2 := hid (fun (X : World) (hX : Below w4.heap.size w4 X) => kernel_Detach vs (.slice qa q.length qc) (.slice ya y1.length yc) s q y1 X ((HSG.out.below HB4.out).below hX) ((I1.out.below HB14.out).below hX) (HI.out.below hX) hs1)
      have k1 := (HB14.out.cell (World.block_lt_of_cell? _ _ K1.out)).trans K1.out
      have hsz4 := HB4.out.size
      clear hy hown hb4 hb4' e0 e1 k0 k2 HDE HR
      go_wp2_with fail
      refine (HD2.out _ (by first | exact Below.refl _ _ | exact below_self_drewN _ _)).mono ?_
      rintro e w5 ⟨x, u, hx, rfl, hown, hb5⟩
      have HX := hid (HR2.out x hx)
      have HI5 := hid (Ints.of_owns hown (by have := det_len hx; omega))
      have HB5 := hid (show Below w.heap.size w w5 from (HB4.out.trans ((Below.mono (by first | exact hb5 | exact (below_self_drewN w4 _).trans hb5) (Nat.le_refl _) : Below w4.heap.size w4 w5).mono hsz4)))
      clear hx hown hb5
      go_wp2
      go_ret2
      exact ⟨x, _, HX.out, rfl, HI5.out, HB5.out⟩
    · have HX : Hid (TheR s l a b n ([], y2)) := hid (HR.out _ _ hy (Or.inl ⟨hy0, rfl⟩))
      have n0 : (y2 != 0) = true := by simpa using hy0
      clear hy hown hb4 hb4' e0 e1 k0 k2 HDE HR hy0
      go_wp2
      go_ret2
      exact ⟨[], y2, HX.out, _, rfl, Ints.nil _, by first | exact HB4.out | exact below_drewN HB4.out _⟩
  · have HR : Hid (TheR s l a b n ([], er)) := hid (Or.inl ⟨by rw [← he]; exact h0, by rw [he]⟩)
    have n0 : (er != 0) = true := by simpa using h0
    clear hr he hz hT h0
    go_wp2
    go_ret2
    exact ⟨([], er), _, HR.out, rfl, Ints.nil _, hb⟩
end Go.Proofs.YtpflkjldapmgdaaGreat
namespace Go.Proofs.YtpflkjldapmgdaaGreat
open Go Go.RowKit
theorem DetR.unique {s : Sg} {m n : List Int} {x y : List Int × Int} (h : DetR s m n x) (k : DetR s m n y) : x = y := by
  rcases h with ⟨h1, rfl⟩ | ⟨h1, h2, h⟩
  · rcases k with ⟨-, rfl⟩ | ⟨k1, k2, -⟩
    · rfl
    · rw [k1, k2] at h1; cases h1
  · rcases k with ⟨k1, -⟩ | ⟨-, -, k⟩
    · rw [h1, h2] at k1; cases k1
    · rcases h with ⟨h3, rfl⟩ | ⟨A, B, rfl, hA, hB, hu⟩
      · rcases k with ⟨-, rfl⟩ | ⟨A, B, rfl, -⟩
        · rfl
        · simp at h3
      · rcases k with ⟨k3, -⟩ | ⟨A', B', e, hA', hB', ku⟩
        · simp at k3
        · have := cut_unique [A, B] [A', B'] [] [] (by intro z hz; simp at hz; rcases hz with rfl | rfl <;> assumption) (by intro z hz; simp at hz; rcases hz with rfl | rfl <;> assumption) rfl (by simpa using e)
          have e1 := this.1
          simp only [List.cons.injEq, and_true] at e1
          obtain ⟨rfl, rfl⟩ := e1
          exact UR.unique (hB.mono (by omega)) hu ku
theorem sayR.unique {s : Sg} {g l : List (List Int)} {x : St} {y z : List Int × Int} (h : sayR s g l x y) (k : sayR s g l x z) : y = z := by
  unfold sayR at h k
  split at h
  · rename_i hh
    rw [if_pos hh] at k
    rw [h, k]
  · rename_i hh
    rw [if_neg hh] at k
    exact h.unique k
theorem RunR.unique {s : Sg} {g : List (List Int)} {p : List St} {l l' : List (List Int)} {e e' : Int} (h : RunR s g p l e) (k : RunR s g p l' e') : l = l' ∧ e = e' := by
  -- as far as both say something, they say the same
  have key : ∀ n, n ≤ l.length → n ≤ l'.length → l.take n = l'.take n := by
    intro n
    induction n with
    | zero => intro _ _; simp
    | succ n ih =>
      intro h1 h2
      have e0 := ih (by omega) (by omega)
      rw [List.take_succ_eq_append_getElem (by omega), List.take_succ_eq_append_getElem (by omega), e0]
      obtain ⟨st, hst, hs1⟩ := h.1 n l[n] (by simp [List.getElem?_eq_getElem (show n < l.length by omega)])
      obtain ⟨st', hst', hs2⟩ := k.1 n l'[n] (by simp [List.getElem?_eq_getElem (show n < l'.length by omega)])
      rw [hst] at hst'
      cases hst'
      rw [e0] at hs1
      have := congrArg Prod.fst (hs1.unique hs2)
      simp only at this
      rw [this]
  have stop : ∀ {l l' : List (List Int)} {e e' : Int}, RunR s g p l e → RunR s g p l' e' → l.length < l'.length → l = l'.take l.length → False := by
    intro l l' e e' h k hlt ht
    have hl' : l'.length ≤ p.length := by rcases k.2 with ⟨-, h⟩ | ⟨-, h, -⟩ <;> omega
    rcases h.2 with ⟨-, h2⟩ | ⟨h1, h2, st, t, h3, h4⟩
    · omega
    · obtain ⟨st', hst', hs⟩ := k.1 l.length l'[l.length] (by simp [List.getElem?_eq_getElem hlt])
      rw [h3] at hst'
      cases hst'
      rw [← ht] at hs
      exact h1 (congrArg Prod.snd (h4.unique hs))
  rcases Nat.lt_trichotomy l.length l'.length with hlt | heq | hlt
  · have := key l.length (Nat.le_refl _) (by omega)
    rw [List.take_length] at this
    exact (stop h k hlt this).elim
  · have e0 := key l.length (Nat.le_refl _) (by omega)
    rw [List.take_length, heq, List.take_length] at e0
    subst e0
    refine ⟨rfl, ?_⟩
    rcases h.2 with ⟨h1, h2⟩ | ⟨h1, h2, st, t, h3, h4⟩
    · rcases k.2 with ⟨k1, -⟩ | ⟨-, k2, -⟩
      · omega
      · omega
    · rcases k.2 with ⟨-, k2⟩ | ⟨-, -, st', t', k3, k4⟩
      · omega
      · rw [h3] at k3
        cases k3
        exact congrArg Prod.snd (h4.unique k4)
  · have := key l'.length (by omega) (Nat.le_refl _)
    rw [List.take_length] at this
    exact (stop k h hlt this.symm).elim
/-- the proofs of a moved statement. -/
def mvP : List St := [(1, 0, 0), (1, 1, 0), (2, 0, 1)]
def mvP1 : List St := [(1, 0, 0), (2, 0, 0)]
theorem run_moved {s : Sg} {a b r : List Int} (ha : canonL a = a) (hb : canonL b = b) (h : DetR s a b (r, 0)) : RunR s [a, b] mvP [a, b, r] 0 := by
  refine ⟨fun i t hi => ?_, Or.inl ⟨rfl, rfl⟩⟩
  match i, hi with
  | 0, hi => simp at hi; subst hi; exact ⟨_, rfl, by simp [sayR, ha]⟩
  | 1, hi => simp at hi; subst hi; exact ⟨_, rfl, by simp [sayR, hb]⟩
  | 2, hi => simp at hi; subst hi; exact ⟨_, rfl, by simpa [sayR] using h⟩
  | i + 3, hi => simp at hi
theorem run_moved1 {s : Sg} {a r : List Int} (ha : canonL a = a) (h : DetR s a a (r, 0)) : RunR s [a] mvP1 [a, r] 0 := by
  refine ⟨fun i t hi => ?_, Or.inl ⟨rfl, rfl⟩⟩
  match i, hi with
  | 0, hi => simp at hi; subst hi; exact ⟨_, rfl, by simp [sayR, ha]⟩
  | 1, hi => simp at hi; subst hi; exact ⟨_, rfl, by simpa [sayR] using h⟩
  | i + 2, hi => simp at hi
end Go.Proofs.YtpflkjldapmgdaaGreat
namespace Go.Proofs.YtpflkjldapmgdaaGreat
open Go Go.RowKit Go.Maps
def sCK : Sg := [(⟨#[67]⟩, 2), (⟨#[75]⟩, 2)]
def lAw : List En := [⟨⟨#[97]⟩, ⟨#[97, 110, 110]⟩, [0, -1, 0, -2, -1], [], []⟩, ⟨⟨#[98]⟩, ⟨#[97, 110, 110]⟩, [0, -1, -1], [], []⟩]
theorem mgu_aw8 : Mgu sCK [-1] [0, -13, -13] (updM noM (-1) [0, -13, -13]) := by
  have h1 : IsT sCK 24 [-1] := .var _ (by omega) (by omega)
  have h2 : IsT sCK 24 [0, -13, -13] := .app 0 [[-13], [-13]] (by simp [sCK]) (by simp [sCK, arOf]) (by simp; exact .var _ (by omega) (by omega))
  have h0 := UInv.start h1 h2 (by simp) (by simp)
  have h3 := (UInv.bind (L := []) (x := [-1]) (y := [0, -13, -13]) (v := -1) (q := [0, -13, -13]) h0 (Or.inl ⟨.refl h1 (by simp), .refl h2 (by simp)⟩) (by omega) rfl (fun H => by
    cases H with
    | here _ _ h _ => simp at h
    | step _ _ n p g1 g2 g3 _ => simp [noM] at g3)).1
  exact h3.done
theorem det_aw8 : DetR sCK [0, -1, 0, -2, -1] [0, -1, -1] ([0, -1, 0, -2, -2], 0) := by
  refine Or.inr ⟨by decide +kernel, by decide +kernel, Or.inr ⟨[-1], [0, -2, -1], rfl, .var _ (by omega) (by omega), .app 0 [[-2], [-1]] (by simp [sCK]) (by simp [sCK, arOf]) ?_, Or.inr ⟨updM noM (-1) [0, -13, -13], ?_, Or.inl ⟨?_, ?_⟩⟩⟩⟩
  · intro z hz
    simp at hz
    rcases hz with rfl | rfl <;> exact .var _ (by omega) (by omega)
  · have ha : aparL [0, -1, -1] = [0, -13, -13] := by decide +kernel
    rw [ha]; exact mgu_aw8
  · decide +kernel
  · have : canonL (fw (updM noM (-1) [0, -13, -13]) [0, -2, -1]) = [0, -1, 0, -2, -2] := by decide +kernel
    rw [this]
theorem alo_aw8 {x : List Int × Int} (h : AloR sCK lAw ⟨#[97]⟩ ⟨#[98]⟩ x) : x = ([0, -1, 0, -2, -2], 0) := by
  have hn : nmdI sCK lAw [⟨#[97]⟩, ⟨#[98]⟩] = 0 := by decide +kernel
  rcases h with ⟨h1, -⟩ | ⟨-, -, p, q, hp, hq, hx⟩
  · exact absurd hn h1
  · have e1 : saysN lAw ⟨#[97]⟩ = some [0, -1, 0, -2, -1] := by decide +kernel
    have e2 : saysN lAw ⟨#[98]⟩ = some [0, -1, -1] := by decide +kernel
    rw [e1] at hp
    rw [e2] at hq
    cases hp; cases hq
    exact hx.unique det_aw8
theorem conv_aw8 : convR sCK [0, 1, -1, -2, 1, -2, -1] = ([0, 1, -1, -2, 1, -2, -1], 0) := by decide +kernel
theorem eqv_aw8 : eqvR sCK [0, 1, -1, -2, 1, -2, -1] [0, 1, -1, -2, 1, -2, -1] = (true, 0) := by decide +kernel
theorem intsL (w : World) (l : List Int) (T : TypeId) {arr : Array Value} {n : Nat} (h : arr = (l.map (Value.int .i64)).toArray := by rfl) (hn : n = l.length := by rfl) (hl : l.length ≤ 1000 := by decide) : Ints (w.alloc (.cells arr T)) (.slice (some ⟨w.heap.size, 0, none⟩) n n) l := by
  subst h hn
  have r := World.ownsRow_lit (base := 0) (e := T) (size := 1) w (l.map (Value.int .i64)).toArray l.length (by omega) (by simp [maxLen]; omega) (by simp)
  simp only [List.toList_toArray] at r
  exact Ints.of_owns r (by omega)
theorem signL (w : World) (T : TypeId) : SignAt (w.alloc (.cells #[.string ⟨#[67]⟩, .int .i64 2, .string ⟨#[75]⟩, .int .i64 2] T)) (.slice (some ⟨w.heap.size, 0, none⟩) 2 2) sCK := by
  have r1 := World.ownsRow_lit (base := 0) (e := T) (size := 2) w #[.string ⟨#[67]⟩, .int .i64 2, .string ⟨#[75]⟩, .int .i64 2] 2 (by omega) (by simp [maxLen]) rfl
  refine ⟨RowK.of_owns r1 (by simp [sCK]), ?_⟩
  intro x hx
  simp [sCK] at hx
  rcases hx with rfl | rfl <;> simp [ByteArray.size]
theorem ents_lit {w : World} {l : List En} {vs : List V3} {T : TypeId} {cs : Array Value} (hc : cs = (ensC l vs).toArray) (hl : vs.length = l.length) (hl1 : l.length ≤ 1000) (he : ∀ (j : Nat) (h : j < l.length) (h' : j < vs.length), EntAt w vs[j].1 vs[j].2.1 vs[j].2.2 l[j]) : EntsAt (w.alloc (.cells cs T)) (.slice (some ⟨w.heap.size, 0, none⟩) l.length l.length) l := by
  subst hc
  have hb : Below w.heap.size w (w.alloc (.cells (ensC l vs).toArray T)) := (Below.refl _ _).alloc (Nat.le_refl _) _
  refine ⟨vs, ⟨ensC_len l vs hl, _, _, rfl, Nat.le_refl _, by omega, (fun h => by cases h), fun j u hj => ⟨_, _, rfl, ?_⟩⟩, hl, fun j h h' => (he j h h').below hb⟩
  rw [World.cell?_alloc_new, Nat.zero_add]
  simpa using hj
set_option maxHeartbeats 2000000 in
theorem law8_awake (w : World) :
    Calls Tryz.prog 8 #[] w fun e w' => e = .returned (.bool true) ∧ Below w.heap.size w w' := by
  go_enter Tryz.func8, Tryz.ntmps8
  go_wp2_with fail
  have q1 := signL w 67
  obtain ⟨W1, hW1⟩ : ∃ W1, w.alloc (.cells #[.string ⟨#[67]⟩, .int .i64 2, .string ⟨#[75]⟩, .int .i64 2] 67) = W1 := ⟨_, rfl⟩
  have b1 : Below w.heap.size w W1 := hW1 ▸ (Below.refl _ _).alloc (Nat.le_refl _) _
  have z1 : W1.heap.size = w.heap.size + 1 := by rw [← hW1]; simp
  rw [hW1] at q1 ⊢
  have q2 := intsL W1 [0, 1, -1, -2, 1, -2, -1] 3
  obtain ⟨W2, hW2⟩ : ∃ W2, W1.alloc (.cells #[.int .i64 0, .int .i64 1, .int .i64 (-1), .int .i64 (-2), .int .i64 1, .int .i64 (-2), .int .i64 (-1)] 3) = W2 := ⟨_, rfl⟩
  have b2 : Below W1.heap.size W1 W2 := hW2 ▸ (Below.refl _ _).alloc (Nat.le_refl _) _
  have q2' : Ints W2 (.slice (some ⟨w.heap.size + 1, 0, none⟩) 7 7) [0, 1, -1, -2, 1, -2, -1] := by rw [← hW2, ← z1]; exact q2
  rw [hW2]
  have HS := hid (q1.below b2)
  have HI := hid q2'
  have HB := hid (b1.trans (b2.mono b1.size))
  clear q1 q2 q2' b1 b2 z1 hW1 hW2
  have HCV := hid (carry_Converse _ _ sCK [0, 1, -1, -2, 1, -2, -1] W2 HS.out HI.out (by simp [sCK]))
  rw [conv_aw8] at HCV
  refine HCV.out.mono ?_
  rintro e w1 ⟨uc, rfl, hic, hb1⟩
  have HIC := hid hic
  have HB1 := hid hb1
  have HEQ := hid (carry_Equivalence _ _ _ sCK [0, 1, -1, -2, 1, -2, -1] [0, 1, -1, -2, 1, -2, -1] w1 (HS.out.below hb1) (HI.out.below hb1) (HI.out.below hb1) (by simp [sCK]))
  rw [eqv_aw8] at HEQ
  clear hic hb1 HCV
  go_wp2_with fail
  refine HEQ.out.mono ?_
  rintro e w2 ⟨rfl, hb2⟩
  have HBX := hid hb2
  have HB2 := hid (HB1.out.trans (hb2.mono HB1.out.size)).size
  have HB2' := hid (HB1.out.trans (hb2.mono HB1.out.size))
  have HIC2 := hid (HIC.out.below hb2)
  clear hb2 HEQ HIC
  go_wp2_with fail
  have q3 := intsL w2 [0, -1, 0, -2, -1] 3
  obtain ⟨V3, hV3⟩ : ∃ V3, w2.alloc (.cells #[.int .i64 0, .int .i64 (-1), .int .i64 0, .int .i64 (-2), .int .i64 (-1)] 3) = V3 := ⟨_, rfl⟩
  have b3 : Below w2.heap.size w2 V3 := hV3 ▸ (Below.refl _ _).alloc (Nat.le_refl _) _
  have z3 : V3.heap.size = w2.heap.size + 1 := by rw [← hV3]; simp
  have q3' : Ints V3 (.slice (some ⟨w2.heap.size, 0, none⟩) 5 5) [0, -1, 0, -2, -1] := by rw [← hV3]; exact q3
  rw [hV3]
  have q4 := intsL V3 [0, -1, -1] 3
  obtain ⟨V4, hV4⟩ : ∃ V4, V3.alloc (.cells #[.int .i64 0, .int .i64 (-1), .int .i64 (-1)] 3) = V4 := ⟨_, rfl⟩
  have b4 : Below V3.heap.size V3 V4 := hV4 ▸ (Below.refl _ _).alloc (Nat.le_refl _) _
  have z4 : V4.heap.size = w2.heap.size + 1 + 1 := by rw [← hV4, World.size_alloc, z3]
  have q4' : Ints V4 (.slice (some ⟨w2.heap.size + 1, 0, none⟩) 3 3) [0, -1, -1] := by rw [← hV4, ← z3]; exact q4
  rw [hV4]
  have q5 : EntsAt (V4.alloc (.cells #[.string ⟨#[97]⟩, .string ⟨#[97, 110, 110]⟩, .slice (some ⟨w2.heap.size, 0, none⟩) 5 5, .slice none 0 0, .slice none 0 0, .string ⟨#[98]⟩, .string ⟨#[97, 110, 110]⟩, .slice (some ⟨w2.heap.size + 1, 0, none⟩) 3 3, .slice none 0 0, .slice none 0 0] 35)) (.slice (some ⟨V4.heap.size, 0, none⟩) 2 2) lAw :=
    ents_lit (l := lAw) (vs := [(.slice (some ⟨w2.heap.size, 0, none⟩) 5 5, .slice none 0 0, .slice none 0 0), (.slice (some ⟨w2.heap.size + 1, 0, none⟩) 3 3, .slice none 0 0, .slice none 0 0)]) rfl rfl (by decide) fun j h h' => by
      match j, h with
      | 0, _ => exact ⟨q3'.below b4, TxtsAt.nil _, (show StepsAt V4 (.slice none 0 0) [] from ⟨rfl, none, 0, rfl, Nat.le_refl _, by simp, fun _ => rfl, fun j u hj => by simp [stC] at hj⟩), by simp [lAw, ByteArray.size], by simp [lAw, ByteArray.size]⟩
      | 1, _ => exact ⟨q4', TxtsAt.nil _, (show StepsAt V4 (.slice none 0 0) [] from ⟨rfl, none, 0, rfl, Nat.le_refl _, by simp, fun _ => rfl, fun j u hj => by simp [stC] at hj⟩), by simp [lAw, ByteArray.size], by simp [lAw, ByteArray.size]⟩
      | j + 2, h => exact absurd h (by simp [lAw])
  obtain ⟨V5, hV5⟩ : ∃ V5, V4.alloc (.cells #[.string ⟨#[97]⟩, .string ⟨#[97, 110, 110]⟩, .slice (some ⟨w2.heap.size, 0, none⟩) 5 5, .slice none 0 0, .slice none 0 0, .string ⟨#[98]⟩, .string ⟨#[97, 110, 110]⟩, .slice (some ⟨w2.heap.size + 1, 0, none⟩) 3 3, .slice none 0 0, .slice none 0 0] 35) = V5 := ⟨_, rfl⟩
  have b5 : Below V4.heap.size V4 V5 := hV5 ▸ (Below.refl _ _).alloc (Nat.le_refl _) _
  rw [hV5] at q5 ⊢
  rw [z4] at q5
  have b25 : Below w2.heap.size w2 V5 := (b3.trans (b4.mono b3.size)).trans (b5.mono (by omega))
  have hb2V : Below W2.heap.size W2 V5 := HB2'.out.trans (b25.mono HB2'.out.size)
  have hbV : Below w.heap.size w V5 := HB.out.trans (hb2V.mono HB.out.size)
  have HAL := hid (carry_Along _ _ sCK lAw ⟨#[97]⟩ ⟨#[98]⟩ V5 (HS.out.below hb2V) q5 (by simp [sCK]) (by simp [lAw]) (by simp [ByteArray.size]) (by simp [ByteArray.size]))
  have HBV := hid hbV
  have HICV := hid (HIC2.out.below b25)
  have HIV := hid (HI.out.below hb2V)
  clear q3 q3' q4 q4' q5 b3 b4 b5 z3 z4 hV3 hV4 hV5 b25 hb2V hbV
  refine HAL.out.mono ?_
  rintro e w6 ⟨x, u, hx, rfl, hu, hb6⟩
  have hx2 := alo_aw8 hx
  subst hx2
  have HB6 := hid (HBV.out.trans (hb6.mono HBV.out.size))
  have HU := hid hu
  have HST := hid (ref6_SameTerm _ _ _ _ w6 (HICV.out.below hb6) (HIV.out.below hb6))
  have hd : decide (([0, 1, -1, -2, 1, -2, -1] : List Int) = [0, 1, -1, -2, 1, -2, -1]) = true := by decide
  rw [hd] at HST
  clear hx hu hb6 hd HAL
  go_wp2_with fail
  refine HST.out.mono ?_
  rintro e w7 ⟨rfl, n7, hw7⟩
  have hb7 : Below w6.heap.size w6 w7 := hw7 ▸ below_self_drewN _ _
  have HU7 := hid (HU.out.below hb7)
  have HB7 := hid (HB6.out.trans (hb7.mono HB6.out.size))
  clear hw7 hb7 HU HST
  have q8 := intsL w7 [0, -1, 0, -2, -2] 3
  have b8 : Below w7.heap.size w7 (w7.alloc (.cells #[.int .i64 0, .int .i64 (-1), .int .i64 0, .int .i64 (-2), .int .i64 (-2)] 3)) := (Below.refl _ _).alloc (Nat.le_refl _) _
  have HLS := hid (ref6_SameTerm _ _ _ _ _ (HU7.out.below b8) q8)
  have hd : decide (([0, -1, 0, -2, -2] : List Int) = [0, -1, 0, -2, -2]) = true := by decide
  rw [hd] at HLS
  have HB8 := hid (HB7.out.trans (b8.mono HB7.out.size))
  clear q8 b8 hd
  go_wp2_with fail
  refine HLS.out.mono ?_
  rintro e w9 ⟨rfl, n9, hw9⟩
  have HB9 := hid (show Below w.heap.size w w9 from hw9 ▸ below_drewN HB8.out n9)
  clear hw9
  go_wp2
  go_ret
  exact ⟨rfl, HB9.out⟩
end Go.Proofs.YtpflkjldapmgdaaGreat
