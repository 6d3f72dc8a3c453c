/-
  WHAT IT HOLDS: contracts of Says of package kernel, of axiom, givens, strongest, holds, and of Holds and Strongest of package deps. Conditions: the arguments read as data; small signs, small libraries.
-/
import Derived.Deep.RegionHeld3
import Derived.Test.YtpflkjldapmgdaaGreatZRCarryChains19
import Derived.Test.YtpflkjldapmgdaaGreatZRCarryChains32
import Derived.Test.YtpflkjldapmgdaaGreatZRCarryChains16
namespace Go.Proofs.YtpflkjldapmgdaaGreat
open Go Go.RowKit Go.Maps
/-- what a proof says at its end. -/
def SayP (s : Sg) (g : List (List Int)) (p : List St) (x : List Int × Int) : Prop :=
  (askedB s g p = false ∧ x = ([], 1)) ∨ (askedB s g p = true ∧ ∃ l, RunR s g p l x.2 ∧ ((x.2 = 0 ∧ l.getLast? = some x.1) ∨ (x.2 ≠ 0 ∧ x.1 = [])))
theorem Ints.nil (w : World) : Ints w (.slice none 0 0) [] := ⟨rfl, none, 0, rfl, Nat.le_refl _, by simp, fun _ => rfl, fun j u hj => by simp at hj⟩
theorem proof1 {g : Int} {p : List St} (h : proofB g p = true) : 1 ≤ p.length := by
  unfold proofB at h
  simp only [Bool.and_eq_true] at h
  have := inB_true.1 h.2
  omega
set_option maxHeartbeats 1000000 in
theorem kernel_Says (vs vg vp : Value) (s : Sg) (g : List (List Int)) (p : List St) (w : World) (hs : SignAt w vs s) (hg : Terms w vg g) (hp : StepsAt w vp p) (hs1 : s.length ≤ 1000) :
    Calls Tryz.prog 72 #[vs, vg, vp] w fun e w' => ∃ x u, SayP s g p x ∧ e = .returned (.tuple #[u, .int .i64 x.2]) ∧ Ints w' u x.1 ∧ Below w.heap.size w w' := by
  have HR := hid (kernel_Run vs vg vp s g p w hs hg hp hs1)
  clear hs hg hp
  go_enter Tryz.func72, Tryz.ntmps72
  go_wp2_with fail
  refine HR.out.mono ?_
  rintro e w1 ⟨u, l, n, er, rfl, hq, hT, hb⟩
  rcases hq with ⟨ha, rfl, rfl, rfl⟩ | ⟨ha, hr, -⟩
  · have HX : Hid (SayP s g p ([], 1)) := hid (Or.inl ⟨ha, rfl⟩)
    clear ha hT
    go_wp2
    go_ret2
    exact ⟨([], 1), _, HX.out, rfl, Ints.nil _, hb⟩
  · by_cases h0 : er = 0
    · subst h0
      have hlen : 1 ≤ l.length := by
        have h1 := proof1 (asked_parts ha).2
        rcases hr.2 with ⟨-, h⟩ | ⟨h, -⟩
        · omega
        · exact absurd rfl h
      obtain ⟨a, cap, rfl, hc, hl, -, HC⟩ := hT.open
      obtain ⟨b, o, u, rfl, c, hi⟩ := HC (l.length - 1) (by omega)
      have HX : Hid (SayP s g p (l[l.length - 1], 0)) := hid (Or.inr ⟨ha, l, hr, Or.inl ⟨rfl, by rw [List.getLast?_eq_getElem?, List.getElem?_eq_getElem (by omega)]⟩⟩)
      have HI := hid hi
      obtain ⟨x, hx⟩ : ∃ x, l[l.length - 1] = x := ⟨_, rfl⟩
      rw [hx] at HX HI
      obtain ⟨q, hq⟩ : ∃ q : Nat, l.length = q + 1 := ⟨l.length - 1, by omega⟩
      rw [hq] at hc hl c ⊢
      simp only [Nat.add_sub_cancel] at c
      have hw : IntKind.i64.wrap (((q + 1 : Nat) : Int) - 1) = q := by rw [IntWalk.i64_in _ (by omega)]; omega
      clear hi hx HC hT ha hr hq hlen
      go_wp2
      go_ret2
      exact ⟨(x, 0), _, HX.out, rfl, HI.out, hb⟩
    · have n0 : (er != 0) = true := by simpa using h0
      have HX : Hid (SayP s g p ([], er)) := hid (Or.inr ⟨ha, l, hr, Or.inr ⟨h0, rfl⟩⟩)
      clear ha hr hT h0
      go_wp2
      go_ret2
      exact ⟨([], er), _, HX.out, rfl, Ints.nil _, hb⟩
/-- what an entry says, by its name. -/
def saysN (l : List En) (n : Nm) : Option (List Int) := (idxN l n).bind fun i => (l[i]?).map En.says
def givL (l : List En) : List Nm → Option (List (List Int))
  | [] => some []
  | n :: ns => match saysN l n, givL l ns with
    | some t, some ts => some (t :: ts)
    | _, _ => none
theorem givL_snoc (l : List En) (ns : List Nm) (n : Nm) : givL l (ns ++ [n]) = match givL l ns, saysN l n with
    | some ts, some t => some (ts ++ [t])
    | _, _ => none := by
  induction ns with
  | nil =>
    rw [List.nil_append]
    unfold givL
    unfold givL
    cases saysN l n <;> rfl
  | cons m ns ih =>
    rw [List.cons_append]
    unfold givL
    rw [ih]
    cases saysN l m with
    | none => cases givL l ns <;> cases saysN l n <;> rfl
    | some t => cases givL l ns <;> cases saysN l n <;> rfl
theorem givL_no {l : List En} {n : Nm} : ∀ {ns : List Nm}, n ∈ ns → saysN l n = none → givL l ns = none
  | [], h, _ => by simp at h
  | m :: ns, h, e => by
    unfold givL
    rcases List.mem_cons.1 h with rfl | h
    · rw [e]
    · rw [givL_no h e]
      cases saysN l m <;> rfl
theorem givL_len {l : List En} : ∀ {ns : List Nm} {ts : List (List Int)}, givL l ns = some ts → ts.length = ns.length
  | [], ts, h => by cases h; rfl
  | m :: ns, ts, h => by
    unfold givL at h
    cases h1 : saysN l m with
    | none => rw [h1] at h; cases h
    | some t =>
      cases h2 : givL l ns with
      | none => rw [h1, h2] at h; cases h
      | some us =>
        rw [h1, h2] at h
        cases h
        simp [givL_len h2]
theorem saysN_some {l : List En} {n : Nm} {i : Nat} (h : idxN l n = some i) : ∃ hi : i < l.length, saysN l n = some l[i].says := by
  obtain ⟨hi, -⟩ := idxN_some h
  exact ⟨hi, by unfold saysN; rw [h]; simp [List.getElem?_eq_getElem hi]⟩
theorem saysN_none {l : List En} {n : Nm} (h : idxN l n = none) : saysN l n = none := by unfold saysN; rw [h]; rfl
theorem idxN_none_of {l : List En} {n : Nm} (h : saysN l n = none) : idxN l n = none := by
  cases e : idxN l n with
  | none => rfl
  | some i => obtain ⟨_, h2⟩ := saysN_some e; rw [h2] at h; cases h
theorem lib_axiom (p : Nat) (vs vl : Value) (l : List En) (i : Nat) (w : World) (hL : LibAt w p vs vl l) (hl : EntsAt w vl l) (hi : i < l.length) (hl1 : l.length ≤ 1000) :
    Calls Tryz.prog 138 #[.pointer (some ⟨p, 0, none⟩), .int .i64 i] w fun e w' => e = .returned (.bool (decide (l[i].proof.length = 0))) ∧ w = w' := by
  obtain ⟨a, cap, rfl, -, -, -, HC⟩ := hl.open
  obtain ⟨b, o, vS, vu, vp, rfl, -, -, -, -, c4, he⟩ := HC i hi
  obtain ⟨pa, pc, rfl, -⟩ := he.p.open
  obtain ⟨-, d1, -⟩ := hL
  obtain ⟨n, hn⟩ : ∃ n, l[i].proof.length = n := ⟨_, rfl⟩
  rw [hn] at c4 ⊢
  clear HC he hl hn
  by_cases h0 : n = 0
  · have q0 : ((n : Int) == 0) = true := by simp [h0]
    go_enter Tryz.func138, Tryz.ntmps138
    go_wp2
    go_ret
    exact ⟨ret_bool (by simp [h0]), rfl⟩
  · have q0 : ((n : Int) == 0) = false := by rw [beq_eq_false_iff_ne]; omega
    go_enter Tryz.func138, Tryz.ntmps138
    go_wp2
    go_ret
    exact ⟨ret_bool (by simp [h0]), rfl⟩
set_option maxHeartbeats 2000000 in
theorem lib_givens (p : Nat) (vs vl : Value) (l : List En) (i : Nat) (w : World) (hL : LibAt w p vs vl l) (hl : EntsAt w vl l) (hi : i < l.length) (hl1 : l.length ≤ 1000) (hu : l[i].uses.length ≤ 1000) :
    Calls Tryz.prog 139 #[.pointer (some ⟨p, 0, none⟩), .int .i64 i] w fun e w' => Below w.heap.size w w' ∧ ((givL l l[i].uses = none ∧ e = .returned (.tuple #[.slice none 0 0, .bool false])) ∨
      ∃ ts u, givL l l[i].uses = some ts ∧ e = .returned (.tuple #[u, .bool true]) ∧ Terms w' u ts) := by
  have HL := hid hL
  obtain ⟨a, cap, rfl, -, -, -, HC⟩ := hl.open
  have HC' := hid HC
  obtain ⟨b, o, vS, vu, vp, rfl, -, -, -, c3, -, he⟩ := HC i hi
  have HU := hid he.u.2
  obtain ⟨ua, uc, rfl, -, -, -, UC⟩ := he.u.open
  have UC' := hid UC
  obtain ⟨d0, d1, mb, d2, dm⟩ := hL
  obtain ⟨us, hus⟩ : ∃ us, l[i].uses = us := ⟨_, rfl⟩
  rw [hus] at c3 UC' HU hu ⊢
  clear HC he hl UC hus
  have hown0 := World.ownsRow_nil w w.heap.size 28 1
  go_enter Tryz.func139, Tryz.ntmps139
  go_wp2
  go_loopw [6, 20] (fun u kv wr => ∃ (k : Nat) (vvs : List Value) (ts : List (List Int)), k ≤ us.length ∧ kv = .int .i64 k ∧ wr.ownsRow w.heap.size 28 1 u k vvs ∧ givL l (us.take k) = some ts ∧ (∀ (i : Nat) (v : Value) (z : List Int), vvs[i]? = some v → ts[i]? = some z → Ints w v z) ∧ Below w.heap.size w wr) (fun _ kv _ => us.length - (intOf kv).toNat)
  case atStart => exact ⟨0, [], [], by omega, rfl, hown0, by simp [givL], by simp, Below.refl _ _⟩
  case round =>
    clear hown0 c3 d0 d1 d2 dm
    obtain ⟨k, vvs, ts, hk, rfl, hown, hgiv, hrd, hb⟩ := hrel
    have hsz := hb.size
    have hvl : vvs.length = k := by have := hown.1; simpa using this
    have htl : ts.length = k := by have := givL_len hgiv; rw [List.length_take] at this; omega
    by_cases hlt : k < us.length
    · obtain ⟨xb, xo, rfl, x0⟩ := UC'.out k hlt
      have x1 := (hb.cell (World.block_lt_of_cell? _ _ x0)).trans x0
      have hxs := HU.out us[k] (List.getElem_mem hlt)
      have hsn := givL_snoc l (us.take k) us[k]
      rw [← List.take_succ_eq_append_getElem hlt, hgiv] at hsn
      have hno := fun h => givL_no (l := l) (List.getElem_mem hlt) h
      obtain ⟨x, hx⟩ : ∃ x, us[k] = x := ⟨_, rfl⟩
      rw [hx] at x1 hxs hsn hno
      obtain ⟨-, d1, mb, d2, dm⟩ := HL.out.below hb
      have HOWN := hid hown
      have HRD := hid hrd
      have HB := hid hb
      have HVL := hid hvl
      have HTL := hid htl
      cases hix : idxN l x with
      | none =>
        have HF := hid (hno (saysN_none hix))
        have HIX := hid hix
        clear x0 hx hsn hno hix hown hrd hb hvl htl hgiv
        go_wp2_with (at_lookup; refine wpList_lookup_mapK rfl _ _ 140 true rfl (string_keyed Tryz.underlying9) ek_string_inj Tryz.underlying140 (zero_intD _) rfl dm x rfl (str_key hxs) (.tuple #[.int .i64 0, .bool false]) (by rw [HIX.out]; rfl) ?_)
        go_ret2
        exact ⟨HB.out, Or.inl ⟨HF.out, rfl⟩⟩
      | some j =>
        obtain ⟨hj, hsay⟩ := saysN_some hix
        rw [hsay] at hsn
        obtain ⟨eb, eo, eS, eu, ep, ee, -, -, y2, -, -, ye⟩ := HC'.out j hj
        cases ee
        have y2' := (HB.out.cell (World.block_lt_of_cell? _ _ y2)).trans y2
        obtain ⟨sa, sc, rfl, -⟩ := ye.s.open
        have hjl : j < l.length := hj
        have HIX := hid hix
        have HSN : Hid (givL l (us.take (k + 1)) = some (ts ++ [l[j].says])) := hid hsn
        have HYS := hid ye.s
        obtain ⟨t, ht⟩ : ∃ t, l[j].says = t := ⟨_, rfl⟩
        rw [ht] at y2' HSN HYS
        clear x0 hx hsn hno hix hown hrd hb hvl htl hgiv hsay y2 ye ht
        go_wp2_with (first
          | (at_lookup; refine wpList_lookup_mapK rfl _ _ 140 true rfl (string_keyed Tryz.underlying9) ek_string_inj Tryz.underlying140 (zero_intD _) rfl dm x rfl (str_key hxs) (.tuple #[.int .i64 j, .bool true]) (by rw [HIX.out]; rfl) ?_)
          | (at_builtin; refine wpList_append_row rfl _ _ 56 rfl w.heap.size 28 el_term Tryz.underlying56 rfl (by decide) _ _ _ rfl (HOWN.out.alloc _) _ 1 [.slice sa t.length sc] rfl (row_one_new _ _ _) (oneCell_one rfl) (by omega) (by omega) (by simp; omega) ?_; intro v' w4 hown4 hgrow4 _))
        go_roundw
        case rel =>
          refine ⟨k + 1, _, _, by omega, by go_num, hown4, HSN.out, fun q v z hv hz => ?_, (HB.out.alloc hsz _).grown hgrow4 (by have := HB.out.size; simp; omega) (fun q hq => (HOWN.out.lt q hq).1)⟩
          have e1 := HVL.out
          have e2 := HTL.out
          by_cases hq : q < k
          · rw [List.getElem?_append_left (by omega)] at hv hz
            exact HRD.out q v z hv hz
          · rw [List.getElem?_append_right (by omega)] at hv hz
            have e0 : q - k = 0 := by have := (List.getElem?_eq_some_iff.1 hv).1; simp at this; omega
            rw [e1, e0] at hv
            rw [e2, e0] at hz
            simp at hv hz
            subst hv; subst hz
            exact HYS.out
        case measure => simp [intOf]; omega
    · have hkl : k = us.length := by omega
      subst hkl
      rw [List.take_of_length_le (Nat.le_refl _)] at hgiv
      have HG := hid hgiv
      have HT : Hid (Terms wr u6 ts) := hid ⟨vvs, by unfold Vals; rw [hvl]; exact RowK.of_owns hown (by omega), by omega, fun q v z h1 h2 => (hrd q v z h1 h2).below hb⟩
      clear hgiv hown hrd
      go_wp2
      go_ret2
      exact ⟨hb, Or.inr ⟨ts, _, HG.out, rfl, HT.out⟩⟩
/-- what an entry's proof says; false if it is no proof of anything. -/
def StrP (s : Sg) (l : List En) (e : En) (x : List Int × Bool) : Prop :=
  (e.proof.length = 0 ∧ x = (e.says, true)) ∨ (e.proof.length ≠ 0 ∧ ((givL l e.uses = none ∧ x = ([], false)) ∨ ∃ g y, givL l e.uses = some g ∧ SayP s g e.proof y ∧ x = (y.1, decide (y.2 = 0))))
def StrQ (s : Sg) (l : List En) (x : En) (w : World) (e : Ending) (w' : World) : Prop := ∃ y u, StrP s l x y ∧ e = .returned (.tuple #[u, .bool y.2]) ∧ Ints w' u y.1 ∧ Below w.heap.size w w'
theorem StrQ.mk {s : Sg} {l : List En} {x : En} {w : World} {e : Ending} {w' : World} (y : List Int × Bool) (u : Value) (h1 : StrP s l x y) (h2 : e = .returned (.tuple #[u, .bool y.2])) (h3 : Ints w' u y.1) (h4 : Below w.heap.size w w') : StrQ s l x w e w' := ⟨y, u, h1, h2, h3, h4⟩
set_option maxHeartbeats 2000000 in
set_option maxRecDepth 100000 in
theorem lib_strongest (p : Nat) (vs vl : Value) (s : Sg) (l : List En) (i : Nat) (w : World) (hL : LibAt w p vs vl l) (hs : SignAt w vs s) (hl : EntsAt w vl l) (hi : i < l.length) (hs1 : s.length ≤ 1000) (hl1 : l.length ≤ 1000) (hu : l[i].uses.length ≤ 1000) (ht0 : 0 < l[i].says.length) (ht1 : l[i].says.length ≤ 1000) :
    Calls Tryz.prog 81 #[.pointer (some ⟨p, 0, none⟩), .int .i64 i] w fun e w' => StrQ s l l[i] w e w' := by
  have HA := hid (lib_axiom p vs vl l i w hL hl hi hl1)
  have HG := hid (lib_givens p vs vl l i w hL hl hi hl1 hu)
  have HLB := hid hL
  have HSG := hid hs
  obtain ⟨sa, sc, rfl, -⟩ := hs.open
  obtain ⟨a, cap, rfl, -, -, -, HC⟩ := hl.open
  obtain ⟨b, o, vS, vu, vp, rfl, -, -, c2, -, c4, he⟩ := HC i hi
  obtain ⟨d0, d1, -⟩ := hL
  obtain ⟨ta, tc, rfl, -⟩ := he.s.open
  obtain ⟨pa, pc, rfl, -⟩ := he.p.open
  have HIS := hid he.s
  have HIP := hid he.p
  clear HC he hl hs
  cases h0 : decide (l[i].proof.length = 0)
  · rw [h0] at HA
    have h0' := of_decide_eq_false h0
    have HNO : Hid (givL l l[i].uses = none → StrP s l l[i] ([], false)) := hid fun h => Or.inr ⟨h0', Or.inl ⟨h, rfl⟩⟩
    have HYES : Hid (∀ g y, givL l l[i].uses = some g → SayP s g l[i].proof y → StrP s l l[i] (y.1, decide (y.2 = 0))) := hid fun g y h1 h2 => Or.inr ⟨h0', Or.inr ⟨g, y, h1, h2, rfl⟩⟩
    clear h0 h0'
    generalize hP : l[i].proof = P at c4 HIP HYES
    generalize hT : l[i].says = T at c2 HIS ht0 ht1
    clear hP hT
    go_enter Tryz.func81, Tryz.ntmps81
    go_wp2_with fail
    refine HA.out.mono ?_
    rintro e w' ⟨rfl, rfl⟩
    go_wp2_with fail
    refine HG.out.mono ?_
    rintro e w1 ⟨hb1, ⟨hg, rfl⟩ | ⟨ts, u, hg, rfl, hT⟩⟩
    · have HX := hid (HNO.out hg)
      clear hg c2 c4 d0 d1
      go_wp2
      go_ret2
      exact StrQ.mk ([], false) _ HX.out rfl (Ints.nil _) hb1
    · obtain ⟨ga, gc, rfl, -⟩ := hT.open
      have e4 := (hb1.cell (World.block_lt_of_cell? _ _ c4)).trans c4
      have f0 := (hb1.cell (World.block_lt_of_cell? _ _ d0)).trans d0
      have f1 := (hb1.cell (World.block_lt_of_cell? _ _ d1)).trans d1
      have HSY := hid (fun (X : World) (hX : Below w1.heap.size w1 X) => kernel_Says (.slice sa s.length sc) (.slice ga ts.length gc) (.slice pa P.length pc) s ts P X ((HSG.out.below hb1).below hX) (hT.below hX) ((HIP.out.below hb1).below hX) hs1)
      have HB1 := hid hb1
      have HYG := hid (fun y h => HYES.out ts y hg h)
      have hsz1 := hb1.size
      clear c2 c4 d0 d1 hg hT hb1
      go_wp2
      go_region_held3 (fun w' => w'.cell? ⟨p, 0, none⟩ = some (.slice sa s.length sc) ∧ w'.cell? ⟨p, 1, none⟩ = some (.slice (some ⟨b, o, none⟩) l.length cap) ∧ w'.cell? ⟨b, o + i * 5 + 4, none⟩ = some (.slice pa P.length pc)) (first | exact ⟨by assumption, by assumption, by assumption⟩ | go_keep) (first
        | (go_at_call 72; refine (HSY.out _ (below_self_drewN w1 _)).mono ?_; rintro e w4 ⟨y, u, hy, rfl, hIu, hb4'⟩; have hb4 : Below w1.heap.size w1 w4 := (below_self_drewN w1 _).trans hb4'; have k0 := (hb4.cell (World.block_lt_of_cell? _ _ f0)).trans f0; have k1 := (hb4.cell (World.block_lt_of_cell? _ _ f1)).trans f1; have k4 := (hb4.cell (World.block_lt_of_cell? _ _ e4)).trans e4))
      obtain ⟨y1, y2⟩ := y
      have HX := hid (HYG.out (y1, y2) hy)
      have HIU := hid hIu
      have HB4 := hid (HB1.out.trans (hb4.mono hsz1))
      clear hy hIu hb4 hb4' HSY HYG k0 k1 k4 f0 f1 e4
      by_cases hz : y2 = 0
      · have HX2 : Hid (StrP s l l[i] (y1, true)) := hid (by have := HX.out; simpa [hz] using this)
        subst hz
        go_wp2
        go_ret2
        exact StrQ.mk (y1, true) _ HX2.out rfl (by first | exact HIU.out | exact HIU.out.drewN _) (by first | exact HB4.out | exact below_drewN HB4.out _)
      · have HX2 : Hid (StrP s l l[i] (y1, false)) := hid (by have := HX.out; simpa [hz] using this)
        have hz' : (y2 == 0) = false := by simpa using hz
        go_wp2
        go_ret2
        exact StrQ.mk (y1, false) _ HX2.out rfl (by first | exact HIU.out | exact HIU.out.drewN _) (by first | exact HB4.out | exact below_drewN HB4.out _)
  · rw [h0] at HA
    have h0' := of_decide_eq_true h0
    have HX : Hid (StrP s l l[i] (l[i].says, true)) := hid (Or.inl ⟨h0', rfl⟩)
    have HCL := hid (sl_CloneT _ _ _ HIS.out ht0 ht1)
    clear h0 h0'
    generalize hT : l[i].says = T at c2 HIS HX HCL ht1
    clear hT
    go_enter Tryz.func81, Tryz.ntmps81
    go_wp2_with fail
    refine HA.out.mono ?_
    rintro e w' ⟨rfl, rfl⟩
    go_wp2_with fail
    refine HCL.out.mono ?_
    rintro e w1 ⟨u, rfl, hown, hb1⟩
    have HI := hid (Ints.of_owns hown (by omega))
    clear hown
    go_wp2
    go_ret2
    exact StrQ.mk (T, true) _ HX.out rfl HI.out hb1
def HldP (s : Sg) (l : List En) (e : En) (z : Bool) : Prop := ∃ x, StrP s l e x ∧ z = (x.2 && instB s x.1 e.says)
set_option maxHeartbeats 2000000 in
set_option maxRecDepth 100000 in
theorem lib_holds (p : Nat) (vs vl : Value) (s : Sg) (l : List En) (i : Nat) (w : World) (hL : LibAt w p vs vl l) (hs : SignAt w vs s) (hl : EntsAt w vl l) (hi : i < l.length) (hs1 : s.length ≤ 1000) (hl1 : l.length ≤ 1000) (hu : l[i].uses.length ≤ 1000) (ht0 : 0 < l[i].says.length) (ht1 : l[i].says.length ≤ 1000) :
    Calls Tryz.prog 64 #[.pointer (some ⟨p, 0, none⟩), .int .i64 i] w fun e w' => ∃ z, HldP s l l[i] z ∧ e = .returned (.bool z) ∧ Below w.heap.size w w' := by
  have HST := hid (lib_strongest p vs vl s l i w hL hs hl hi hs1 hl1 hu ht0 ht1)
  have HSG := hid hs
  obtain ⟨sa, sc, rfl, -⟩ := hs.open
  obtain ⟨a, cap, rfl, -, -, -, HC⟩ := hl.open
  obtain ⟨b, o, vS, vu, vp, rfl, -, -, c2, -, -, he⟩ := HC i hi
  obtain ⟨d0, d1, -⟩ := hL
  obtain ⟨ta, tc, rfl, -⟩ := he.s.open
  have HIS := hid he.s
  have HH : Hid (∀ x, StrP s l l[i] x → HldP s l l[i] (x.2 && instB s x.1 l[i].says)) := hid fun x h => ⟨x, h, rfl⟩
  generalize hT : l[i].says = T at c2 HIS HH
  clear HC he hl hs hT ht0 ht1 hu
  go_enter Tryz.func64, Tryz.ntmps64
  go_wp2_with fail
  refine HST.out.mono ?_
  rintro e w1 ⟨⟨x1, z⟩, u, hx, rfl, hIu, hb1⟩
  have HX := hid (HH.out _ hx)
  have hsz1 := hb1.size
  have HB1 := hid hb1
  cases z
  · have HX2 : Hid (HldP s l l[i] false) := hid (by have := HX.out; simpa using this)
    clear hx hIu hb1 HX HST
    go_wp2
    go_quiet (fail)
    go_wp2
    go_ret
    exact ⟨_, HX2.out, rfl, by first | exact HB1.out | exact below_drewN HB1.out _⟩
  · have HX2 : Hid (HldP s l l[i] (instB s x1 T)) := hid (by have := HX.out; simpa using this)
    obtain ⟨xa, xc, rfl, -⟩ := hIu.open
    have e2 := (hb1.cell (World.block_lt_of_cell? _ _ c2)).trans c2
    have f0 := (hb1.cell (World.block_lt_of_cell? _ _ d0)).trans d0
    have f1 := (hb1.cell (World.block_lt_of_cell? _ _ d1)).trans d1
    have HSY := hid (fun (X : World) (hX : Below w1.heap.size w1 X) => unify_Instance (.slice sa s.length sc) (.slice xa x1.length xc) (.slice ta T.length tc) s x1 T X ((HSG.out.below hb1).below hX) (hIu.below hX) ((HIS.out.below hb1).below hX) hs1)
    clear hx hIu hb1 HX HST c2 d0 d1
    go_wp2
    go_region_held3 (fun w' => w'.cell? ⟨p, 0, none⟩ = some (.slice sa s.length sc) ∧ w'.cell? ⟨p, 1, none⟩ = some (.slice (some ⟨b, o, none⟩) l.length cap) ∧ w'.cell? ⟨b, o + i * 5 + 2, none⟩ = some (.slice ta T.length tc)) (first | exact ⟨by assumption, by assumption, by assumption⟩ | go_keep) (first
      | (go_at_call 127; refine (HSY.out _ (below_self_drewN w1 _)).mono ?_; rintro e w4 ⟨rfl, hb4'⟩; have hb4 : Below w1.heap.size w1 w4 := (below_self_drewN w1 _).trans hb4'; have k0 := (hb4.cell (World.block_lt_of_cell? _ _ f0)).trans f0; have k1 := (hb4.cell (World.block_lt_of_cell? _ _ f1)).trans f1; have k4 := (hb4.cell (World.block_lt_of_cell? _ _ e2)).trans e2))
    have HB4 := hid (HB1.out.trans (hb4.mono hsz1))
    clear k0 k1 k4 f0 f1 e2 hb4 hb4'
    go_wp2
    go_ret
    exact ⟨_, HX2.out, rfl, by first | exact HB4.out | exact below_drewN HB4.out _⟩
/-- what Holds answers. -/
def HoldR (s : Sg) (l : List En) (n : Nm) (z : Bool) (e : Int) : Prop := (libB s l = false ∧ z = false ∧ e = 1) ∨ (libB s l = true ∧ ((idxN l n = none ∧ z = false ∧ e = 5) ∨ ∃ i, ∃ h : i < l.length, idxN l n = some i ∧ HldP s l l[i] z ∧ e = 0))
def HoldQ (s : Sg) (l : List En) (n : Nm) (w : World) (e : Ending) (w' : World) : Prop := ∃ z er, HoldR s l n z er ∧ e = .returned (.tuple #[.bool z, .int .i64 er]) ∧ Below w.heap.size w w'
theorem HoldQ.mk {s : Sg} {l : List En} {n : Nm} {w : World} {e : Ending} {w' : World} (z : Bool) (er : Int) (h1 : HoldR s l n z er) (h2 : e = .returned (.tuple #[.bool z, .int .i64 er])) (h3 : Below w.heap.size w w') : HoldQ s l n w e w' := ⟨z, er, h1, h2, h3⟩
theorem ents_ok {s : Sg} {l : List En} (h : libB s l = true) {i : Nat} (hi : i < l.length) : l[i].uses.length ≤ 1000 ∧ 0 < l[i].says.length ∧ l[i].says.length ≤ 1000 := by
  have h1 := (libB_iff.1 h).ents l[i] (List.getElem_mem hi)
  have h2 := h1.len
  have h3 := (termB_T h1.says).ne
  have h4 := (termB_facts h1.says).2.2.2
  exact ⟨by omega, h3, by omega⟩
set_option maxHeartbeats 1000000 in
theorem deps_Holds (vs vl : Value) (s : Sg) (l : List En) (n : Nm) (w : World) (hs : SignAt w vs s) (hl : EntsAt w vl l) (hs1 : s.length ≤ 1000) (hl1 : l.length ≤ 1000) (hn : n.size ≤ 140737488355328) :
    Calls Tryz.prog 19 #[vs, vl, .string n] w fun e w' => HoldQ s l n w e w' := by
  have HN := hid (deps_named vs vl s l n w hs hl hs1 hl1 hn)
  have HSG := hid hs
  have HL := hid hl
  clear hs hl
  go_enter Tryz.func19, Tryz.ntmps19
  go_wp2_with fail
  refine HN.out.mono ?_
  rintro e w1 ⟨hb1, ⟨h0, rfl⟩ | ⟨h0, hi, rfl⟩ | ⟨h0, p, i, hi, rfl, hla⟩⟩
  · have HF : Hid (HoldR s l n false 1) := hid (Or.inl ⟨h0, rfl, rfl⟩)
    clear h0
    go_wp2
    go_ret2
    exact HoldQ.mk _ _ HF.out rfl hb1
  · have HF : Hid (HoldR s l n false 5) := hid (Or.inr ⟨h0, Or.inl ⟨hi, rfl, rfl⟩⟩)
    clear h0 hi
    go_wp2
    go_ret2
    exact HoldQ.mk _ _ HF.out rfl hb1
  · obtain ⟨hlt, -⟩ := idxN_some hi
    obtain ⟨k1, k2, k3⟩ := ents_ok h0 hlt
    have HH := hid (lib_holds p vs vl s l i w1 hla (HSG.out.below hb1) (HL.out.below hb1) hlt hs1 hl1 k1 k2 k3)
    have HF : Hid (∀ z, HldP s l l[i] z → HoldR s l n z 0) := hid (fun z hz => Or.inr ⟨h0, Or.inr ⟨i, hlt, hi, hz, rfl⟩⟩)
    clear h0 hi hla k1 k2 k3
    go_wp2_with fail
    refine HH.out.mono ?_
    rintro e w2 ⟨z, hz, rfl, hb2⟩
    have HX := hid (HF.out z hz)
    clear hz
    go_wp2
    go_ret2
    exact HoldQ.mk _ _ HX.out rfl (hb1.trans (hb2.mono hb1.size))
/-- what Strongest answers. -/
def StgR (s : Sg) (l : List En) (n : Nm) (t : List Int) (e : Int) : Prop := (libB s l = false ∧ t = [] ∧ e = 1) ∨ (libB s l = true ∧ ((idxN l n = none ∧ t = [] ∧ e = 5) ∨ ∃ i, ∃ h : i < l.length, idxN l n = some i ∧ ∃ x, StrP s l l[i] x ∧ ((x.2 = true ∧ t = x.1 ∧ e = 0) ∨ (x.2 = false ∧ t = [] ∧ e = 11))))
def StgQ (s : Sg) (l : List En) (n : Nm) (w : World) (e : Ending) (w' : World) : Prop := ∃ u t er, StgR s l n t er ∧ e = .returned (.tuple #[u, .int .i64 er]) ∧ Ints w' u t ∧ Below w.heap.size w w'
theorem StgQ.mk {s : Sg} {l : List En} {n : Nm} {w : World} {e : Ending} {w' : World} (u : Value) (t : List Int) (er : Int) (h1 : StgR s l n t er) (h2 : e = .returned (.tuple #[u, .int .i64 er])) (h3 : Ints w' u t) (h4 : Below w.heap.size w w') : StgQ s l n w e w' := ⟨u, t, er, h1, h2, h3, h4⟩
set_option maxHeartbeats 1000000 in
theorem deps_Strongest (vs vl : Value) (s : Sg) (l : List En) (n : Nm) (w : World) (hs : SignAt w vs s) (hl : EntsAt w vl l) (hs1 : s.length ≤ 1000) (hl1 : l.length ≤ 1000) (hn : n.size ≤ 140737488355328) :
    Calls Tryz.prog 22 #[vs, vl, .string n] w fun e w' => StgQ s l n w e w' := by
  have HN := hid (deps_named vs vl s l n w hs hl hs1 hl1 hn)
  have HSG := hid hs
  have HL := hid hl
  clear hs hl
  go_enter Tryz.func22, Tryz.ntmps22
  go_wp2_with fail
  refine HN.out.mono ?_
  rintro e w1 ⟨hb1, ⟨h0, rfl⟩ | ⟨h0, hi, rfl⟩ | ⟨h0, p, i, hi, rfl, hla⟩⟩
  · have HF : Hid (StgR s l n [] 1) := hid (Or.inl ⟨h0, rfl, rfl⟩)
    clear h0
    go_wp2
    go_ret2
    exact StgQ.mk _ _ _ HF.out rfl (Ints.nil _) hb1
  · have HF : Hid (StgR s l n [] 5) := hid (Or.inr ⟨h0, Or.inl ⟨hi, rfl, rfl⟩⟩)
    clear h0 hi
    go_wp2
    go_ret2
    exact StgQ.mk _ _ _ HF.out rfl (Ints.nil _) hb1
  · obtain ⟨hlt, -⟩ := idxN_some hi
    obtain ⟨k1, k2, k3⟩ := ents_ok h0 hlt
    have HH := hid (lib_strongest p vs vl s l i w1 hla (HSG.out.below hb1) (HL.out.below hb1) hlt hs1 hl1 k1 k2 k3)
    have HF : Hid (∀ x, StrP s l l[i] x → ∀ t e, ((x.2 = true ∧ t = x.1 ∧ e = 0) ∨ (x.2 = false ∧ t = [] ∧ e = 11)) → StgR s l n t e) := hid (fun x hx t e h => Or.inr ⟨h0, Or.inr ⟨i, hlt, hi, x, hx, h⟩⟩)
    clear h0 hi hla k1 k2 k3
    go_wp2_with fail
    refine HH.out.mono ?_
    rintro e w2 ⟨⟨x1, z⟩, u, hx, rfl, hIu, hb2⟩
    have HB2 := hid (hb1.trans (hb2.mono hb1.size))
    have HIU := hid hIu
    cases z
    · have HX := hid (HF.out _ hx [] 11 (Or.inr ⟨rfl, rfl, rfl⟩))
      clear hx hIu hb2
      go_wp2
      go_ret2
      exact StgQ.mk _ _ _ HX.out rfl (Ints.nil _) HB2.out
    · have HX := hid (HF.out _ hx x1 0 (Or.inl ⟨rfl, rfl, rfl⟩))
      clear hx hIu hb2
      go_wp2
      go_ret2
      exact StgQ.mk _ _ _ HX.out rfl HIU.out HB2.out
end Go.Proofs.YtpflkjldapmgdaaGreat
