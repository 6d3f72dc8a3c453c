/-
  WHAT IT HOLDS: plain laws: what is detached, and what a proof says, is one thing alone; what the proofs of a moved statement say. No program in sight.
  WHAT IT HOLDS: contracts of Says of package kernel, of axiom, givens, strongest, holds, and of Holds and Strongest of package deps. Conditions: the arguments read as data; small signs, small libraries.
  WHAT IT HOLDS: contracts of says, Along and There of package carry. Conditions: the arguments read as data; small signs, small libraries.
  WHAT IT HOLDS: contracts of named, says, Along and There of the reference of layer 8. Conditions: the arguments read as data; small signs, small libraries.
  WHAT IT HOLDS: the contract of the helper awake of the laws of layer 8. No condition.
  WHAT IT HOLDS: contracts of the helpers heavy6 and awake8 of the tops. Conditions: the arguments read as data.
-/
import Derived.Deep.RegionHeld3
import Derived.Test.YtalodmochkodiaaGreatZRTopCarried33
import Derived.Test.YtalodmochkodiaaGreatZRTopCarried22
import Derived.Test.YtalodmochkodiaaGreatZRTopCarried28
import Derived.Test.YtalodmochkodiaaGreatZRTopCarried14
import Derived.Test.YtalodmochkodiaaGreatZRTopCarried35
import Derived.Test.YtalodmochkodiaaGreatZRTopCarried29
import Derived.Test.YtalodmochkodiaaGreatZRTopCarried34
import Derived.Test.YtalodmochkodiaaGreatZRTopCarried30
namespace Go.Proofs.YtalodmochkodiaaGreat
open Go Go.RowKit
/-- the proofs of a moved statement. -/
def mvP : List St := [(1, 0, 0), (1, 1, 0), (2, 0, 1)]
def mvP1 : List St := [(1, 0, 0), (2, 0, 0)]
end Go.Proofs.YtalodmochkodiaaGreat
namespace Go.Proofs.YtalodmochkodiaaGreat
open Go Go.RowKit Go.Maps
/-- what a proof says at its end. -/
def SayP (s : Sg) (g : List (List Int)) (p : List St) (x : List Int × Int) : Prop :=
  (askedB s g p = false ∧ x = ([], 1)) ∨ (askedB s g p = true ∧ ∃ l, RunR s g p l x.2 ∧ ((x.2 = 0 ∧ l.getLast? = some x.1) ∨ (x.2 ≠ 0 ∧ x.1 = [])))
theorem Ints.nil (w : World) : Ints w (.slice none 0 0) [] := ⟨rfl, none, 0, rfl, Nat.le_refl _, by simp, fun _ => rfl, fun j u hj => by simp at hj⟩
theorem proof1 {g : Int} {p : List St} (h : proofB g p = true) : 1 ≤ p.length := by
  unfold proofB at h
  simp only [Bool.and_eq_true] at h
  have := inB_true.1 h.2
  omega
set_option maxHeartbeats 1000000 in
theorem kernel_Says (vs vg vp : Value) (s : Sg) (g : List (List Int)) (p : List St) (w : World) (hs : SignAt w vs s) (hg : Terms w vg g) (hp : StepsAt w vp p) (hs1 : s.length ≤ 1000) :
    Calls Tryz.prog 186 #[vs, vg, vp] w fun e w' => ∃ x u, SayP s g p x ∧ e = .returned (.tuple #[u, .int .i64 x.2]) ∧ Ints w' u x.1 ∧ Below w.heap.size w w' := by
  have HR := hid (kernel_Run vs vg vp s g p w hs hg hp hs1)
  clear hs hg hp
  go_enter Tryz.func186, Tryz.ntmps186
  go_wp2_with fail
  refine HR.out.mono ?_
  rintro e w1 ⟨u, l, n, er, rfl, hq, hT, hb⟩
  rcases hq with ⟨ha, rfl, rfl, rfl⟩ | ⟨ha, hr, -⟩
  · have HX : Hid (SayP s g p ([], 1)) := hid (Or.inl ⟨ha, rfl⟩)
    clear ha hT
    go_wp2
    go_ret2
    exact ⟨([], 1), _, HX.out, rfl, Ints.nil _, hb⟩
  · by_cases h0 : er = 0
    · subst h0
      have hlen : 1 ≤ l.length := by
        have h1 := proof1 (asked_parts ha).2
        rcases hr.2 with ⟨-, h⟩ | ⟨h, -⟩
        · omega
        · exact absurd rfl h
      obtain ⟨a, cap, rfl, hc, hl, -, HC⟩ := hT.open
      obtain ⟨b, o, u, rfl, c, hi⟩ := HC (l.length - 1) (by omega)
      have HX : Hid (SayP s g p (l[l.length - 1], 0)) := hid (Or.inr ⟨ha, l, hr, Or.inl ⟨rfl, by rw [List.getLast?_eq_getElem?, List.getElem?_eq_getElem (by omega)]⟩⟩)
      have HI := hid hi
      obtain ⟨x, hx⟩ : ∃ x, l[l.length - 1] = x := ⟨_, rfl⟩
      rw [hx] at HX HI
      obtain ⟨q, hq⟩ : ∃ q : Nat, l.length = q + 1 := ⟨l.length - 1, by omega⟩
      rw [hq] at hc hl c ⊢
      simp only [Nat.add_sub_cancel] at c
      have hw : IntKind.i64.wrap (((q + 1 : Nat) : Int) - 1) = q := by rw [IntWalk.i64_in _ (by omega)]; omega
      clear hi hx HC hT ha hr hq hlen
      go_wp2
      go_ret2
      exact ⟨(x, 0), _, HX.out, rfl, HI.out, hb⟩
    · have n0 : (er != 0) = true := by simpa using h0
      have HX : Hid (SayP s g p ([], er)) := hid (Or.inr ⟨ha, l, hr, Or.inr ⟨h0, rfl⟩⟩)
      clear ha hr hT h0
      go_wp2
      go_ret2
      exact ⟨([], er), _, HX.out, rfl, Ints.nil _, hb⟩
/-- what an entry says, by its name. -/
def saysN (l : List En) (n : Nm) : Option (List Int) := (idxN l n).bind fun i => (l[i]?).map En.says
def givL (l : List En) : List Nm → Option (List (List Int))
  | [] => some []
  | n :: ns => match saysN l n, givL l ns with
    | some t, some ts => some (t :: ts)
    | _, _ => none
theorem givL_snoc (l : List En) (ns : List Nm) (n : Nm) : givL l (ns ++ [n]) = match givL l ns, saysN l n with
    | some ts, some t => some (ts ++ [t])
    | _, _ => none := by
  induction ns with
  | nil =>
    rw [List.nil_append]
    unfold givL
    unfold givL
    cases saysN l n <;> rfl
  | cons m ns ih =>
    rw [List.cons_append]
    unfold givL
    rw [ih]
    cases saysN l m with
    | none => cases givL l ns <;> cases saysN l n <;> rfl
    | some t => cases givL l ns <;> cases saysN l n <;> rfl
theorem givL_no {l : List En} {n : Nm} : ∀ {ns : List Nm}, n ∈ ns → saysN l n = none → givL l ns = none
  | [], h, _ => by simp at h
  | m :: ns, h, e => by
    unfold givL
    rcases List.mem_cons.1 h with rfl | h
    · rw [e]
    · rw [givL_no h e]
      cases saysN l m <;> rfl
theorem givL_len {l : List En} : ∀ {ns : List Nm} {ts : List (List Int)}, givL l ns = some ts → ts.length = ns.length
  | [], ts, h => by cases h; rfl
  | m :: ns, ts, h => by
    unfold givL at h
    cases h1 : saysN l m with
    | none => rw [h1] at h; cases h
    | some t =>
      cases h2 : givL l ns with
      | none => rw [h1, h2] at h; cases h
      | some us =>
        rw [h1, h2] at h
        cases h
        simp [givL_len h2]
theorem saysN_some {l : List En} {n : Nm} {i : Nat} (h : idxN l n = some i) : ∃ hi : i < l.length, saysN l n = some l[i].says := by
  obtain ⟨hi, -⟩ := idxN_some h
  exact ⟨hi, by unfold saysN; rw [h]; simp [List.getElem?_eq_getElem hi]⟩
theorem saysN_none {l : List En} {n : Nm} (h : idxN l n = none) : saysN l n = none := by unfold saysN; rw [h]; rfl
/-- what an entry's proof says; false if it is no proof of anything. -/
def StrP (s : Sg) (l : List En) (e : En) (x : List Int × Bool) : Prop :=
  (e.proof.length = 0 ∧ x = (e.says, true)) ∨ (e.proof.length ≠ 0 ∧ ((givL l e.uses = none ∧ x = ([], false)) ∨ ∃ g y, givL l e.uses = some g ∧ SayP s g e.proof y ∧ x = (y.1, decide (y.2 = 0))))
def StrQ (s : Sg) (l : List En) (x : En) (w : World) (e : Ending) (w' : World) : Prop := ∃ y u, StrP s l x y ∧ e = .returned (.tuple #[u, .bool y.2]) ∧ Ints w' u y.1 ∧ Below w.heap.size w w'
theorem StrQ.mk {s : Sg} {l : List En} {x : En} {w : World} {e : Ending} {w' : World} (y : List Int × Bool) (u : Value) (h1 : StrP s l x y) (h2 : e = .returned (.tuple #[u, .bool y.2])) (h3 : Ints w' u y.1) (h4 : Below w.heap.size w w') : StrQ s l x w e w' := ⟨y, u, h1, h2, h3, h4⟩
def HldP (s : Sg) (l : List En) (e : En) (z : Bool) : Prop := ∃ x, StrP s l e x ∧ z = (x.2 && instB s x.1 e.says)
/-- what Holds answers. -/
def HoldR (s : Sg) (l : List En) (n : Nm) (z : Bool) (e : Int) : Prop := (libB s l = false ∧ z = false ∧ e = 1) ∨ (libB s l = true ∧ ((idxN l n = none ∧ z = false ∧ e = 5) ∨ ∃ i, ∃ h : i < l.length, idxN l n = some i ∧ HldP s l l[i] z ∧ e = 0))
def HoldQ (s : Sg) (l : List En) (n : Nm) (w : World) (e : Ending) (w' : World) : Prop := ∃ z er, HoldR s l n z er ∧ e = .returned (.tuple #[.bool z, .int .i64 er]) ∧ Below w.heap.size w w'
theorem HoldQ.mk {s : Sg} {l : List En} {n : Nm} {w : World} {e : Ending} {w' : World} (z : Bool) (er : Int) (h1 : HoldR s l n z er) (h2 : e = .returned (.tuple #[.bool z, .int .i64 er])) (h3 : Below w.heap.size w w') : HoldQ s l n w e w' := ⟨z, er, h1, h2, h3⟩
/-- what Strongest answers. -/
def StgR (s : Sg) (l : List En) (n : Nm) (t : List Int) (e : Int) : Prop := (libB s l = false ∧ t = [] ∧ e = 1) ∨ (libB s l = true ∧ ((idxN l n = none ∧ t = [] ∧ e = 5) ∨ ∃ i, ∃ h : i < l.length, idxN l n = some i ∧ ∃ x, StrP s l l[i] x ∧ ((x.2 = true ∧ t = x.1 ∧ e = 0) ∨ (x.2 = false ∧ t = [] ∧ e = 11))))
def StgQ (s : Sg) (l : List En) (n : Nm) (w : World) (e : Ending) (w' : World) : Prop := ∃ u t er, StgR s l n t er ∧ e = .returned (.tuple #[u, .int .i64 er]) ∧ Ints w' u t ∧ Below w.heap.size w w'
theorem StgQ.mk {s : Sg} {l : List En} {n : Nm} {w : World} {e : Ending} {w' : World} (u : Value) (t : List Int) (er : Int) (h1 : StgR s l n t er) (h2 : e = .returned (.tuple #[u, .int .i64 er])) (h3 : Ints w' u t) (h4 : Below w.heap.size w w') : StgQ s l n w e w' := ⟨u, t, er, h1, h2, h3, h4⟩
end Go.Proofs.YtalodmochkodiaaGreat
namespace Go.Proofs.YtalodmochkodiaaGreat
open Go Go.RowKit Go.Maps
theorem txts_of {w : World} {b : Nat} {l : List Nm} (hl : l.length ≤ 1000) (hs : ∀ x ∈ l, x.size ≤ 140737488355328) (hc : ∀ j (h : j < l.length), w.cell? ⟨b, j, none⟩ = some (.string l[j])) : TxtsAt w (.slice (some ⟨b, 0, none⟩) l.length l.length) l := by
  refine ⟨⟨by simp, _, _, rfl, Nat.le_refl _, by omega, (fun h => by cases h), fun j u hj => ⟨b, 0, rfl, ?_⟩⟩, hs⟩
  rw [List.getElem?_map] at hj
  cases e : l[j]? with
  | none => rw [e] at hj; simp at hj
  | some x =>
    rw [e] at hj
    simp at hj
    obtain ⟨h1, h2⟩ := List.getElem?_eq_some_iff.1 e
    rw [Nat.zero_add, hc j h1, h2, hj]
theorem txts_lit2 (w : World) (x y : Nm) (T : TypeId) (hx : x.size ≤ 140737488355328) (hy : y.size ≤ 140737488355328) : TxtsAt (w.alloc (.cells #[.string x, .string y] T)) (.slice (some ⟨w.heap.size, 0, none⟩) 2 2) [x, y] :=
  txts_of (l := [x, y]) (by simp) (by simp; exact ⟨hx, hy⟩) fun j h => by
    match j, h with
    | 0, _ => rw [World.cell?_alloc_new]; rfl
    | 1, _ => rw [World.cell?_alloc_new]; rfl
/-- what says answers. -/
def SaysR (s : Sg) (l : List En) (ns : List Nm) (ts : List (List Int)) (e : Int) : Prop := (libB s l = false ∧ ts = [] ∧ e = 1) ∨ (libB s l = true ∧ ((givL l ns = none ∧ ts = [] ∧ e = 5) ∨ (givL l ns = some ts ∧ e = 0)))
theorem terms_nilC (w : World) : Terms w (.slice none 0 0) [] := ⟨[], ⟨rfl, none, 0, rfl, Nat.le_refl _, by simp, fun _ => rfl, fun j u hj => by simp at hj⟩, rfl, fun i u t h => by simp at h⟩
theorem findR_some {s : Sg} {l : List En} {n : Nm} {i : Nat} (h : libB s l = true) (hi : idxN l n = some i) : findR s l n = ((i : Int), 0) := by unfold findR; rw [h, hi]; rfl
theorem findR_none {s : Sg} {l : List En} {n : Nm} (h : libB s l = true) (hi : idxN l n = none) : findR s l n = (0, 5) := by unfold findR; rw [h, hi]; rfl
set_option maxHeartbeats 2000000 in
theorem carry_says (vs vl vn : Value) (s : Sg) (l : List En) (ns : List Nm) (w : World) (hs : SignAt w vs s) (hl : EntsAt w vl l) (hn : TxtsAt w vn ns) (hs1 : s.length ≤ 1000) (hl1 : l.length ≤ 1000) (hn1 : ns.length ≤ 1000) :
    Calls Tryz.prog 185 #[vs, vl, vn] w fun e w' => ∃ u ts er, SaysR s l ns ts er ∧ e = .returned (.tuple #[u, .int .i64 er]) ∧ Terms w' u ts ∧ Below w.heap.size w w' := by
  have HV := hid (deps_Valid vs vl s l w hs hl hs1 hl1)
  have HSG := hid hs
  have HLL := hid hl
  have HNS := hid hn.2
  obtain ⟨la, lc, rfl, -, ll, -, HC⟩ := hl.open
  obtain ⟨na, nc, rfl, -, -, -, NC⟩ := hn.open
  have HC' := hid HC
  have NC' := hid NC
  clear HC NC hl hs hn
  cases g : libB s l
  · have HR : Hid (SaysR s l ns [] 1) := hid (Or.inl ⟨g, rfl, rfl⟩)
    rw [g] at HV
    clear g
    go_enter Tryz.func185, Tryz.ntmps185
    go_wp2_with fail
    refine HV.out.mono ?_
    rintro e w1 ⟨rfl, hb1⟩
    go_wp2
    go_ret2
    exact ⟨_, [], 1, HR.out, rfl, terms_nilC _, hb1⟩
  rw [g] at HV
  have G := hid g
  clear g
  go_enter Tryz.func185, Tryz.ntmps185
  go_wp2_with fail
  refine HV.out.mono ?_
  rintro e w1 ⟨rfl, hb1⟩
  have hown0 := World.ownsRow_nil w1 w.heap.size 37 1
  go_wp2
  go_loopw [8, 19] (fun u kv wr => ∃ (k : Nat) (vvs : List Value) (ts : List (List Int)), k ≤ ns.length ∧ kv = .int .i64 k ∧ wr.ownsRow w.heap.size 37 1 u k vvs ∧ givL l (ns.take k) = some ts ∧ (∀ (i : Nat) (v : Value) (z : List Int), vvs[i]? = some v → ts[i]? = some z → Ints w v z) ∧ Below w.heap.size w wr) (fun _ kv _ => ns.length - (intOf kv).toNat)
  case atStart => exact ⟨0, [], [], by omega, rfl, hown0, by simp [givL], by simp, hb1⟩
  case round =>
    clear hown0 hb1
    obtain ⟨k, vvs, ts, hk, rfl, hown, hgiv, hrd, hb⟩ := hrel
    have hsz := hb.size
    have hvl : vvs.length = k := by have := hown.1; simpa using this
    have htl : ts.length = k := by have := givL_len hgiv; rw [List.length_take] at this; omega
    by_cases hlt : k < ns.length
    · obtain ⟨xb, xo, rfl, x0⟩ := NC'.out k hlt
      have x1 := (hb.cell (World.block_lt_of_cell? _ _ x0)).trans x0
      have hxs := HNS.out ns[k] (List.getElem_mem hlt)
      have hsn := givL_snoc l (ns.take k) ns[k]
      rw [← List.take_succ_eq_append_getElem hlt, hgiv] at hsn
      have hno := fun h => givL_no (l := l) (List.getElem_mem hlt) h
      obtain ⟨x, hx⟩ : ∃ x, ns[k] = x := ⟨_, rfl⟩
      rw [hx] at x1 hxs hsn hno
      have HFI := hid (deps_Find vs (.slice la l.length lc) s l x wr (HSG.out.below hb) (HLL.out.below hb) hs1 hl1 hxs)
      have HOWN := hid hown
      have HRD := hid hrd
      have HB := hid hb
      have HVL := hid hvl
      have HTL := hid htl
      cases hix : idxN l x with
      | none =>
        have HR : Hid (SaysR s l ns [] 5) := hid (Or.inr ⟨G.out, Or.inl ⟨hno (saysN_none hix), rfl, rfl⟩⟩)
        rw [findR_none G.out hix] at HFI
        clear x0 hx hsn hno hix hown hrd hb hvl htl hgiv
        go_wp2_with fail
        refine HFI.out.mono ?_
        rintro e w2 ⟨rfl, hb2⟩
        go_wp2
        go_ret2
        exact ⟨_, [], 5, HR.out, rfl, terms_nilC _, HB.out.trans (hb2.mono hsz)⟩
      | some j =>
        obtain ⟨hj, hsay⟩ := saysN_some hix
        rw [hsay] at hsn
        rw [findR_some G.out hix] at HFI
        obtain ⟨eb, eo, eS, eu, ep, rfl, -, -, y2, -, -, ye⟩ := HC'.out j hj
        have y2' := (HB.out.cell (World.block_lt_of_cell? _ _ y2)).trans y2
        obtain ⟨sa, sc, rfl, -⟩ := ye.s.open
        have hjl : j < l.length := hj
        have HSN : Hid (givL l (ns.take (k + 1)) = some (ts ++ [l[j].says])) := hid hsn
        have HYS := hid ye.s
        obtain ⟨t, ht⟩ : ∃ t, l[j].says = t := ⟨_, rfl⟩
        rw [ht] at y2' HSN HYS
        clear x0 hx hsn hno hix hown hrd hb hvl htl hgiv hsay y2 ye ht
        go_wp2_with fail
        refine HFI.out.mono ?_
        rintro e w2 ⟨rfl, hb2⟩
        have HB2 := hid (HB.out.trans (hb2.mono hsz))
        have HO2 := hid (owns_below HOWN.out hb2)
        have y2'' := (hb2.cell (World.block_lt_of_cell? _ _ y2')).trans y2'
        have hsz2 := HB2.out.size
        clear hb2 y2'
        go_wp2_with (first
          | (at_builtin; refine wpList_append_row rfl _ _ 160 rfl w.heap.size 37 el_term Tryz.underlying160 rfl (by decide) _ _ _ rfl (HO2.out.alloc _) _ 1 [.slice sa t.length sc] rfl (row_one_new _ _ _) (oneCell_one rfl) (by omega) (by omega) (by simp; omega) ?_; intro v' w4 hown4 hgrow4 _))
        go_roundw
        case rel =>
          refine ⟨k + 1, _, _, by omega, by go_num, hown4, HSN.out, fun q v z hv hz => ?_, (HB2.out.alloc hsz2 _).grown hgrow4 (by have := HB2.out.size; simp; omega) (fun q hq => (HO2.out.lt q hq).1)⟩
          have e1 := HVL.out
          have e2 := HTL.out
          by_cases hq : q < k
          · rw [List.getElem?_append_left (by omega)] at hv hz
            exact HRD.out q v z hv hz
          · rw [List.getElem?_append_right (by omega)] at hv hz
            have e0 : q - k = 0 := by have := (List.getElem?_eq_some_iff.1 hv).1; simp at this; omega
            rw [e1, e0] at hv
            rw [e2, e0] at hz
            simp at hv hz
            subst hv; subst hz
            exact HYS.out
        case measure => simp [intOf]; omega
    · have hkl : k = ns.length := by omega
      subst hkl
      rw [List.take_of_length_le (Nat.le_refl _)] at hgiv
      have HR : Hid (SaysR s l ns ts 0) := hid (Or.inr ⟨G.out, Or.inr ⟨hgiv, rfl⟩⟩)
      have HT : Hid (Terms wr u8 ts) := hid ⟨vvs, by unfold Vals; rw [hvl]; exact RowK.of_owns hown (by omega), by omega, fun q v z h1 h2 => (hrd q v z h1 h2).below hb⟩
      clear hgiv hown hrd
      go_wp2
      go_ret2
      exact ⟨_, ts, 0, HR.out, rfl, HT.out, hb⟩
theorem givL_two {l : List En} {a b : Nm} {ts : List (List Int)} (h : givL l [a, b] = some ts) : ∃ p q, ts = [p, q] ∧ saysN l a = some p ∧ saysN l b = some q := by
  unfold givL at h
  unfold givL at h
  unfold givL at h
  cases h1 : saysN l a with
  | none => rw [h1] at h; cases h
  | some p =>
    cases h2 : saysN l b with
    | none => rw [h1, h2] at h; cases h
    | some q => rw [h1, h2] at h; cases h; exact ⟨p, q, rfl, rfl, rfl⟩
/-- the error of a library and of names that must be there. -/
def nmdI (s : Sg) (l : List En) (ns : List Nm) : Int := if libB s l then (if (givL l ns).isNone then 5 else 0) else 1
theorem SaysR.named {s : Sg} {l : List En} {ns : List Nm} {ts : List (List Int)} {e : Int} (h : SaysR s l ns ts e) : e = nmdI s l ns ∧ (e = 0 → libB s l = true ∧ givL l ns = some ts) := by
  unfold nmdI
  rcases h with ⟨h1, rfl, rfl⟩ | ⟨h1, ⟨h2, rfl, rfl⟩ | ⟨h2, rfl⟩⟩
  · rw [h1]; exact ⟨rfl, fun h => by cases h⟩
  · rw [h1, h2]; exact ⟨rfl, fun h => by cases h⟩
  · rw [h1, h2]; exact ⟨rfl, fun _ => ⟨rfl, rfl⟩⟩
theorem det_len {s : Sg} {m n : List Int} {y : List Int × Int} (h : DetR s m n y) : y.1.length ≤ 60 := by
  rcases h with ⟨-, rfl⟩ | ⟨-, -, ⟨-, rfl⟩ | ⟨A, B, -, -, -, ⟨-, rfl⟩ | ⟨m, -, ⟨hb, rfl⟩ | ⟨-, rfl⟩⟩⟩⟩
  · simp
  · simp
  · simp
  · rw [canonL_len]; exact (madeB_iff.1 hb).1
  · simp
end Go.Proofs.YtalodmochkodiaaGreat
namespace Go.Proofs.YtalodmochkodiaaGreat
open Go Go.RowKit Go.Maps
end Go.Proofs.YtalodmochkodiaaGreat
namespace Go.Proofs.YtalodmochkodiaaGreat
open Go Go.RowKit Go.Maps
theorem intsL (w : World) (l : List Int) (T : TypeId) {arr : Array Value} {n : Nat} (h : arr = (l.map (Value.int .i64)).toArray := by rfl) (hn : n = l.length := by rfl) (hl : l.length ≤ 1000 := by decide) : Ints (w.alloc (.cells arr T)) (.slice (some ⟨w.heap.size, 0, none⟩) n n) l := by
  subst h hn
  have r := World.ownsRow_lit (base := 0) (e := T) (size := 1) w (l.map (Value.int .i64)).toArray l.length (by omega) (by simp [maxLen]; omega) (by simp)
  simp only [List.toList_toArray] at r
  exact Ints.of_owns r (by omega)
theorem ents_lit {w : World} {l : List En} {vs : List V3} {T : TypeId} {cs : Array Value} (hc : cs = (ensC l vs).toArray) (hl : vs.length = l.length) (hl1 : l.length ≤ 1000) (he : ∀ (j : Nat) (h : j < l.length) (h' : j < vs.length), EntAt w vs[j].1 vs[j].2.1 vs[j].2.2 l[j]) : EntsAt (w.alloc (.cells cs T)) (.slice (some ⟨w.heap.size, 0, none⟩) l.length l.length) l := by
  subst hc
  have hb : Below w.heap.size w (w.alloc (.cells (ensC l vs).toArray T)) := (Below.refl _ _).alloc (Nat.le_refl _) _
  refine ⟨vs, ⟨ensC_len l vs hl, _, _, rfl, Nat.le_refl _, by omega, (fun h => by cases h), fun j u hj => ⟨_, _, rfl, ?_⟩⟩, hl, fun j h h' => (he j h h').below hb⟩
  rw [World.cell?_alloc_new, Nat.zero_add]
  simpa using hj
end Go.Proofs.YtalodmochkodiaaGreat
namespace Go.Proofs.YtalodmochkodiaaGreat
open Go Go.RowKit Go.Maps
def Hv6Q (s : Sg) (l : List En) (w : World) (e : Ending) (w' : World) : Prop := ∃ z : Bool, e = .returned (.bool z) ∧ (z = false → s.length ≤ 20 ∧ l.length ≤ 10 ∧ libB s l = true) ∧ Below w.heap.size w w'
theorem Hv6Q.yes {s : Sg} {l : List En} {w : World} {w' : World} (h : Below w.heap.size w w') : Hv6Q s l w (.returned (.bool true)) w' := ⟨true, rfl, (fun h => by cases h), h⟩
theorem Hv6Q.no {s : Sg} {l : List En} {w : World} {w' : World} (h1 : s.length ≤ 20) (h2 : l.length ≤ 10) (h3 : libB s l = true) (h : Below w.heap.size w w') : Hv6Q s l w (.returned (.bool false)) w' := ⟨false, rfl, fun _ => ⟨h1, h2, h3⟩, h⟩
set_option maxHeartbeats 2000000 in
theorem top_heavy6 (vs vl : Value) (s : Sg) (l : List En) (w : World) (hs : SignAt w vs s) (hl : EntsAt w vl l) :
    Calls Tryz.prog 79 #[vs, vl] w fun e w' => Hv6Q s l w e w' := by
  have HV := hid (fun h1 h2 => ref6_Valid vs vl s l w hs hl h1 h2)
  obtain ⟨sa, sc, rfl, -, hsl, -⟩ := hs.open
  obtain ⟨la, lc, rfl, -, ll, -, HC⟩ := hl.open
  have HC' := hid HC
  clear HC hl hs
  by_cases h1 : 20 < s.length
  · have q1 : (s.length : Int) > 20 := by omega
    go_enter Tryz.func79, Tryz.ntmps79
    go_wp2
    go_ret
    exact Hv6Q.yes (Below.refl _ _)
  have q1 : ¬ (s.length : Int) > 20 := by omega
  have HS20 : Hid (s.length ≤ 20) := hid (by omega)
  by_cases h2 : 10 < l.length
  · have q2 : (l.length : Int) > 10 := by omega
    go_enter Tryz.func79, Tryz.ntmps79
    go_wp2
    go_ret
    exact Hv6Q.yes (Below.refl _ _)
  have q2 : ¬ (l.length : Int) > 10 := by omega
  have HL10 : Hid (l.length ≤ 10) := hid (by omega)
  have HV := hid (HV.out (by omega) (by omega))
  clear h1 h2
  cases h3 : libB s l
  · rw [h3] at HV
    clear h3
    go_enter Tryz.func79, Tryz.ntmps79
    go_wp2_with fail
    refine HV.out.mono ?_
    rintro e w1 ⟨rfl, hb1⟩
    go_wp2
    go_ret
    exact Hv6Q.yes hb1
  rw [h3] at HV
  have H3 := hid h3
  clear h3
  go_enter Tryz.func79, Tryz.ntmps79
  go_wp2_with fail
  refine HV.out.mono ?_
  rintro e w1 ⟨rfl, hb1⟩
  have HB1 := hid hb1
  clear hb1
  go_wp2
  go_loop [5] (fun kv => ∃ k : Nat, k ≤ l.length ∧ kv = .int .i64 k) (fun kv => l.length - (intOf kv).toNat)
  case atStart => exact ⟨0, by omega, rfl⟩
  case round =>
    obtain ⟨k, hk, rfl⟩ := hrel
    by_cases hlt : k < l.length
    · obtain ⟨b, o, vS, vu, vp, rfl, c0, c1, c2, c3, c4, he⟩ := HC'.out k hlt
      have he' := he.below HB1.out
      obtain ⟨pa, pc, rfl, -⟩ := he'.p.open
      have d4 := (HB1.out.cell (World.block_lt_of_cell? _ _ c4)).trans c4
      obtain ⟨x, hx⟩ : ∃ x, l[k] = x := ⟨_, rfl⟩
      rw [hx] at d4
      clear c0 c1 c2 c3 c4 he he' hx
      by_cases e1 : (x.proof.length : Int) > 12
      · go_wp2
        go_ret
        exact Hv6Q.yes HB1.out
      · go_wp2
        go_round
        case rel => exact ⟨k + 1, by omega, by go_num⟩
        case measure => simp [intOf]; omega
    · go_wp2
      go_ret
      exact Hv6Q.no HS20.out HL10.out H3.out HB1.out
def sC1 : Sg := [(⟨#[67]⟩, 2)]
theorem signL1 (w : World) (T : TypeId) : SignAt (w.alloc (.cells #[.string ⟨#[67]⟩, .int .i64 2] T)) (.slice (some ⟨w.heap.size, 0, none⟩) 1 1) sC1 := by
  have r1 := World.ownsRow_lit (base := 0) (e := T) (size := 2) w #[.string ⟨#[67]⟩, .int .i64 2] 1 (by omega) (by simp [maxLen]) rfl
  refine ⟨RowK.of_owns r1 (by simp [sC1]), ?_⟩
  intro x hx
  simp [sC1] at hx
  subst hx
  simp [ByteArray.size]
theorem conv_top8 : convR sC1 [0, -1, 0, -2, -1] = ([0, 0, -1, -2, -2], 0) := by decide +kernel
set_option maxHeartbeats 2000000 in
theorem top_awake8 (w : World) :
    Calls Tryz.prog 81 #[] w fun e w' => e = .returned (.bool true) ∧ Below w.heap.size w w' := by
  go_enter Tryz.func81, Tryz.ntmps81
  go_wp2_with fail
  have q1 := signL1 w 99
  obtain ⟨W1, hW1⟩ : ∃ W1, w.alloc (.cells #[.string ⟨#[67]⟩, .int .i64 2] 99) = W1 := ⟨_, rfl⟩
  have b1 : Below w.heap.size w W1 := hW1 ▸ (Below.refl _ _).alloc (Nat.le_refl _) _
  have z1 : W1.heap.size = w.heap.size + 1 := by rw [← hW1]; simp
  rw [hW1] at q1 ⊢
  have q2 := intsL W1 [0, -1, 0, -2, -1] 3
  obtain ⟨W2, hW2⟩ : ∃ W2, W1.alloc (.cells #[.int .i64 0, .int .i64 (-1), .int .i64 0, .int .i64 (-2), .int .i64 (-1)] 3) = W2 := ⟨_, rfl⟩
  have b2 : Below W1.heap.size W1 W2 := hW2 ▸ (Below.refl _ _).alloc (Nat.le_refl _) _
  have q2' : Ints W2 (.slice (some ⟨w.heap.size + 1, 0, none⟩) 5 5) [0, -1, 0, -2, -1] := by rw [← hW2, ← z1]; exact q2
  rw [hW2]
  have HS := hid (q1.below b2)
  have HI := hid q2'
  have HB := hid (b1.trans (b2.mono b1.size))
  clear q1 q2 q2' b1 b2 z1 hW1 hW2
  have HCV := hid (carry_Converse _ _ sC1 [0, -1, 0, -2, -1] W2 HS.out HI.out (by simp [sC1]))
  rw [conv_top8] at HCV
  refine HCV.out.mono ?_
  rintro e w1 ⟨uc, rfl, hic, hb1⟩
  have HB1 := hid (HB.out.trans (hb1.mono HB.out.size))
  have q4 := intsL w1 [0, 0, -1, -2, -2] 3
  have b4 : Below w1.heap.size w1 (w1.alloc (.cells #[.int .i64 0, .int .i64 0, .int .i64 (-1), .int .i64 (-2), .int .i64 (-2)] 3)) := (Below.refl _ _).alloc (Nat.le_refl _) _
  have HST := hid (ref6_SameTerm _ _ _ _ _ (hic.below b4) q4)
  have hd : decide (([0, 0, -1, -2, -2] : List Int) = [0, 0, -1, -2, -2]) = true := by decide
  rw [hd] at HST
  have HB4 := hid (HB1.out.trans (b4.mono HB1.out.size))
  clear hic hb1 hd HCV q4 b4
  go_wp2_with fail
  refine HST.out.mono ?_
  rintro e w7 ⟨rfl, n7, rfl⟩
  go_wp2
  go_ret
  exact ⟨ret_bool (by simp), below_drewN HB4.out n7⟩
end Go.Proofs.YtalodmochkodiaaGreat
