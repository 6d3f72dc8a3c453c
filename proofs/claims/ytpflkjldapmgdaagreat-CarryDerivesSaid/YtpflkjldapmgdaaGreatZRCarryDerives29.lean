/-
  WHAT IT HOLDS: contracts of Says of package kernel, of axiom, givens, strongest, holds, and of Holds and Strongest of package deps. Conditions: the arguments read as data; small signs, small libraries.
  WHAT IT HOLDS: contracts of says, Along and There of package carry. Conditions: the arguments read as data; small signs, small libraries.
  WHAT IT HOLDS: contracts of sides, implies, Converse and Equivalence of package carry. Conditions: the arguments read as data; small signs.
  WHAT IT HOLDS: the contract of the helper awake of the laws of layer 8. No condition.
-/
import Derived.Deep.RegionHeld3
import Derived.Test.YtpflkjldapmgdaaGreatZRCarryDerives19
import Derived.Test.YtpflkjldapmgdaaGreatZRCarryDerives26
import Derived.Test.YtpflkjldapmgdaaGreatZRCarryDerives17
import Derived.Test.YtpflkjldapmgdaaGreatZRCarryDerives25
import Derived.Test.YtpflkjldapmgdaaGreatZRCarryDerives27
import Derived.Test.YtpflkjldapmgdaaGreatZRCarryDerives28
namespace Go.Proofs.YtpflkjldapmgdaaGreat
open Go Go.RowKit Go.Maps
/-- what a proof says at its end. -/
def SayP (s : Sg) (g : List (List Int)) (p : List St) (x : List Int × Int) : Prop :=
  (askedB s g p = false ∧ x = ([], 1)) ∨ (askedB s g p = true ∧ ∃ l, RunR s g p l x.2 ∧ ((x.2 = 0 ∧ l.getLast? = some x.1) ∨ (x.2 ≠ 0 ∧ x.1 = [])))
theorem Ints.nil (w : World) : Ints w (.slice none 0 0) [] := ⟨rfl, none, 0, rfl, Nat.le_refl _, by simp, fun _ => rfl, fun j u hj => by simp at hj⟩
/-- what an entry says, by its name. -/
def saysN (l : List En) (n : Nm) : Option (List Int) := (idxN l n).bind fun i => (l[i]?).map En.says
def givL (l : List En) : List Nm → Option (List (List Int))
  | [] => some []
  | n :: ns => match saysN l n, givL l ns with
    | some t, some ts => some (t :: ts)
    | _, _ => none
theorem givL_snoc (l : List En) (ns : List Nm) (n : Nm) : givL l (ns ++ [n]) = match givL l ns, saysN l n with
    | some ts, some t => some (ts ++ [t])
    | _, _ => none := by
  induction ns with
  | nil =>
    rw [List.nil_append]
    unfold givL
    unfold givL
    cases saysN l n <;> rfl
  | cons m ns ih =>
    rw [List.cons_append]
    unfold givL
    rw [ih]
    cases saysN l m with
    | none => cases givL l ns <;> cases saysN l n <;> rfl
    | some t => cases givL l ns <;> cases saysN l n <;> rfl
theorem givL_no {l : List En} {n : Nm} : ∀ {ns : List Nm}, n ∈ ns → saysN l n = none → givL l ns = none
  | [], h, _ => by simp at h
  | m :: ns, h, e => by
    unfold givL
    rcases List.mem_cons.1 h with rfl | h
    · rw [e]
    · rw [givL_no h e]
      cases saysN l m <;> rfl
theorem givL_len {l : List En} : ∀ {ns : List Nm} {ts : List (List Int)}, givL l ns = some ts → ts.length = ns.length
  | [], ts, h => by cases h; rfl
  | m :: ns, ts, h => by
    unfold givL at h
    cases h1 : saysN l m with
    | none => rw [h1] at h; cases h
    | some t =>
      cases h2 : givL l ns with
      | none => rw [h1, h2] at h; cases h
      | some us =>
        rw [h1, h2] at h
        cases h
        simp [givL_len h2]
theorem saysN_some {l : List En} {n : Nm} {i : Nat} (h : idxN l n = some i) : ∃ hi : i < l.length, saysN l n = some l[i].says := by
  obtain ⟨hi, -⟩ := idxN_some h
  exact ⟨hi, by unfold saysN; rw [h]; simp [List.getElem?_eq_getElem hi]⟩
theorem saysN_none {l : List En} {n : Nm} (h : idxN l n = none) : saysN l n = none := by unfold saysN; rw [h]; rfl
/-- what an entry's proof says; false if it is no proof of anything. -/
def StrP (s : Sg) (l : List En) (e : En) (x : List Int × Bool) : Prop :=
  (e.proof.length = 0 ∧ x = (e.says, true)) ∨ (e.proof.length ≠ 0 ∧ ((givL l e.uses = none ∧ x = ([], false)) ∨ ∃ g y, givL l e.uses = some g ∧ SayP s g e.proof y ∧ x = (y.1, decide (y.2 = 0))))
def StrQ (s : Sg) (l : List En) (x : En) (w : World) (e : Ending) (w' : World) : Prop := ∃ y u, StrP s l x y ∧ e = .returned (.tuple #[u, .bool y.2]) ∧ Ints w' u y.1 ∧ Below w.heap.size w w'
theorem StrQ.mk {s : Sg} {l : List En} {x : En} {w : World} {e : Ending} {w' : World} (y : List Int × Bool) (u : Value) (h1 : StrP s l x y) (h2 : e = .returned (.tuple #[u, .bool y.2])) (h3 : Ints w' u y.1) (h4 : Below w.heap.size w w') : StrQ s l x w e w' := ⟨y, u, h1, h2, h3, h4⟩
def HldP (s : Sg) (l : List En) (e : En) (z : Bool) : Prop := ∃ x, StrP s l e x ∧ z = (x.2 && instB s x.1 e.says)
/-- what Holds answers. -/
def HoldR (s : Sg) (l : List En) (n : Nm) (z : Bool) (e : Int) : Prop := (libB s l = false ∧ z = false ∧ e = 1) ∨ (libB s l = true ∧ ((idxN l n = none ∧ z = false ∧ e = 5) ∨ ∃ i, ∃ h : i < l.length, idxN l n = some i ∧ HldP s l l[i] z ∧ e = 0))
def HoldQ (s : Sg) (l : List En) (n : Nm) (w : World) (e : Ending) (w' : World) : Prop := ∃ z er, HoldR s l n z er ∧ e = .returned (.tuple #[.bool z, .int .i64 er]) ∧ Below w.heap.size w w'
theorem HoldQ.mk {s : Sg} {l : List En} {n : Nm} {w : World} {e : Ending} {w' : World} (z : Bool) (er : Int) (h1 : HoldR s l n z er) (h2 : e = .returned (.tuple #[.bool z, .int .i64 er])) (h3 : Below w.heap.size w w') : HoldQ s l n w e w' := ⟨z, er, h1, h2, h3⟩
/-- what Strongest answers. -/
def StgR (s : Sg) (l : List En) (n : Nm) (t : List Int) (e : Int) : Prop := (libB s l = false ∧ t = [] ∧ e = 1) ∨ (libB s l = true ∧ ((idxN l n = none ∧ t = [] ∧ e = 5) ∨ ∃ i, ∃ h : i < l.length, idxN l n = some i ∧ ∃ x, StrP s l l[i] x ∧ ((x.2 = true ∧ t = x.1 ∧ e = 0) ∨ (x.2 = false ∧ t = [] ∧ e = 11))))
def StgQ (s : Sg) (l : List En) (n : Nm) (w : World) (e : Ending) (w' : World) : Prop := ∃ u t er, StgR s l n t er ∧ e = .returned (.tuple #[u, .int .i64 er]) ∧ Ints w' u t ∧ Below w.heap.size w w'
theorem StgQ.mk {s : Sg} {l : List En} {n : Nm} {w : World} {e : Ending} {w' : World} (u : Value) (t : List Int) (er : Int) (h1 : StgR s l n t er) (h2 : e = .returned (.tuple #[u, .int .i64 er])) (h3 : Ints w' u t) (h4 : Below w.heap.size w w') : StgQ s l n w e w' := ⟨u, t, er, h1, h2, h3, h4⟩
end Go.Proofs.YtpflkjldapmgdaaGreat
namespace Go.Proofs.YtpflkjldapmgdaaGreat
open Go Go.RowKit Go.Maps
theorem txts_of {w : World} {b : Nat} {l : List Nm} (hl : l.length ≤ 1000) (hs : ∀ x ∈ l, x.size ≤ 140737488355328) (hc : ∀ j (h : j < l.length), w.cell? ⟨b, j, none⟩ = some (.string l[j])) : TxtsAt w (.slice (some ⟨b, 0, none⟩) l.length l.length) l := by
  refine ⟨⟨by simp, _, _, rfl, Nat.le_refl _, by omega, (fun h => by cases h), fun j u hj => ⟨b, 0, rfl, ?_⟩⟩, hs⟩
  rw [List.getElem?_map] at hj
  cases e : l[j]? with
  | none => rw [e] at hj; simp at hj
  | some x =>
    rw [e] at hj
    simp at hj
    obtain ⟨h1, h2⟩ := List.getElem?_eq_some_iff.1 e
    rw [Nat.zero_add, hc j h1, h2, hj]
theorem txts_lit2 (w : World) (x y : Nm) (T : TypeId) (hx : x.size ≤ 140737488355328) (hy : y.size ≤ 140737488355328) : TxtsAt (w.alloc (.cells #[.string x, .string y] T)) (.slice (some ⟨w.heap.size, 0, none⟩) 2 2) [x, y] :=
  txts_of (l := [x, y]) (by simp) (by simp; exact ⟨hx, hy⟩) fun j h => by
    match j, h with
    | 0, _ => rw [World.cell?_alloc_new]; rfl
    | 1, _ => rw [World.cell?_alloc_new]; rfl
/-- what says answers. -/
def SaysR (s : Sg) (l : List En) (ns : List Nm) (ts : List (List Int)) (e : Int) : Prop := (libB s l = false ∧ ts = [] ∧ e = 1) ∨ (libB s l = true ∧ ((givL l ns = none ∧ ts = [] ∧ e = 5) ∨ (givL l ns = some ts ∧ e = 0)))
theorem terms_nilC (w : World) : Terms w (.slice none 0 0) [] := ⟨[], ⟨rfl, none, 0, rfl, Nat.le_refl _, by simp, fun _ => rfl, fun j u hj => by simp at hj⟩, rfl, fun i u t h => by simp at h⟩
theorem findR_some {s : Sg} {l : List En} {n : Nm} {i : Nat} (h : libB s l = true) (hi : idxN l n = some i) : findR s l n = ((i : Int), 0) := by unfold findR; rw [h, hi]; rfl
theorem findR_none {s : Sg} {l : List En} {n : Nm} (h : libB s l = true) (hi : idxN l n = none) : findR s l n = (0, 5) := by unfold findR; rw [h, hi]; rfl
set_option maxHeartbeats 2000000 in
theorem carry_says (vs vl vn : Value) (s : Sg) (l : List En) (ns : List Nm) (w : World) (hs : SignAt w vs s) (hl : EntsAt w vl l) (hn : TxtsAt w vn ns) (hs1 : s.length ≤ 1000) (hl1 : l.length ≤ 1000) (hn1 : ns.length ≤ 1000) :
    Calls Tryz.prog 41 #[vs, vl, vn] w fun e w' => ∃ u ts er, SaysR s l ns ts er ∧ e = .returned (.tuple #[u, .int .i64 er]) ∧ Terms w' u ts ∧ Below w.heap.size w w' := by
  have HV := hid (deps_Valid vs vl s l w hs hl hs1 hl1)
  have HSG := hid hs
  have HLL := hid hl
  have HNS := hid hn.2
  obtain ⟨la, lc, rfl, -, ll, -, HC⟩ := hl.open
  obtain ⟨na, nc, rfl, -, -, -, NC⟩ := hn.open
  have HC' := hid HC
  have NC' := hid NC
  clear HC NC hl hs hn
  cases g : libB s l
  · have HR : Hid (SaysR s l ns [] 1) := hid (Or.inl ⟨g, rfl, rfl⟩)
    rw [g] at HV
    clear g
    go_enter Tryz.func41, Tryz.ntmps41
    go_wp2_with fail
    refine HV.out.mono ?_
    rintro e w1 ⟨rfl, hb1⟩
    go_wp2
    go_ret2
    exact ⟨_, [], 1, HR.out, rfl, terms_nilC _, hb1⟩
  rw [g] at HV
  have G := hid g
  clear g
  go_enter Tryz.func41, Tryz.ntmps41
  go_wp2_with fail
  refine HV.out.mono ?_
  rintro e w1 ⟨rfl, hb1⟩
  have hown0 := World.ownsRow_nil w1 w.heap.size 28 1
  go_wp2
  go_loopw [8, 19] (fun u kv wr => ∃ (k : Nat) (vvs : List Value) (ts : List (List Int)), k ≤ ns.length ∧ kv = .int .i64 k ∧ wr.ownsRow w.heap.size 28 1 u k vvs ∧ givL l (ns.take k) = some ts ∧ (∀ (i : Nat) (v : Value) (z : List Int), vvs[i]? = some v → ts[i]? = some z → Ints w v z) ∧ Below w.heap.size w wr) (fun _ kv _ => ns.length - (intOf kv).toNat)
  case atStart => exact ⟨0, [], [], by omega, rfl, hown0, by simp [givL], by simp, hb1⟩
  case round =>
    clear hown0 hb1
    obtain ⟨k, vvs, ts, hk, rfl, hown, hgiv, hrd, hb⟩ := hrel
    have hsz := hb.size
    have hvl : vvs.length = k := by have := hown.1; simpa using this
    have htl : ts.length = k := by have := givL_len hgiv; rw [List.length_take] at this; omega
    by_cases hlt : k < ns.length
    · obtain ⟨xb, xo, rfl, x0⟩ := NC'.out k hlt
      have x1 := (hb.cell (World.block_lt_of_cell? _ _ x0)).trans x0
      have hxs := HNS.out ns[k] (List.getElem_mem hlt)
      have hsn := givL_snoc l (ns.take k) ns[k]
      rw [← List.take_succ_eq_append_getElem hlt, hgiv] at hsn
      have hno := fun h => givL_no (l := l) (List.getElem_mem hlt) h
      obtain ⟨x, hx⟩ : ∃ x, ns[k] = x := ⟨_, rfl⟩
      rw [hx] at x1 hxs hsn hno
      have HFI := hid (deps_Find vs (.slice la l.length lc) s l x wr (HSG.out.below hb) (HLL.out.below hb) hs1 hl1 hxs)
      have HOWN := hid hown
      have HRD := hid hrd
      have HB := hid hb
      have HVL := hid hvl
      have HTL := hid htl
      cases hix : idxN l x with
      | none =>
        have HR : Hid (SaysR s l ns [] 5) := hid (Or.inr ⟨G.out, Or.inl ⟨hno (saysN_none hix), rfl, rfl⟩⟩)
        rw [findR_none G.out hix] at HFI
        clear x0 hx hsn hno hix hown hrd hb hvl htl hgiv
        go_wp2_with fail
        refine HFI.out.mono ?_
        rintro e w2 ⟨rfl, hb2⟩
        go_wp2
        go_ret2
        exact ⟨_, [], 5, HR.out, rfl, terms_nilC _, HB.out.trans (hb2.mono hsz)⟩
      | some j =>
        obtain ⟨hj, hsay⟩ := saysN_some hix
        rw [hsay] at hsn
        rw [findR_some G.out hix] at HFI
        obtain ⟨eb, eo, eS, eu, ep, rfl, -, -, y2, -, -, ye⟩ := HC'.out j hj
        have y2' := (HB.out.cell (World.block_lt_of_cell? _ _ y2)).trans y2
        obtain ⟨sa, sc, rfl, -⟩ := ye.s.open
        have hjl : j < l.length := hj
        have HSN : Hid (givL l (ns.take (k + 1)) = some (ts ++ [l[j].says])) := hid hsn
        have HYS := hid ye.s
        obtain ⟨t, ht⟩ : ∃ t, l[j].says = t := ⟨_, rfl⟩
        rw [ht] at y2' HSN HYS
        clear x0 hx hsn hno hix hown hrd hb hvl htl hgiv hsay y2 ye ht
        go_wp2_with fail
        refine HFI.out.mono ?_
        rintro e w2 ⟨rfl, hb2⟩
        have HB2 := hid (HB.out.trans (hb2.mono hsz))
        have HO2 := hid (owns_below HOWN.out hb2)
        have y2'' := (hb2.cell (World.block_lt_of_cell? _ _ y2')).trans y2'
        have hsz2 := HB2.out.size
        clear hb2 y2'
        go_wp2_with (first
          | (at_builtin; refine wpList_append_row rfl _ _ 56 rfl w.heap.size 28 el_term Tryz.underlying56 rfl (by decide) _ _ _ rfl (HO2.out.alloc _) _ 1 [.slice sa t.length sc] rfl (row_one_new _ _ _) (oneCell_one rfl) (by omega) (by omega) (by simp; omega) ?_; intro v' w4 hown4 hgrow4 _))
        go_roundw
        case rel =>
          refine ⟨k + 1, _, _, by omega, by go_num, hown4, HSN.out, fun q v z hv hz => ?_, (HB2.out.alloc hsz2 _).grown hgrow4 (by have := HB2.out.size; simp; omega) (fun q hq => (HO2.out.lt q hq).1)⟩
          have e1 := HVL.out
          have e2 := HTL.out
          by_cases hq : q < k
          · rw [List.getElem?_append_left (by omega)] at hv hz
            exact HRD.out q v z hv hz
          · rw [List.getElem?_append_right (by omega)] at hv hz
            have e0 : q - k = 0 := by have := (List.getElem?_eq_some_iff.1 hv).1; simp at this; omega
            rw [e1, e0] at hv
            rw [e2, e0] at hz
            simp at hv hz
            subst hv; subst hz
            exact HYS.out
        case measure => simp [intOf]; omega
    · have hkl : k = ns.length := by omega
      subst hkl
      rw [List.take_of_length_le (Nat.le_refl _)] at hgiv
      have HR : Hid (SaysR s l ns ts 0) := hid (Or.inr ⟨G.out, Or.inr ⟨hgiv, rfl⟩⟩)
      have HT : Hid (Terms wr u8 ts) := hid ⟨vvs, by unfold Vals; rw [hvl]; exact RowK.of_owns hown (by omega), by omega, fun q v z h1 h2 => (hrd q v z h1 h2).below hb⟩
      clear hgiv hown hrd
      go_wp2
      go_ret2
      exact ⟨_, ts, 0, HR.out, rfl, HT.out, hb⟩
theorem givL_two {l : List En} {a b : Nm} {ts : List (List Int)} (h : givL l [a, b] = some ts) : ∃ p q, ts = [p, q] ∧ saysN l a = some p ∧ saysN l b = some q := by
  unfold givL at h
  unfold givL at h
  unfold givL at h
  cases h1 : saysN l a with
  | none => rw [h1] at h; cases h
  | some p =>
    cases h2 : saysN l b with
    | none => rw [h1, h2] at h; cases h
    | some q => rw [h1, h2] at h; cases h; exact ⟨p, q, rfl, rfl, rfl⟩
/-- the error of a library and of names that must be there. -/
def nmdI (s : Sg) (l : List En) (ns : List Nm) : Int := if libB s l then (if (givL l ns).isNone then 5 else 0) else 1
theorem SaysR.named {s : Sg} {l : List En} {ns : List Nm} {ts : List (List Int)} {e : Int} (h : SaysR s l ns ts e) : e = nmdI s l ns ∧ (e = 0 → libB s l = true ∧ givL l ns = some ts) := by
  unfold nmdI
  rcases h with ⟨h1, rfl, rfl⟩ | ⟨h1, ⟨h2, rfl, rfl⟩ | ⟨h2, rfl⟩⟩
  · rw [h1]; exact ⟨rfl, fun h => by cases h⟩
  · rw [h1, h2]; exact ⟨rfl, fun h => by cases h⟩
  · rw [h1, h2]; exact ⟨rfl, fun _ => ⟨rfl, rfl⟩⟩
/-- what Along answers. -/
def AloR (s : Sg) (l : List En) (a n : Nm) (x : List Int × Int) : Prop :=
  (nmdI s l [a, n] ≠ 0 ∧ x = ([], nmdI s l [a, n])) ∨ (nmdI s l [a, n] = 0 ∧ libB s l = true ∧ ∃ p q, saysN l a = some p ∧ saysN l n = some q ∧ DetR s p q x)
theorem det_len {s : Sg} {m n : List Int} {y : List Int × Int} (h : DetR s m n y) : y.1.length ≤ 60 := by
  rcases h with ⟨-, rfl⟩ | ⟨-, -, ⟨-, rfl⟩ | ⟨A, B, -, -, -, ⟨-, rfl⟩ | ⟨m, -, ⟨hb, rfl⟩ | ⟨-, rfl⟩⟩⟩⟩
  · simp
  · simp
  · simp
  · rw [canonL_len]; exact (madeB_iff.1 hb).1
  · simp
set_option maxHeartbeats 1000000 in
theorem carry_Along (vs vl : Value) (s : Sg) (l : List En) (a n : Nm) (w : World) (hs : SignAt w vs s) (hl : EntsAt w vl l) (hs1 : s.length ≤ 1000) (hl1 : l.length ≤ 1000) (ha : a.size ≤ 140737488355328) (hn : n.size ≤ 140737488355328) :
    Calls Tryz.prog 10 #[vs, vl, .string a, .string n] w fun e w' => ∃ x u, AloR s l a n x ∧ e = .returned (.tuple #[u, .int .i64 x.2]) ∧ Ints w' u x.1 ∧ Below w.heap.size w w' := by
  have hlit := txts_lit2 w a n 9 ha hn
  have hb0 : Below w.heap.size w (w.alloc (.cells #[.string a, .string n] 9)) := (Below.refl _ _).alloc (Nat.le_refl _) _
  have HSY := hid (carry_says vs vl _ s l [a, n] _ (hs.below hb0) (hl.below hb0) hlit hs1 hl1 (by simp))
  have HB0 := hid hb0
  have HSG := hid hs
  clear hlit hb0 hl hs
  go_enter Tryz.func10, Tryz.ntmps10
  go_wp2_with fail
  refine HSY.out.mono ?_
  rintro e w1 ⟨u, ts, er, hr, rfl, hT, hb1⟩
  have hb := HB0.out.trans (hb1.mono HB0.out.size)
  obtain ⟨he, hz⟩ := hr.named
  by_cases h0 : er = 0
  · obtain ⟨hlib, hg⟩ := hz h0
    obtain ⟨p, q, rfl, hp, hq⟩ := givL_two hg
    subst h0
    have HR : Hid (∀ x, DetR s p q x → AloR s l a n x) := hid fun x hx => Or.inr ⟨he.symm, hlib, p, q, hp, hq, hx⟩
    obtain ⟨ta, tc, rfl, tcap, -, -, TC⟩ := hT.open
    obtain ⟨tb, to, up, rfl, k0, i0⟩ := TC 0 (by simp)
    obtain ⟨tb', to', uq, he', k1, i1⟩ := TC 1 (by simp)
    obtain ⟨rfl, rfl⟩ : tb = tb' ∧ to = to' := by simpa using he'
    simp only [List.getElem_cons_zero, List.getElem_cons_succ, Nat.add_zero, List.length_cons, List.length_nil, Nat.zero_add, Nat.reduceAdd] at k0 k1 tcap i0 i1 ⊢
    have HDE := hid (fun (j : Nat) => kernel_Detach vs up uq s p q (w1.drewN j) ((HSG.out.below hb).drewN j) (i0.drewN j) (i1.drewN j) hs1)
    obtain ⟨pa, pc, rfl, -⟩ := i0.open
    obtain ⟨qa, qc, rfl, -⟩ := i1.open
    have HB := hid hb
    have hszb := hb.size
    clear hr hz hlib hg hp hq TC he' hT hb1 hb he i0 i1
    go_wp2
    go_region_held3 (fun w' => w'.cell? ⟨tb, to, none⟩ = some (.slice pa p.length pc) ∧ w'.cell? ⟨tb, to + 1, none⟩ = some (.slice qa q.length qc)) (first | exact ⟨by assumption, by assumption⟩ | go_keep) (first
      | (go_at_call 42; refine (HDE.out _).mono ?_; rintro e w4 ⟨x, u, hx, rfl, hown, hb4'⟩; have hb4 : Below w1.heap.size w1 w4 := (below_self_drewN w1 _).trans hb4'; have e0 := (hb4.cell (World.block_lt_of_cell? _ _ k0)).trans k0; have e1 := (hb4.cell (World.block_lt_of_cell? _ _ k1)).trans k1))
    have HX := hid (HR.out x hx)
    have HI := hid (Ints.of_owns hown (by have := det_len hx; omega))
    have HB4 := hid (HB.out.trans (hb4.mono hszb))
    clear hx hown hb4 hb4' e0 e1 k0 k1 HDE HR
    go_wp2
    go_ret2
    exact ⟨x, _, HX.out, rfl, by first | exact HI.out | exact HI.out.drewN _, by first | exact HB4.out | exact below_drewN HB4.out _⟩
  · have HR : Hid (AloR s l a n ([], er)) := hid (Or.inl ⟨by rw [← he]; exact h0, by rw [he]⟩)
    have n0 : (er != 0) = true := by simpa using h0
    clear hr he hz hT h0
    go_wp2
    go_ret2
    exact ⟨([], er), _, HR.out, rfl, Ints.nil _, hb⟩
end Go.Proofs.YtpflkjldapmgdaaGreat
namespace Go.Proofs.YtpflkjldapmgdaaGreat
open Go Go.RowKit Go.Maps
set_option maxHeartbeats 1000000 in
theorem carry_sides0 (vs vm : Value) (s : Sg) (m : List Int) (w : World) (hm : 0 < m.length) (h0 : m.head? ≠ some 0) (rm : Ints w vm m) :
    Calls Tryz.prog 65 #[vs, vm] w fun e w' => e = .returned (.tuple #[.slice none 0 0, .slice none 0 0, .bool false]) ∧ Below w.heap.size w w' := by
  obtain ⟨ta, tcap, rfl, hcap, h2, -, TC⟩ := rm.open
  obtain ⟨b, o, rfl, hc0⟩ := TC 0 hm
  simp only [Nat.add_zero] at hc0
  have hn : m[0] ≠ 0 := fun h => h0 (by rw [List.head?_eq_getElem?, List.getElem?_eq_getElem hm, h])
  have hnd : (m[0] != 0) = true := by simpa using hn
  obtain ⟨x, hx⟩ : ∃ x, m[0] = x := ⟨_, rfl⟩
  rw [hx] at hc0 hnd
  clear TC rm h0 hx hn
  go_enter Tryz.func65, Tryz.ntmps65
  go_wp2
  go_ret3
  exact ⟨rfl, Below.refl _ _⟩
set_option maxHeartbeats 1000000 in
theorem carry_sides (vs vm : Value) (s : Sg) (m A B : List Int) (w : World) (hm : m = 0 :: (A ++ B)) (hv : termB s m = true) (hA : IsT s 12 A) (hB : IsT s 12 B) (hs : SignAt w vs s) (rm : Ints w vm m) (hs1 : s.length ≤ 1000) :
    Calls Tryz.prog 65 #[vs, vm] w fun e w' => ∃ ua ub, e = .returned (.tuple #[ua, ub, .bool true]) ∧ Ints w' ua A ∧ Ints w' ub B ∧ Below w.heap.size w w' := by
  have f1 := (termB_facts hv).1
  have HAR := hid (term_Args vs vm s m [A, B] w hv 0 (by simpa using hm) (by rw [halves_arP f1]; simp) (by intro a ha; simp at ha; rcases ha with rfl | rfl <;> assumption) hs rm hs1)
  obtain ⟨ta, tcap, hva, hcap, h2, -, TC⟩ := rm.open
  subst hva
  obtain ⟨b, o, rfl, hc0⟩ := TC 0 (by rw [hm]; simp)
  have hm0 : ∀ (h : 0 < m.length), m[0] = 0 := by intro h; subst hm; rfl
  have hmp : 0 < m.length := by rw [hm]; simp
  rw [hm0] at hc0
  simp only [Nat.add_zero] at hc0
  clear TC rm hv hA hB hm hm0
  go_enter Tryz.func65, Tryz.ntmps65
  go_wp2_with fail
  refine HAR.out.mono ?_
  rintro e w1 ⟨u, vvs, rfl, hl, hb1⟩
  have hv1 := hl.here
  clear hl
  have HB1 := hid hb1
  clear hb1 hc0
  obtain ⟨hrow, hvl, hrd⟩ := hv1
  obtain ⟨va, vb, rfl⟩ := len_two hvl
  have hIA := hrd 0 va A rfl rfl
  have hIB := hrd 1 vb B rfl rfl
  obtain ⟨a, cap, he, hc, hmx, hnone, hcell⟩ := hrow.open
  subst he
  obtain ⟨g, o, rfl, c0⟩ := hcell 0 (by simp)
  obtain ⟨g', o', he', c1⟩ := hcell 1 (by simp)
  obtain ⟨rfl, rfl⟩ : g = g' ∧ o = o' := by simpa using he'
  simp only [List.getElem_cons_zero, List.getElem_cons_succ, Nat.add_zero, List.length_cons, List.length_nil, Nat.zero_add, Nat.reduceAdd] at c0 c1 hc ⊢
  have HIA := hid hIA
  have HIB := hid hIB
  clear hIA hIB hrd hcell hrow he' hvl
  go_wp2
  go_quiet (fail)
  go_wp2
  go_ret3
  exact ⟨_, _, rfl, HIA.out.drewN _, HIB.out.drewN _, below_drewN HB1.out _⟩
theorem terms_lit2 (w : World) (x y : Value) (p q : List Int) (T : TypeId) (hx : Ints w x p) (hy : Ints w y q) : Terms (w.alloc (.cells #[x, y] T)) (.slice (some ⟨w.heap.size, 0, none⟩) 2 2) [p, q] := by
  have hb : Below w.heap.size w (w.alloc (.cells #[x, y] T)) := (Below.refl _ _).alloc (Nat.le_refl _) _
  refine ⟨[x, y], ⟨rfl, _, _, rfl, Nat.le_refl _, by simp, (fun h => by cases h), fun j u hj => ⟨_, _, rfl, ?_⟩⟩, rfl, fun i u t hu ht => ?_⟩
  · rw [World.cell?_alloc_new, Nat.zero_add]
    match j, hj with
    | 0, hj => simpa using hj
    | 1, hj => simpa using hj
    | j + 2, hj => simp at hj
  · match i, hu, ht with
    | 0, hu, ht => simp at hu ht; subst hu; subst ht; exact hx.below hb
    | 1, hu, ht => simp at hu ht; subst hu; subst ht; exact hy.below hb
    | i + 2, hu, _ => simp at hu
theorem sign_head {s : Sg} (h : signB s = true) : ∃ h0 : 0 < s.length, s[0].2 = 2 := by
  unfold signB at h
  simp only [Bool.and_eq_true] at h
  have h1 := inB_true.1 h.1.1
  have h0 : 0 < s.length := by omega
  have h2 := h.1.2
  rw [List.getElem?_eq_getElem h0] at h2
  exact ⟨h0, by simpa using h2⟩
theorem part_term {s : Sg} {A : List Int} (f1 : signB s = true) (hA : IsT s 12 A) (hl : A.length ≤ 60) : termB s A = true := T_termB f1 hA hl
set_option maxHeartbeats 1000000 in
set_option maxRecDepth 100000 in
theorem carry_implies (vs vp vq : Value) (s : Sg) (A B : List Int) (w : World) (hs : SignAt w vs s) (ra : Ints w vp A) (rb : Ints w vq B) (hs1 : s.length ≤ 1000) (tA : IsT s 12 A) (tB : IsT s 12 B) (h : termB s (0 :: (A ++ B)) = true) :
    Calls Tryz.prog 83 #[vs, vp, vq] w fun e w' => ∃ u, e = .returned u ∧ w'.ownsRow w.heap.size 3 1 u (canonL (0 :: (A ++ B))).length ((canonL (0 :: (A ++ B))).map (Value.int .i64)) ∧ Below w.heap.size w w' := by
  obtain ⟨f1, -, -, f4⟩ := termB_facts h
  simp only [List.length_cons, List.length_append] at f4
  obtain ⟨h0, har⟩ := sign_head f1
  obtain ⟨pa, pc, rfl, -⟩ := ra.open
  obtain ⟨qa, qc, rfl, -⟩ := rb.open
  have hlit := terms_lit2 w _ _ A B 28 ra rb
  have hb0 : Below w.heap.size w (w.alloc (.cells #[.slice pa A.length pc, .slice qa B.length qc] 28)) := (Below.refl _ _).alloc (Nat.le_refl _) _
  have HBT := hid (term_Built vs _ s 0 [A, B] _ (hs.below hb0) hlit hs1 f1 (by intro t ht; simp at ht; rcases ht with rfl | rfl <;> first | exact part_term f1 tA (by omega) | exact part_term f1 tB (by omega)) h0 (by rw [har]; rfl) (by simp; omega))
  have e1 : ((0 : Nat) : Int) :: [A, B].flatten = 0 :: (A ++ B) := by simp
  rw [e1] at HBT
  have HB0 := hid hb0
  have HSG := hid hs
  have HT := hid h
  have hRl : (0 :: (A ++ B) : List Int).length ≤ 60 := by simp; omega
  obtain ⟨R, hR⟩ : ∃ R, (0 :: (A ++ B) : List Int) = R := ⟨_, rfl⟩
  rw [hR] at HBT HT hRl ⊢
  clear hlit hb0 hs h e1 hR
  go_enter Tryz.func83, Tryz.ntmps83
  go_wp2_with fail
  refine HBT.out.mono ?_
  rintro e w1 ⟨u, rfl, hown, hb1⟩
  have hI := Ints.of_owns hown (by omega)
  have hb := HB0.out.trans (hb1.mono HB0.out.size)
  have HC := hid (term_Canonical vs u s R w1 (HSG.out.below hb) hI hs1)
  clear hown hI hb1
  go_wp2_with fail
  refine HC.out.mono ?_
  rintro e w2 ⟨hb2, ⟨hf, -⟩ | ⟨-, u2, rfl, hown2⟩⟩
  · rw [HT.out] at hf; cases hf
  · have HO2 := hid (owns_base hown2 hb.size)
    have HB2 := hid (hb.trans (hb2.mono hb.size))
    clear hown2 hb2 hb
    go_wp2
    go_ret
    exact ⟨_, rfl, HO2.out, HB2.out⟩
theorem convR_1 {s : Sg} {t : List Int} (h : termB s t = false) : convR s t = ([], 1) := by unfold convR; rw [h]; rfl
theorem convR_10 {s : Sg} {t : List Int} (h : termB s t = true) (h0 : t.head? ≠ some 0) : convR s t = ([], 10) := by unfold convR; rw [h, if_pos rfl, if_neg h0]
theorem convR_0 {s : Sg} {t : List Int} (h : termB s t = true) (h0 : t.head? = some 0) : convR s t = (convL s t, 0) := by unfold convR; rw [h, if_pos rfl, if_pos h0]
set_option maxHeartbeats 1000000 in
theorem carry_Converse (vs vt : Value) (s : Sg) (t : List Int) (w : World) (hs : SignAt w vs s) (rt : Ints w vt t) (hs1 : s.length ≤ 1000) :
    Calls Tryz.prog 23 #[vs, vt] w fun e w' => ∃ u, e = .returned (.tuple #[u, .int .i64 (convR s t).2]) ∧ Ints w' u (convR s t).1 ∧ Below w.heap.size w w' := by
  have HV := hid (term_Valid' vs vt s t w hs rt hs1)
  cases g : termB s t
  · have HF := hid (convR_1 g)
    rw [g] at HV
    clear g
    go_enter Tryz.func23, Tryz.ntmps23
    go_wp2_with fail
    refine HV.out.mono ?_
    rintro e w1 ⟨rfl, hb1⟩
    go_wp2
    go_ret2
    exact ⟨_, by rw [HF.out]; rfl, by rw [HF.out]; exact Ints.of_owns (World.ownsRow_nil _ 0 3 1) (by simp), hb1⟩
  rw [g] at HV
  have ht0 := (termB_T g).ne
  by_cases h0 : t.head? = some 0
  · obtain ⟨A, B, ht, tA, tB, lA, lB⟩ := halves_T g h0
    have HF := hid (convR_0 g h0)
    have HSW := hid (swap_term tA tB (ht ▸ g))
    have HCE := hid (show convL s t = canonL (0 :: (B ++ A)) from by rw [ht]; exact convL_eq tA)
    have HSD := hid (fun (X : World) (hX : Below w.heap.size w X) => carry_sides vs vt s t A B X ht g tA tB (hs.below hX) (rt.below hX) hs1)
    have HSG := hid hs
    have hl60 : (canonL (0 :: (B ++ A))).length ≤ 60 := by
      have := (termB_facts g).2.2.2
      rw [canonL_len, ht] at *
      simp at this ⊢; omega
    clear hs rt g h0 ht
    go_enter Tryz.func23, Tryz.ntmps23
    go_wp2_with fail
    refine HV.out.mono ?_
    rintro e w1 ⟨rfl, hb1⟩
    have HS1 := hid (HSD.out w1 hb1)
    go_wp2_with fail
    refine HS1.out.mono ?_
    rintro e w2 ⟨ua, ub, rfl, ia, ib, hb2⟩
    have hbw2 := hb1.trans (hb2.mono hb1.size)
    have HIM := hid (carry_implies vs ub ua s B A w2 (HSG.out.below hbw2) ib ia hs1 tB tA HSW.out)
    have HB2 := hid hbw2
    clear ia ib hb1 hb2 hbw2
    go_wp2_with fail
    refine HIM.out.mono ?_
    rintro e w3 ⟨u, rfl, hown, hb3⟩
    have HI := hid (Ints.of_owns hown (by omega))
    have HB3 := hid (HB2.out.trans (hb3.mono HB2.out.size))
    clear hown hb3
    go_wp2
    go_ret2
    exact ⟨_, by rw [HF.out]; rfl, by rw [HF.out, HCE.out]; exact HI.out, HB3.out⟩
  · have HF := hid (convR_10 g h0)
    have HSD := hid (fun (X : World) (hX : Below w.heap.size w X) => carry_sides0 vs vt s t X ht0 h0 (rt.below hX))
    clear g h0
    go_enter Tryz.func23, Tryz.ntmps23
    go_wp2_with fail
    refine HV.out.mono ?_
    rintro e w1 ⟨rfl, hb1⟩
    have HS1 := hid (HSD.out w1 hb1)
    go_wp2_with fail
    refine HS1.out.mono ?_
    rintro e w2 ⟨rfl, hb2⟩
    go_wp2
    go_ret2
    exact ⟨_, by rw [HF.out]; rfl, by rw [HF.out]; exact Ints.of_owns (World.ownsRow_nil _ 0 3 1) (by simp), hb1.trans (hb2.mono hb1.size)⟩
theorem eqvR_1 {s : Sg} {t u : List Int} (h : termB s t = false ∨ termB s u = false) : eqvR s t u = (false, 1) := by unfold eqvR; rcases h with h | h <;> simp [h]
theorem eqvR_0 {s : Sg} {t u : List Int} (h : termB s t = true) (h' : termB s u = true) : eqvR s t u = (decide (t.head? = some 0) && alikeB s (convL s t) u, 0) := by unfold eqvR; rw [h, h']; rfl
set_option maxHeartbeats 1000000 in
theorem carry_Equivalence (vs vt vu : Value) (s : Sg) (t u : List Int) (w : World) (hs : SignAt w vs s) (rt : Ints w vt t) (ru : Ints w vu u) (hs1 : s.length ≤ 1000) :
    Calls Tryz.prog 25 #[vs, vt, vu] w fun e w' => e = .returned (.tuple #[.bool (eqvR s t u).1, .int .i64 (eqvR s t u).2]) ∧ Below w.heap.size w w' := by
  have HV := hid (term_Valid' vs vt s t w hs rt hs1)
  have HV2 := hid (fun (X : World) (hX : Below w.heap.size w X) => term_Valid' vs vu s u X (hs.below hX) (ru.below hX) hs1)
  have HCV := hid (fun (X : World) (hX : Below w.heap.size w X) => carry_Converse vs vt s t X (hs.below hX) (rt.below hX) hs1)
  have HSG := hid hs
  have HRU := hid ru
  clear hs rt ru
  cases g1 : termB s t
  · have HF := hid (eqvR_1 (u := u) (Or.inl g1))
    rw [g1] at HV
    clear g1
    go_enter Tryz.func25, Tryz.ntmps25
    go_wp2_with fail
    refine HV.out.mono ?_
    rintro e w1 ⟨rfl, hb1⟩
    go_wp2
    go_ret2
    exact ⟨by rw [HF.out]; rfl, hb1⟩
  rw [g1] at HV
  cases g2 : termB s u
  · have HF := hid (eqvR_1 (t := t) (Or.inr g2))
    simp only [g2] at HV2
    clear g1 g2
    go_enter Tryz.func25, Tryz.ntmps25
    go_wp2_with fail
    refine HV.out.mono ?_
    rintro e w1 ⟨rfl, hb1⟩
    have H2 := hid (HV2.out w1 hb1)
    go_wp2_with fail
    refine H2.out.mono ?_
    rintro e w2 ⟨rfl, hb2⟩
    go_wp2
    go_ret2
    exact ⟨by rw [HF.out]; rfl, hb1.trans (hb2.mono hb1.size)⟩
  simp only [g2] at HV2
  have HE := hid (eqvR_0 g1 g2)
  by_cases h0 : t.head? = some 0
  · have HF : Hid (eqvR s t u = (alikeB s (convL s t) u, 0)) := hid (by rw [HE.out, decide_eq_true h0]; rfl)
    rw [convR_0 g1 h0] at HCV
    obtain ⟨c, hc⟩ : ∃ c, convL s t = c := ⟨_, rfl⟩
    rw [hc] at HF HCV
    clear g1 g2 h0 hc
    go_enter Tryz.func25, Tryz.ntmps25
    go_wp2_with fail
    refine HV.out.mono ?_
    rintro e w1 ⟨rfl, hb1⟩
    have H2 := hid (HV2.out w1 hb1)
    go_wp2_with fail
    refine H2.out.mono ?_
    rintro e w2 ⟨rfl, hb2⟩
    have hbw2 := hb1.trans (hb2.mono hb1.size)
    have H3 := hid (HCV.out w2 hbw2)
    go_wp2_with fail
    refine H3.out.mono ?_
    rintro e w3 ⟨v, rfl, hi, hb3⟩
    have hbw3 := hbw2.trans (hb3.mono hbw2.size)
    have H4 := hid (term_Alike vs v vu s c u w3 (HSG.out.below hbw3) hi (HRU.out.below hbw3) hs1)
    have HB3 := hid hbw3
    clear hi hb1 hb2 hb3 hbw2 hbw3
    go_wp2_with fail
    refine H4.out.mono ?_
    rintro e w4 ⟨rfl, hb4⟩
    go_wp2
    go_ret2
    exact ⟨by rw [HF.out]; rfl, HB3.out.trans (hb4.mono HB3.out.size)⟩
  · have HF : Hid (eqvR s t u = (false, 0)) := hid (by rw [HE.out, decide_eq_false h0]; rfl)
    rw [convR_10 g1 h0] at HCV
    clear g1 g2 h0
    go_enter Tryz.func25, Tryz.ntmps25
    go_wp2_with fail
    refine HV.out.mono ?_
    rintro e w1 ⟨rfl, hb1⟩
    have H2 := hid (HV2.out w1 hb1)
    go_wp2_with fail
    refine H2.out.mono ?_
    rintro e w2 ⟨rfl, hb2⟩
    have hbw2 := hb1.trans (hb2.mono hb1.size)
    have H3 := hid (HCV.out w2 hbw2)
    go_wp2_with fail
    refine H3.out.mono ?_
    rintro e w3 ⟨v, rfl, hi, hb3⟩
    have hbw3 := hbw2.trans (hb3.mono hbw2.size)
    clear hi
    go_wp2
    go_ret2
    exact ⟨by rw [HF.out]; rfl, hbw3⟩
end Go.Proofs.YtpflkjldapmgdaaGreat
namespace Go.Proofs.YtpflkjldapmgdaaGreat
open Go Go.RowKit Go.Maps
def sCK : Sg := [(⟨#[67]⟩, 2), (⟨#[75]⟩, 2)]
def lAw : List En := [⟨⟨#[97]⟩, ⟨#[97, 110, 110]⟩, [0, -1, 0, -2, -1], [], []⟩, ⟨⟨#[98]⟩, ⟨#[97, 110, 110]⟩, [0, -1, -1], [], []⟩]
theorem mgu_aw8 : Mgu sCK [-1] [0, -13, -13] (updM noM (-1) [0, -13, -13]) := by
  have h1 : IsT sCK 24 [-1] := .var _ (by omega) (by omega)
  have h2 : IsT sCK 24 [0, -13, -13] := .app 0 [[-13], [-13]] (by simp [sCK]) (by simp [sCK, arOf]) (by simp; exact .var _ (by omega) (by omega))
  have h0 := UInv.start h1 h2 (by simp) (by simp)
  have h3 := (UInv.bind (L := []) (x := [-1]) (y := [0, -13, -13]) (v := -1) (q := [0, -13, -13]) h0 (Or.inl ⟨.refl h1 (by simp), .refl h2 (by simp)⟩) (by omega) rfl (fun H => by
    cases H with
    | here _ _ h _ => simp at h
    | step _ _ n p g1 g2 g3 _ => simp [noM] at g3)).1
  exact h3.done
theorem det_aw8 : DetR sCK [0, -1, 0, -2, -1] [0, -1, -1] ([0, -1, 0, -2, -2], 0) := by
  refine Or.inr ⟨by decide +kernel, by decide +kernel, Or.inr ⟨[-1], [0, -2, -1], rfl, .var _ (by omega) (by omega), .app 0 [[-2], [-1]] (by simp [sCK]) (by simp [sCK, arOf]) ?_, Or.inr ⟨updM noM (-1) [0, -13, -13], ?_, Or.inl ⟨?_, ?_⟩⟩⟩⟩
  · intro z hz
    simp at hz
    rcases hz with rfl | rfl <;> exact .var _ (by omega) (by omega)
  · have ha : aparL [0, -1, -1] = [0, -13, -13] := by decide +kernel
    rw [ha]; exact mgu_aw8
  · decide +kernel
  · have : canonL (fw (updM noM (-1) [0, -13, -13]) [0, -2, -1]) = [0, -1, 0, -2, -2] := by decide +kernel
    rw [this]
theorem alo_aw8 {x : List Int × Int} (h : AloR sCK lAw ⟨#[97]⟩ ⟨#[98]⟩ x) : x = ([0, -1, 0, -2, -2], 0) := by
  have hn : nmdI sCK lAw [⟨#[97]⟩, ⟨#[98]⟩] = 0 := by decide +kernel
  rcases h with ⟨h1, -⟩ | ⟨-, -, p, q, hp, hq, hx⟩
  · exact absurd hn h1
  · have e1 : saysN lAw ⟨#[97]⟩ = some [0, -1, 0, -2, -1] := by decide +kernel
    have e2 : saysN lAw ⟨#[98]⟩ = some [0, -1, -1] := by decide +kernel
    rw [e1] at hp
    rw [e2] at hq
    cases hp; cases hq
    exact hx.unique det_aw8
theorem conv_aw8 : convR sCK [0, 1, -1, -2, 1, -2, -1] = ([0, 1, -1, -2, 1, -2, -1], 0) := by decide +kernel
theorem eqv_aw8 : eqvR sCK [0, 1, -1, -2, 1, -2, -1] [0, 1, -1, -2, 1, -2, -1] = (true, 0) := by decide +kernel
theorem intsL (w : World) (l : List Int) (T : TypeId) {arr : Array Value} {n : Nat} (h : arr = (l.map (Value.int .i64)).toArray := by rfl) (hn : n = l.length := by rfl) (hl : l.length ≤ 1000 := by decide) : Ints (w.alloc (.cells arr T)) (.slice (some ⟨w.heap.size, 0, none⟩) n n) l := by
  subst h hn
  have r := World.ownsRow_lit (base := 0) (e := T) (size := 1) w (l.map (Value.int .i64)).toArray l.length (by omega) (by simp [maxLen]; omega) (by simp)
  simp only [List.toList_toArray] at r
  exact Ints.of_owns r (by omega)
theorem signL (w : World) (T : TypeId) : SignAt (w.alloc (.cells #[.string ⟨#[67]⟩, .int .i64 2, .string ⟨#[75]⟩, .int .i64 2] T)) (.slice (some ⟨w.heap.size, 0, none⟩) 2 2) sCK := by
  have r1 := World.ownsRow_lit (base := 0) (e := T) (size := 2) w #[.string ⟨#[67]⟩, .int .i64 2, .string ⟨#[75]⟩, .int .i64 2] 2 (by omega) (by simp [maxLen]) rfl
  refine ⟨RowK.of_owns r1 (by simp [sCK]), ?_⟩
  intro x hx
  simp [sCK] at hx
  rcases hx with rfl | rfl <;> simp [ByteArray.size]
theorem ents_lit {w : World} {l : List En} {vs : List V3} {T : TypeId} {cs : Array Value} (hc : cs = (ensC l vs).toArray) (hl : vs.length = l.length) (hl1 : l.length ≤ 1000) (he : ∀ (j : Nat) (h : j < l.length) (h' : j < vs.length), EntAt w vs[j].1 vs[j].2.1 vs[j].2.2 l[j]) : EntsAt (w.alloc (.cells cs T)) (.slice (some ⟨w.heap.size, 0, none⟩) l.length l.length) l := by
  subst hc
  have hb : Below w.heap.size w (w.alloc (.cells (ensC l vs).toArray T)) := (Below.refl _ _).alloc (Nat.le_refl _) _
  refine ⟨vs, ⟨ensC_len l vs hl, _, _, rfl, Nat.le_refl _, by omega, (fun h => by cases h), fun j u hj => ⟨_, _, rfl, ?_⟩⟩, hl, fun j h h' => (he j h h').below hb⟩
  rw [World.cell?_alloc_new, Nat.zero_add]
  simpa using hj
set_option maxHeartbeats 2000000 in
theorem law8_awake (w : World) :
    Calls Tryz.prog 8 #[] w fun e w' => e = .returned (.bool true) ∧ Below w.heap.size w w' := by
  go_enter Tryz.func8, Tryz.ntmps8
  go_wp2_with fail
  have q1 := signL w 67
  obtain ⟨W1, hW1⟩ : ∃ W1, w.alloc (.cells #[.string ⟨#[67]⟩, .int .i64 2, .string ⟨#[75]⟩, .int .i64 2] 67) = W1 := ⟨_, rfl⟩
  have b1 : Below w.heap.size w W1 := hW1 ▸ (Below.refl _ _).alloc (Nat.le_refl _) _
  have z1 : W1.heap.size = w.heap.size + 1 := by rw [← hW1]; simp
  rw [hW1] at q1 ⊢
  have q2 := intsL W1 [0, 1, -1, -2, 1, -2, -1] 3
  obtain ⟨W2, hW2⟩ : ∃ W2, W1.alloc (.cells #[.int .i64 0, .int .i64 1, .int .i64 (-1), .int .i64 (-2), .int .i64 1, .int .i64 (-2), .int .i64 (-1)] 3) = W2 := ⟨_, rfl⟩
  have b2 : Below W1.heap.size W1 W2 := hW2 ▸ (Below.refl _ _).alloc (Nat.le_refl _) _
  have q2' : Ints W2 (.slice (some ⟨w.heap.size + 1, 0, none⟩) 7 7) [0, 1, -1, -2, 1, -2, -1] := by rw [← hW2, ← z1]; exact q2
  rw [hW2]
  have HS := hid (q1.below b2)
  have HI := hid q2'
  have HB := hid (b1.trans (b2.mono b1.size))
  clear q1 q2 q2' b1 b2 z1 hW1 hW2
  have HCV := hid (carry_Converse _ _ sCK [0, 1, -1, -2, 1, -2, -1] W2 HS.out HI.out (by simp [sCK]))
  rw [conv_aw8] at HCV
  refine HCV.out.mono ?_
  rintro e w1 ⟨uc, rfl, hic, hb1⟩
  have HIC := hid hic
  have HB1 := hid hb1
  have HEQ := hid (carry_Equivalence _ _ _ sCK [0, 1, -1, -2, 1, -2, -1] [0, 1, -1, -2, 1, -2, -1] w1 (HS.out.below hb1) (HI.out.below hb1) (HI.out.below hb1) (by simp [sCK]))
  rw [eqv_aw8] at HEQ
  clear hic hb1 HCV
  go_wp2_with fail
  refine HEQ.out.mono ?_
  rintro e w2 ⟨rfl, hb2⟩
  have HBX := hid hb2
  have HB2 := hid (HB1.out.trans (hb2.mono HB1.out.size)).size
  have HB2' := hid (HB1.out.trans (hb2.mono HB1.out.size))
  have HIC2 := hid (HIC.out.below hb2)
  clear hb2 HEQ HIC
  go_wp2_with fail
  have q3 := intsL w2 [0, -1, 0, -2, -1] 3
  obtain ⟨V3, hV3⟩ : ∃ V3, w2.alloc (.cells #[.int .i64 0, .int .i64 (-1), .int .i64 0, .int .i64 (-2), .int .i64 (-1)] 3) = V3 := ⟨_, rfl⟩
  have b3 : Below w2.heap.size w2 V3 := hV3 ▸ (Below.refl _ _).alloc (Nat.le_refl _) _
  have z3 : V3.heap.size = w2.heap.size + 1 := by rw [← hV3]; simp
  have q3' : Ints V3 (.slice (some ⟨w2.heap.size, 0, none⟩) 5 5) [0, -1, 0, -2, -1] := by rw [← hV3]; exact q3
  rw [hV3]
  have q4 := intsL V3 [0, -1, -1] 3
  obtain ⟨V4, hV4⟩ : ∃ V4, V3.alloc (.cells #[.int .i64 0, .int .i64 (-1), .int .i64 (-1)] 3) = V4 := ⟨_, rfl⟩
  have b4 : Below V3.heap.size V3 V4 := hV4 ▸ (Below.refl _ _).alloc (Nat.le_refl _) _
  have z4 : V4.heap.size = w2.heap.size + 1 + 1 := by rw [← hV4, World.size_alloc, z3]
  have q4' : Ints V4 (.slice (some ⟨w2.heap.size + 1, 0, none⟩) 3 3) [0, -1, -1] := by rw [← hV4, ← z3]; exact q4
  rw [hV4]
  have q5 : EntsAt (V4.alloc (.cells #[.string ⟨#[97]⟩, .string ⟨#[97, 110, 110]⟩, .slice (some ⟨w2.heap.size, 0, none⟩) 5 5, .slice none 0 0, .slice none 0 0, .string ⟨#[98]⟩, .string ⟨#[97, 110, 110]⟩, .slice (some ⟨w2.heap.size + 1, 0, none⟩) 3 3, .slice none 0 0, .slice none 0 0] 35)) (.slice (some ⟨V4.heap.size, 0, none⟩) 2 2) lAw :=
    ents_lit (l := lAw) (vs := [(.slice (some ⟨w2.heap.size, 0, none⟩) 5 5, .slice none 0 0, .slice none 0 0), (.slice (some ⟨w2.heap.size + 1, 0, none⟩) 3 3, .slice none 0 0, .slice none 0 0)]) rfl rfl (by decide) fun j h h' => by
      match j, h with
      | 0, _ => exact ⟨q3'.below b4, TxtsAt.nil _, (show StepsAt V4 (.slice none 0 0) [] from ⟨rfl, none, 0, rfl, Nat.le_refl _, by simp, fun _ => rfl, fun j u hj => by simp [stC] at hj⟩), by simp [lAw, ByteArray.size], by simp [lAw, ByteArray.size]⟩
      | 1, _ => exact ⟨q4', TxtsAt.nil _, (show StepsAt V4 (.slice none 0 0) [] from ⟨rfl, none, 0, rfl, Nat.le_refl _, by simp, fun _ => rfl, fun j u hj => by simp [stC] at hj⟩), by simp [lAw, ByteArray.size], by simp [lAw, ByteArray.size]⟩
      | j + 2, h => exact absurd h (by simp [lAw])
  obtain ⟨V5, hV5⟩ : ∃ V5, V4.alloc (.cells #[.string ⟨#[97]⟩, .string ⟨#[97, 110, 110]⟩, .slice (some ⟨w2.heap.size, 0, none⟩) 5 5, .slice none 0 0, .slice none 0 0, .string ⟨#[98]⟩, .string ⟨#[97, 110, 110]⟩, .slice (some ⟨w2.heap.size + 1, 0, none⟩) 3 3, .slice none 0 0, .slice none 0 0] 35) = V5 := ⟨_, rfl⟩
  have b5 : Below V4.heap.size V4 V5 := hV5 ▸ (Below.refl _ _).alloc (Nat.le_refl _) _
  rw [hV5] at q5 ⊢
  rw [z4] at q5
  have b25 : Below w2.heap.size w2 V5 := (b3.trans (b4.mono b3.size)).trans (b5.mono (by omega))
  have hb2V : Below W2.heap.size W2 V5 := HB2'.out.trans (b25.mono HB2'.out.size)
  have hbV : Below w.heap.size w V5 := HB.out.trans (hb2V.mono HB.out.size)
  have HAL := hid (carry_Along _ _ sCK lAw ⟨#[97]⟩ ⟨#[98]⟩ V5 (HS.out.below hb2V) q5 (by simp [sCK]) (by simp [lAw]) (by simp [ByteArray.size]) (by simp [ByteArray.size]))
  have HBV := hid hbV
  have HICV := hid (HIC2.out.below b25)
  have HIV := hid (HI.out.below hb2V)
  clear q3 q3' q4 q4' q5 b3 b4 b5 z3 z4 hV3 hV4 hV5 b25 hb2V hbV
  refine HAL.out.mono ?_
  rintro e w6 ⟨x, u, hx, rfl, hu, hb6⟩
  have hx2 := alo_aw8 hx
  subst hx2
  have HB6 := hid (HBV.out.trans (hb6.mono HBV.out.size))
  have HU := hid hu
  have HST := hid (ref6_SameTerm _ _ _ _ w6 (HICV.out.below hb6) (HIV.out.below hb6))
  have hd : decide (([0, 1, -1, -2, 1, -2, -1] : List Int) = [0, 1, -1, -2, 1, -2, -1]) = true := by decide
  rw [hd] at HST
  clear hx hu hb6 hd HAL
  go_wp2_with fail
  refine HST.out.mono ?_
  rintro e w7 ⟨rfl, n7, hw7⟩
  have hb7 : Below w6.heap.size w6 w7 := hw7 ▸ below_self_drewN _ _
  have HU7 := hid (HU.out.below hb7)
  have HB7 := hid (HB6.out.trans (hb7.mono HB6.out.size))
  clear hw7 hb7 HU HST
  have q8 := intsL w7 [0, -1, 0, -2, -2] 3
  have b8 : Below w7.heap.size w7 (w7.alloc (.cells #[.int .i64 0, .int .i64 (-1), .int .i64 0, .int .i64 (-2), .int .i64 (-2)] 3)) := (Below.refl _ _).alloc (Nat.le_refl _) _
  have HLS := hid (ref6_SameTerm _ _ _ _ _ (HU7.out.below b8) q8)
  have hd : decide (([0, -1, 0, -2, -2] : List Int) = [0, -1, 0, -2, -2]) = true := by decide
  rw [hd] at HLS
  have HB8 := hid (HB7.out.trans (b8.mono HB7.out.size))
  clear q8 b8 hd
  go_wp2_with fail
  refine HLS.out.mono ?_
  rintro e w9 ⟨rfl, n9, hw9⟩
  have HB9 := hid (show Below w.heap.size w w9 from hw9 ▸ below_drewN HB8.out n9)
  clear hw9
  go_wp2
  go_ret
  exact ⟨rfl, HB9.out⟩
end Go.Proofs.YtpflkjldapmgdaaGreat
