/-
  WHAT IT HOLDS: how a proof's steps lie; contracts of within, right, valid, ValidGivens, asked of package kernel. Conditions: the arguments read as data; a small sign.
  WHAT IT HOLDS: how entries of a library lie: names, lists of names, entries, libraries; how they are read and kept. No program in sight.
  WHAT IT HOLDS: plain words on libraries: what a name is, a valid entry, a valid library; the index of a name. No program in sight.
  WHAT IT HOLDS: contracts of Name of package deps and of its reference. No condition but that a string is one that Go can hold.
  WHAT IT HOLDS: from an input as the rows read it to the predicate that the walks use: a slice of steps. Over any program.
-/
import Derived.Test.YtmpjaakkjhmpmaaGreatDoorZRShortCites9
import Derived.Test.YtmpjaakkjhmpmaaGreatDoorZRShortCites5
import Derived.Test.YtmpjaakkjhmpmaaGreatDoorZRShortCites10
import Derived.Test.YtmpjaakkjhmpmaaGreatDoorZRShortCites11
namespace Go.Proofs.YtmpjaakkjhmpmaaGreatDoor
open Go Go.RowKit Go.Maps
/-- a step of a proof: its kind and two indexes. -/
abbrev St := Int × Int × Int
def stV (x : St) : List Value := [.int .i64 x.1, .int .i64 x.2.1, .int .i64 x.2.2]
def stC (l : List St) : List Value := l.flatMap stV
theorem stC_len (l : List St) : (stC l).length = l.length * 3 := by
  induction l with
  | nil => rfl
  | cons x l ih => simp [stC, stV] at ih ⊢; omega
theorem stC_get (l : List St) : ∀ (j : Nat) (h : j < l.length), (stC l)[j * 3]? = some (.int .i64 l[j].1) ∧ (stC l)[j * 3 + 1]? = some (.int .i64 l[j].2.1) ∧ (stC l)[j * 3 + 2]? = some (.int .i64 l[j].2.2) := by
  induction l with
  | nil => intro j h; simp at h
  | cons x l ih =>
    intro j h
    cases j with
    | zero => simp [stC, stV]
    | succ j =>
      have := ih j (by simpa using h)
      simpa [stC, stV, Nat.add_mul, Nat.add_assoc] using this
def StepsAt (w : World) (v : Value) (l : List St) : Prop := RowK w v 3 l.length (stC l)
theorem StepsAt.below {w w' : World} {v : Value} {l : List St} (h : StepsAt w v l) (hb : Below w.heap.size w w') : StepsAt w' v l := RowK.below h hb
theorem StepsAt.open {w : World} {v : Value} {l : List St} (h : StepsAt w v l) :
    ∃ a cap, v = .slice a l.length cap ∧ l.length ≤ cap ∧ l.length ≤ 140737488355328 ∧ (a = none → cap = 0) ∧
      ∀ j (h : j < l.length), ∃ b o, a = some ⟨b, o, none⟩ ∧ w.cell? ⟨b, o + j * 3, none⟩ = some (.int .i64 l[j].1) ∧ w.cell? ⟨b, o + j * 3 + 1, none⟩ = some (.int .i64 l[j].2.1) ∧ w.cell? ⟨b, o + j * 3 + 2, none⟩ = some (.int .i64 l[j].2.2) := by
  obtain ⟨_, a, cap, h2, h3, h4, h5, h6⟩ := h
  refine ⟨a, cap, h2, h3, h4, h5, fun j hj => ?_⟩
  obtain ⟨g1, g2, g3⟩ := stC_get l j hj
  obtain ⟨b, o, e1, q1⟩ := h6 _ _ g1
  obtain ⟨b', o', e2, q2⟩ := h6 _ _ g2
  obtain ⟨b'', o'', e3, q3⟩ := h6 _ _ g3
  rw [e1] at e2 e3
  cases e2; cases e3
  exact ⟨b, o, e1, q1, by rw [Nat.add_assoc]; exact q2, by rw [Nat.add_assoc]; exact q3⟩
/-- whether a step is right in a proof behind others. -/
def rightB (g : Int) (k : Int) (x : St) : Bool := if x.1 = 1 then inB x.2.1 0 (g - 1) && decide (x.2.2 = 0) else if x.1 = 2 then inB x.2.1 0 (k - 1) && inB x.2.2 0 (k - 1) else false
def proofB (g : Int) (p : List St) : Bool := (List.range p.length).all (fun k => rightB g k (p.getD k (0, 0, 0))) && inB p.length 1 60
theorem proofB_at {g : Int} {p : List St} (h : proofB g p = true) {k : Nat} (hk : k < p.length) : rightB g k p[k] = true := by
  unfold proofB at h
  simp only [Bool.and_eq_true, List.all_eq_true, List.mem_range] at h
  have := h.1 k hk
  rwa [List.getD_eq_getElem?_getD, List.getElem?_eq_getElem hk] at this
theorem proofB_no {g : Int} {p : List St} {k : Nat} (hk : k < p.length) (h : rightB g k p[k] = false) : proofB g p = false := by
  rw [Bool.eq_false_iff]
  intro hh
  rw [proofB_at hh hk] at h
  cases h
theorem proofB_all {g : Int} {p : List St} (h : ∀ k (hk : k < p.length), rightB g k p[k] = true) : proofB g p = inB p.length 1 60 := by
  unfold proofB
  have : (List.range p.length).all (fun k => rightB g k (p.getD k (0, 0, 0))) = true := by
    rw [List.all_eq_true]
    intro k hk
    have hk' : k < p.length := by simpa using hk
    rw [List.getD_eq_getElem?_getD, List.getElem?_eq_getElem hk']
    exact h k hk'
  rw [this, Bool.true_and]
def givensB (s : Sg) (g : List (List Int)) : Bool := signB s && decide (g.length ≤ 60) && allB s g
def askedB (s : Sg) (g : List (List Int)) (p : List St) : Bool := givensB s g && proofB g.length p
theorem kernel_within (n lo hi : Int) (w : World) :
    Calls Tryz.prog 71 #[.int .i64 n, .int .i64 lo, .int .i64 hi] w fun e w' => e = .returned (.bool (inB n lo hi)) ∧ w = w' := by
  unfold inB
  by_cases h1 : lo ≤ n
  · by_cases h2 : n ≤ hi
    · go_enter Tryz.func71, Tryz.ntmps71
      go_wp2
      go_ret
      exact ⟨by simp [h1, h2], rfl⟩
    · go_enter Tryz.func71, Tryz.ntmps71
      go_wp2
      go_ret
      exact ⟨by simp [h1, h2], rfl⟩
  · go_enter Tryz.func71, Tryz.ntmps71
    go_wp2
    go_ret
    exact ⟨ret_bool (by simp; omega), rfl⟩
set_option maxHeartbeats 1000000 in
theorem kernel_right (g k : Int) (x : St) (w : World) (hg : 0 ≤ g ∧ g ≤ 140737488355328) (hk : 0 ≤ k ∧ k ≤ 140737488355328) :
    Calls Tryz.prog 150 #[.int .i64 g, .int .i64 k, .agg #[.int .i64 x.1, .int .i64 x.2.1, .int .i64 x.2.2]] w fun e w' => e = .returned (.bool (rightB g k x)) ∧ Below w.heap.size w w' := by
  obtain ⟨x0, x1, x2⟩ := x
  have hw1 : IntKind.i64.wrap (g - 1) = g - 1 := by rw [IntWalk.i64_in _ (by omega)]
  have hw2 : IntKind.i64.wrap (k - 1) = k - 1 := by rw [IntWalk.i64_in _ (by omega)]
  have hb1 : Below w.heap.size w (w.alloc (.cells #[.int .i64 x0, .int .i64 x1, .int .i64 x2] 57)) := (Below.refl _ _).alloc (Nat.le_refl _) _
  by_cases h1 : x0 = 1
  · subst h1
    cases hi : inB x1 0 (g - 1)
    · have hi' := hi
      go_enter Tryz.func150, Tryz.ntmps150
      go_wp2_with (go_at_call 71; refine (kernel_within _ _ _ _).mono ?_; rintro e w' ⟨rfl, rfl⟩)
      go_ret
      exact ⟨ret_bool (by simp [rightB, hi']), hb1⟩
    · have hi' := hi
      by_cases h2 : x2 = 0
      · subst h2
        go_enter Tryz.func150, Tryz.ntmps150
        go_wp2_with (go_at_call 71; refine (kernel_within _ _ _ _).mono ?_; rintro e w' ⟨rfl, rfl⟩)
        go_ret
        exact ⟨ret_bool (by simp [rightB, hi']), hb1⟩
      · have n2 : (x2 == 0) = false := by simpa using h2
        go_enter Tryz.func150, Tryz.ntmps150
        go_wp2_with (go_at_call 71; refine (kernel_within _ _ _ _).mono ?_; rintro e w' ⟨rfl, rfl⟩)
        go_ret
        exact ⟨ret_bool (by simp [rightB, hi', h2]), hb1⟩
  · have n1 : (x0 == 1) = false := by simpa using h1
    by_cases h3 : x0 = 2
    · subst h3
      cases hi : inB x1 0 (k - 1)
      · have hi' := hi
        go_enter Tryz.func150, Tryz.ntmps150
        go_wp2_with (go_at_call 71; refine (kernel_within _ _ _ _).mono ?_; rintro e w' ⟨rfl, rfl⟩)
        go_ret
        exact ⟨ret_bool (by simp [rightB, hi']), hb1⟩
      · have hi' := hi
        cases hj : inB x2 0 (k - 1)
        · have hj' := hj
          go_enter Tryz.func150, Tryz.ntmps150
          go_wp2_with (go_at_call 71; refine (kernel_within _ _ _ _).mono ?_; rintro e w' ⟨rfl, rfl⟩)
          go_ret
          exact ⟨ret_bool (by simp [rightB, hi', hj']), hb1⟩
        · have hj' := hj
          go_enter Tryz.func150, Tryz.ntmps150
          go_wp2_with (go_at_call 71; refine (kernel_within _ _ _ _).mono ?_; rintro e w' ⟨rfl, rfl⟩)
          go_ret
          exact ⟨ret_bool (by simp [rightB, hi', hj']), hb1⟩
    · have n3 : (x0 == 2) = false := by simpa using h3
      go_enter Tryz.func150, Tryz.ntmps150
      go_wp2_with (go_at_call 71; refine (kernel_within _ _ _ _).mono ?_; rintro e w' ⟨rfl, rfl⟩)
      go_ret
      exact ⟨ret_bool (by simp [rightB, h1, h3]), hb1⟩
set_option maxHeartbeats 2000000 in
theorem kernel_valid (g : Int) (v : Value) (l : List St) (w : World) (hg : 0 ≤ g ∧ g ≤ 140737488355328) (hv : StepsAt w v l) :
    Calls Tryz.prog 114 #[.int .i64 g, v] w fun e w' => e = .returned (.bool (proofB g l)) ∧ Below w.heap.size w w' := by
  obtain ⟨a, cap, rfl, h1, h2, -, HC⟩ := hv.open
  have HC' := hid HC
  clear HC hv
  go_enter Tryz.func114, Tryz.ntmps114
  go_wp2
  go_loopw [9] (fun kv wr => ∃ k : Nat, k ≤ l.length ∧ kv = .int .i64 k ∧ Below w.heap.size w wr ∧ ∀ j (hj : j < l.length), j < k → rightB g j l[j] = true) (fun kv _ => l.length - (intOf kv).toNat)
  case atStart => exact ⟨0, by omega, rfl, Below.refl _ _, by simp⟩
  case round =>
    obtain ⟨k, hk, rfl, hb, hrel⟩ := hrel
    have HR := hid hrel
    have hsz := hb.size
    clear hrel
    by_cases hlt : k < l.length
    · obtain ⟨cb, co, rfl, c10, c20, c30⟩ := HC'.out k hlt
      have c1' := (hb.cell (World.block_lt_of_cell? _ _ c10)).trans c10
      have c2' := (hb.cell (World.block_lt_of_cell? _ _ c20)).trans c20
      have c3' := (hb.cell (World.block_lt_of_cell? _ _ c30)).trans c30
      have HNO := hid (fun hn => proofB_no (g := g) hlt hn)
      have HYES := hid (fun (h : rightB g k l[k] = true) => h)
      obtain ⟨x, hx⟩ : ∃ x, l[k] = x := ⟨_, rfl⟩
      rw [hx] at c1' c2' c3' HNO HYES
      have HX := hid hx
      obtain ⟨x0, x1, x2⟩ := x
      simp only at c1' c2' c3'
      clear c10 c20 c30 hx
      have hbA : Below wr.heap.size wr (wr.alloc (.cells #[.int .i64 x0, .int .i64 x1, .int .i64 x2] 57)) := (Below.refl _ _).alloc (Nat.le_refl _) _
      have HRT := hid (kernel_right g k (x0, x1, x2) (wr.alloc (.cells #[.int .i64 x0, .int .i64 x1, .int .i64 x2] 57)) hg (by omega))
      have HBA := hid (hb.trans (hbA.mono hsz))
      have HBS := hid HBA.out.size
      cases hr : rightB g k (x0, x1, x2)
      · rw [hr] at HRT
        have HF := hid (HNO.out hr)
        clear hr hbA
        go_wp2_with (go_at_call 150; refine HRT.out.mono ?_; rintro e w5 ⟨rfl, hb5⟩)
        go_ret
        exact ⟨ret_bool HF.out.symm, HBA.out.trans (hb5.mono HBS.out)⟩
      · rw [hr] at HRT
        have HRK := hid (HYES.out hr)
        clear hr hbA
        have hwk := IntWalk.i64_in ((k : Int) + 1) (by omega)
        go_wp2_with (go_at_call 150; refine HRT.out.mono ?_; rintro e w5 ⟨rfl, hb5⟩)
        go_roundw
        case rel =>
          refine ⟨k + 1, by omega, by go_num, HBA.out.trans (hb5.mono HBS.out), fun q hq hqk => ?_⟩
          by_cases hqq : q = k
          · subst hqq
            rw [HX.out]; exact HRK.out
          · exact HR.out q hq (by omega)
        case measure => simp [intOf]; omega
    · have hkl : k = l.length := by omega
      have HA : Hid (proofB g l = inB l.length 1 60) := hid (proofB_all fun q hq => HR.out q hq (by omega))
      go_wp2_with (go_at_call 71; refine (kernel_within _ _ _ _).mono ?_; rintro e w' ⟨rfl, rfl⟩)
      go_ret
      exact ⟨ret_bool HA.out.symm, hb⟩
theorem kernel_ValidGivens1 (vs vt : Value) (ps : Nat) (s : Sg) (t : List Int) (w : World) (hs : SignAt w vs s) (ht : Ints w vt t) (hs1 : s.length ≤ 1000) (hc : w.cell? ⟨ps, 0, none⟩ = some vs) :
    Calls Tryz.prog 148 #[vt, .pointer (some ⟨ps, 0, none⟩)] w fun e w' => e = .returned (.bool (!termB s t)) ∧ Below w.heap.size w w' := by
  obtain ⟨sa, scap, hse, _⟩ := hs.open
  subst hse
  go_enter Tryz.func148, Tryz.ntmps148
  go_wp2_with (go_at_call 119; refine (term_Valid' _ _ _ _ _ hs ht hs1).mono ?_; rintro e w1 ⟨rfl, hb1⟩)
  go_ret
  exact ⟨rfl, hb1⟩
theorem kernel_ValidGivens (v vl : Value) (s : Sg) (l : List (List Int)) (w : World) (hs : SignAt w v s) (hv : Terms w vl l) (hs1 : s.length ≤ 1000) :
    Calls Tryz.prog 109 #[v, vl] w fun e w' => e = .returned (.bool (givensB s l)) ∧ Below w.heap.size w w' := by
  obtain ⟨sa, scap, hse, _⟩ := hs.open
  subst hse
  obtain ⟨vs, hV, hlen, hel⟩ := hv
  obtain ⟨la, lcap, hle, _⟩ := hV.open
  rw [hlen] at hle
  subst hle
  have HEL := hid hel
  have HLEN := hid hlen
  clear hel hlen
  have hbx : Below w.heap.size w (w.alloc (.cells #[.slice sa s.length scap] 23)) := (Below.refl _ _).alloc (Nat.le_refl _) _
  unfold givensB
  cases h2 : signB s
  · go_enter Tryz.func109, Tryz.ntmps109
    go_wp2_with (first | (go_at_call 146; refine (term_ValidSign _ _ _ (hs.below hbx) hs1).mono ?_; rintro e w1 ⟨rfl, hb1⟩))
    go_ret
    exact ⟨ret_bool rfl, hbx.trans (hb1.mono (by simp))⟩
  · cases h3 : decide (l.length ≤ 60)
    · have h3' : ¬ ((l.length : Int) ≤ 60) := by have := of_decide_eq_false h3; omega
      go_enter Tryz.func109, Tryz.ntmps109
      go_wp2_with (first | (go_at_call 146; refine (term_ValidSign _ _ _ (hs.below hbx) hs1).mono ?_; rintro e w1 ⟨rfl, hb1⟩))
      go_ret
      exact ⟨ret_bool rfl, hbx.trans (hb1.mono (by simp))⟩
    · have h3' : (l.length : Int) ≤ 60 := by have := of_decide_eq_true h3; omega
      have hcell := cell_new1 w (.slice sa s.length scap) 23
      have key : ∀ w1, Below (w.alloc (.cells #[.slice sa s.length scap] 23)).heap.size (w.alloc (.cells #[.slice sa s.length scap] 23)) w1 →
          Calls Tryz.prog 147 #[.slice la l.length lcap, .func (.func 148) #[] #[.pointer (some ⟨w.heap.size, 0, none⟩)]] w1 fun e w' => e = .returned (.bool (!allB s l)) ∧ Below w1.heap.size w1 w' := by
        intro w1 hb1
        have := sl_ContainsFunc_terms 148 #[.pointer (some ⟨w.heap.size, 0, none⟩)] (enters_of Tryz.func148 (by kernel_rfl) rfl) (.slice la l.length lcap) vs.length vs w1 ((hV.below hbx).below hb1) (fun i => !termB s (l.getD i [])) (by
          intro i x W hx hbW
          have hil : i < l.length := by rw [← HLEN.out]; exact (List.getElem?_eq_some_iff.1 hx).1
          have hI : Ints W x (l.getD i []) := by
            rw [List.getD_eq_getElem?_getD, List.getElem?_eq_getElem hil]
            exact (((HEL.out i x _ hx (List.getElem?_eq_getElem hil)).below hbx).below hb1).below hbW
          have hS : SignAt W (.slice sa s.length scap) s := ((hs.below hbx).below hb1).below hbW
          have hC : W.cell? ⟨w.heap.size, 0, none⟩ = some (.slice sa s.length scap) := by
            rw [hbW.cell (p := ⟨w.heap.size, 0, none⟩) (by have := hb1.size; simp at this; show w.heap.size < _; omega), hb1.cell (p := ⟨w.heap.size, 0, none⟩) (by simp)]
            exact hcell
          exact kernel_ValidGivens1 _ _ _ _ _ _ hS hI hs1 hC)
        rw [HLEN.out, allB_any] at this
        exact this
      have KEY := hid key
      clear key hcell
      go_enter Tryz.func109, Tryz.ntmps109
      go_wp2_with (first | (go_at_call 146; refine (term_ValidSign _ _ _ (hs.below hbx) hs1).mono ?_; rintro e w1 ⟨rfl, hb1⟩) | (go_at_call 147; refine (KEY.out _ hb1).mono ?_; rintro e w2 ⟨rfl, hb2⟩))
      go_ret
      exact ⟨ret_bool (by simp), (hbx.trans (hb1.mono (by simp))).trans (hb2.mono (by have := hb1.size; simp at this; omega))⟩
end Go.Proofs.YtmpjaakkjhmpmaaGreatDoor
namespace Go.Proofs.YtmpjaakkjhmpmaaGreatDoor
open Go Go.RowKit
abbrev Nm := ByteArray
/-- a slice of strings. -/
def TxtsAt (w : World) (v : Value) (l : List Nm) : Prop := RowK w v 1 l.length (l.map Value.string) ∧ ∀ x ∈ l, x.size ≤ 140737488355328
theorem TxtsAt.below {w w' : World} {v : Value} {l : List Nm} (h : TxtsAt w v l) (hb : Below w.heap.size w w') : TxtsAt w' v l := ⟨h.1.below hb, h.2⟩
theorem TxtsAt.open {w : World} {v : Value} {l : List Nm} (h : TxtsAt w v l) :
    ∃ a cap, v = .slice a l.length cap ∧ l.length ≤ cap ∧ l.length ≤ 140737488355328 ∧ (a = none → cap = 0) ∧
      ∀ j (h : j < l.length), ∃ b o, a = some ⟨b, o, none⟩ ∧ w.cell? ⟨b, o + j, none⟩ = some (.string l[j]) := by
  obtain ⟨⟨_, a, cap, h2, h3, h4, h5, h6⟩, -⟩ := h
  exact ⟨a, cap, h2, h3, h4, h5, fun j hj => h6 j _ (by simp [hj])⟩
theorem TxtsAt.of_owns {w : World} {base : Nat} {e : TypeId} {v : Value} {l : List Nm} (h : w.ownsRow base e 1 v l.length (l.map Value.string)) (hn : l.length ≤ 140737488355328) (hs : ∀ x ∈ l, x.size ≤ 140737488355328) : TxtsAt w v l := ⟨RowK.of_owns h hn, hs⟩
theorem TxtsAt.nil (w : World) : TxtsAt w (.slice none 0 0) [] := ⟨⟨rfl, none, 0, rfl, Nat.le_refl _, by simp, fun _ => rfl, fun j u hj => by simp at hj⟩, by simp⟩
/-- an entry: its name, by whom it is, what it says, what it uses, its proof. -/
structure En where
  name : Nm
  who : Nm
  says : List Int
  uses : List Nm
  proof : List St
deriving DecidableEq
/-- the five cells of an entry. -/
structure EntAt (w : World) (vs vu vp : Value) (x : En) : Prop where
  s : Ints w vs x.says
  u : TxtsAt w vu x.uses
  p : StepsAt w vp x.proof
  n1 : x.name.size ≤ 140737488355328
  n2 : x.who.size ≤ 140737488355328
theorem EntAt.below {w w' : World} {vs vu vp : Value} {x : En} (h : EntAt w vs vu vp x) (hb : Below w.heap.size w w') : EntAt w' vs vu vp x := ⟨h.s.below hb, h.u.below hb, h.p.below hb, h.n1, h.n2⟩
/-- an entry as a value. -/
def EnV (w : World) (v : Value) (x : En) : Prop := ∃ vs vu vp, v = .agg #[.string x.name, .string x.who, vs, vu, vp] ∧ EntAt w vs vu vp x
theorem EnV.below {w w' : World} {v : Value} {x : En} (h : EnV w v x) (hb : Below w.heap.size w w') : EnV w' v x := by
  obtain ⟨vs, vu, vp, h1, h2⟩ := h; exact ⟨vs, vu, vp, h1, h2.below hb⟩
/-- the slices of an entry. -/
abbrev V3 := Value × Value × Value
def enC (x : En) (v : V3) : List Value := [.string x.name, .string x.who, v.1, v.2.1, v.2.2]
def ensC : List En → List V3 → List Value
  | x :: l, v :: vs => enC x v ++ ensC l vs
  | _, _ => []
theorem ensC_len : ∀ (l : List En) (vs : List V3), vs.length = l.length → (ensC l vs).length = l.length * 5
  | [], [], _ => rfl
  | [], _ :: _, h => by simp at h
  | _ :: _, [], h => by simp at h
  | x :: l, v :: vs, h => by
    have := ensC_len l vs (by simpa using h)
    simp [ensC, enC, this]; omega
theorem ensC_get : ∀ (l : List En) (vs : List V3) (_ : vs.length = l.length) (j : Nat) (h : j < l.length) (h' : j < vs.length), (ensC l vs)[j * 5]? = some (.string l[j].name) ∧ (ensC l vs)[j * 5 + 1]? = some (.string l[j].who) ∧ (ensC l vs)[j * 5 + 2]? = some vs[j].1 ∧ (ensC l vs)[j * 5 + 3]? = some vs[j].2.1 ∧ (ensC l vs)[j * 5 + 4]? = some vs[j].2.2
  | [], _, _, j, h, _ => by simp at h
  | _ :: _, [], e, _, _, _ => by simp at e
  | x :: l, v :: vs, e, 0, _, _ => by simp [ensC, enC]
  | x :: l, v :: vs, e, j + 1, h, h' => by
    have := ensC_get l vs (by simpa using e) j (by simpa using h) (by simpa using h')
    simpa [ensC, enC, Nat.add_mul, Nat.add_assoc] using this
theorem ensC_append : ∀ (l m : List En) (vs us : List V3), vs.length = l.length → ensC (l ++ m) (vs ++ us) = ensC l vs ++ ensC m us
  | [], m, [], us, _ => rfl
  | [], _, _ :: _, _, h => by simp at h
  | _ :: _, _, [], _, h => by simp at h
  | x :: l, m, v :: vs, us, h => by simp [ensC, ensC_append l m vs us (by simpa using h)]
/-- a library in memory: l, the slices of its entries vs. -/
def EntsV (w : World) (v : Value) (vs : List V3) (l : List En) : Prop := RowK w v 5 l.length (ensC l vs) ∧ vs.length = l.length ∧ ∀ (j : Nat) (h : j < l.length) (h' : j < vs.length), EntAt w vs[j].1 vs[j].2.1 vs[j].2.2 l[j]
def EntsAt (w : World) (v : Value) (l : List En) : Prop := ∃ vs, EntsV w v vs l
theorem EntsV.below {w w' : World} {v : Value} {vs : List V3} {l : List En} (h : EntsV w v vs l) (hb : Below w.heap.size w w') : EntsV w' v vs l := ⟨h.1.below hb, h.2.1, fun j h1 h2 => (h.2.2 j h1 h2).below hb⟩
theorem EntsAt.below {w w' : World} {v : Value} {l : List En} (h : EntsAt w v l) (hb : Below w.heap.size w w') : EntsAt w' v l := by
  obtain ⟨vs, h⟩ := h; exact ⟨vs, h.below hb⟩
theorem EntsAt.open {w : World} {v : Value} {l : List En} (h : EntsAt w v l) :
    ∃ a cap, v = .slice a l.length cap ∧ l.length ≤ cap ∧ l.length ≤ 140737488355328 ∧ (a = none → cap = 0) ∧
      ∀ j (h : j < l.length), ∃ b o vs vu vp, a = some ⟨b, o, none⟩ ∧ w.cell? ⟨b, o + j * 5, none⟩ = some (.string l[j].name) ∧ w.cell? ⟨b, o + j * 5 + 1, none⟩ = some (.string l[j].who) ∧ w.cell? ⟨b, o + j * 5 + 2, none⟩ = some vs ∧ w.cell? ⟨b, o + j * 5 + 3, none⟩ = some vu ∧ w.cell? ⟨b, o + j * 5 + 4, none⟩ = some vp ∧ EntAt w vs vu vp l[j] := by
  obtain ⟨vs, ⟨_, a, cap, h2, h3, h4, h5, h6⟩, hl, he⟩ := h
  refine ⟨a, cap, h2, h3, h4, h5, fun j hj => ?_⟩
  obtain ⟨g0, g1, g2, g3, g4⟩ := ensC_get l vs hl j hj (by omega)
  obtain ⟨b, o, e0, q0⟩ := h6 _ _ g0
  obtain ⟨b1, o1, e1, q1⟩ := h6 _ _ g1
  obtain ⟨b2, o2, e2, q2⟩ := h6 _ _ g2
  obtain ⟨b3, o3, e3, q3⟩ := h6 _ _ g3
  obtain ⟨b4, o4, e4, q4⟩ := h6 _ _ g4
  rw [e0] at e1 e2 e3 e4
  cases e1; cases e2; cases e3; cases e4
  have hjv : j < vs.length := by omega
  exact ⟨b, o, vs[j].1, vs[j].2.1, vs[j].2.2, e0, q0, by rw [Nat.add_assoc]; exact q1, by rw [Nat.add_assoc]; exact q2, by rw [Nat.add_assoc]; exact q3, by rw [Nat.add_assoc]; exact q4, he j hj (by omega)⟩
/-- the first entries of a library. -/
theorem EntsV.take {w : World} {a : Option Addr} {n cap : Nat} {vs : List V3} {l : List En} (h : EntsV w (.slice a n cap) vs l) (k : Nat) (hk : k ≤ l.length) : EntsV w (.slice a k cap) (vs.take k) (l.take k) := by
  obtain ⟨⟨h1, a', cap', h2, h3, h4, h5, h6⟩, hl, he⟩ := h
  simp only [Value.slice.injEq] at h2
  obtain ⟨rfl, rfl, rfl⟩ := h2
  have hlk : (l.take k).length = k := by rw [List.length_take]; omega
  have hvk : (vs.take k).length = k := by rw [List.length_take]; omega
  refine ⟨⟨ensC_len _ _ (by rw [hlk, hvk]), a, cap, by rw [hlk], by omega, by omega, h5, fun j u hj => ?_⟩, by rw [hlk, hvk], fun j g g' => ?_⟩
  · have e : ensC l vs = ensC (l.take k) (vs.take k) ++ ensC (l.drop k) (vs.drop k) := by
      rw [← ensC_append _ _ _ _ (by rw [hlk, hvk]), List.take_append_drop, List.take_append_drop]
    refine h6 j u ?_
    rw [e, List.getElem?_append_left (List.getElem?_eq_some_iff.1 hj).1]
    exact hj
  · simp only [List.getElem_take]
    exact he j (by omega) (by omega)
theorem EntsAt.take {w : World} {a : Option Addr} {n cap : Nat} {l : List En} (h : EntsAt w (.slice a n cap) l) (k : Nat) (hk : k ≤ l.length) : EntsAt w (.slice a k cap) (l.take k) := by
  obtain ⟨vs, h⟩ := h
  exact ⟨_, h.take k hk⟩
theorem EntsAt.nil (w : World) : EntsAt w (.slice none 0 0) [] := ⟨[], ⟨rfl, none, 0, rfl, Nat.le_refl _, by simp, fun _ => rfl, fun j u hj => by simp [ensC] at hj⟩, rfl, fun j h => by simp at h⟩
end Go.Proofs.YtmpjaakkjhmpmaaGreatDoor
namespace Go.Proofs.YtmpjaakkjhmpmaaGreatDoor
open Go Go.RowKit
def loB (c : UInt8) : Bool := decide (97 ≤ c.toNat) && decide (c.toNat ≤ 122)
def otherB (c : UInt8) : Bool := decide (c.toNat = 95) || (decide (48 ≤ c.toNat) && decide (c.toNat ≤ 57))
/-- whether a byte may stand at a place of a name. -/
def nchB (s : Nm) (i : Nat) : Bool := loB (s.get! i) || (decide (i ≠ 0) && otherB (s.get! i))
def nmB (s : Nm) : Bool := (List.range s.size).all (nchB s) && (decide (1 ≤ s.size) && decide (s.size ≤ 16))
def canB (s : Sg) (t : List Int) : Bool := termB s t && decide (canonL t = t)
def entryB (s : Sg) (x : En) : Bool :=
  nmB x.name && (nmB x.who && (canB s x.says && (decide (x.uses.length ≤ 12) && (decide x.uses.Nodup && (x.uses.all nmB && (if x.proof.length = 0 then decide (x.uses.length = 0) else proofB x.uses.length x.proof))))))
structure EnOK (s : Sg) (x : En) : Prop where
  name : nmB x.name = true
  who : nmB x.who = true
  says : termB s x.says = true
  can : canonL x.says = x.says
  len : x.uses.length ≤ 12
  nd : x.uses.Nodup
  uses : ∀ u ∈ x.uses, nmB u = true
  ax : x.proof.length = 0 → x.uses.length = 0
  proof : x.proof.length ≠ 0 → proofB x.uses.length x.proof = true
/-- a valid library. -/
def libB (s : Sg) (l : List En) : Bool := signB s && (decide (l.length ≤ 60) && (l.all (entryB s) && decide (l.map En.name).Nodup))
/-- the index of a name, or none. -/
def idxN (l : List En) (n : Nm) : Option Nat := (l.map En.name).findIdx? (fun x => decide (x = n))
theorem idxN_at {l : List En} {i : Nat} (hi : i < l.length) (h : ∀ j (hj : j < i), (l[j]'(by omega)).name ≠ l[i].name) : idxN l l[i].name = some i := by
  unfold idxN
  rw [List.findIdx?_eq_some_iff_getElem]
  refine ⟨by simpa using hi, by simp, fun j hj => ?_⟩
  have := h j hj
  simpa using this
theorem idxN_nd {l : List En} (h : (l.map En.name).Nodup) {i : Nat} (hi : i < l.length) : idxN l l[i].name = some i := by
  refine idxN_at hi fun j hj e => ?_
  have := List.pairwise_iff_getElem.1 h j i (by simp; omega) (by simpa using hi) hj
  exact this (by simpa using e)
end Go.Proofs.YtmpjaakkjhmpmaaGreatDoor
namespace Go.Proofs.YtmpjaakkjhmpmaaGreatDoor
open Go Go.RowKit
end Go.Proofs.YtmpjaakkjhmpmaaGreatDoor
namespace Go.Proofs.YtmpjaakkjhmpmaaGreatDoor
open Go Go.RowKit Go.ChangeShapes Go.WideShapes Go.Deep
section
variable {H : Type} {enc : TypeId × Value → H} {P : Program} {w : World} {base : Nat} {held : Bool}
/-- a slice of steps. -/
theorem steps_of_trod {t e : TypeId} {f0 f1 f2 : Field} {fuel : Nat} {cs : List Value} {x : DataW H × List MemPlace} (ht : P.underlying t = some (.slice e)) (he : P.underlying e = some (.struct #[f0, f1, f2]))
    (ce : P.cellsOf e = 3) (o0 : f0.offset = 0) (o1 : f1.offset = 1) (o2 : f2.offset = 2) (c0 : P.cellsOf f0.type = 1) (c1 : P.cellsOf f1.type = 1) (c2 : P.cellsOf f2.type = 1) (u0 : P.underlying f0.type = some (.int .i64)) (u1 : P.underlying f1.type = some (.int .i64)) (u2 : P.underlying f2.type = some (.int .i64)) (be : 0 < P.bytesOf e)
    (h : DataW.trod enc P w base (fun _ => true) held fuel t cs = some x) (hs : Small P t x.1) : ∃ v l, cs = [v] ∧ StepsAt w v l := by
  rcases open_slice ht h with ⟨rfl, -⟩ | ⟨a, len, cap, m, n, D, Pl, rfl, hb, hl, hm, hmm, rfl, hx⟩
  · exact ⟨_, [], rfl, by simp [stC], none, 0, rfl, Nat.le_refl _, by simp, fun _ => rfl, by simp [stC]⟩
  · simp only [if_true] at hmm
    subst hmm
    have hn := hs.len ht be
    simp only [List.length_map, List.length_range] at hn
    have each : ∀ i, i < len → ∃ y : St, w.cell? (a.add (i * 3)) = some (.int .i64 y.1) ∧ w.cell? (a.add (i * 3 + 1)) = some (.int .i64 y.2.1) ∧ w.cell? (a.add (i * 3 + 2)) = some (.int .i64 y.2.2) := by
      intro i hi
      obtain ⟨cs', h1, h2⟩ := hx i (by omega)
      rw [ce] at h1
      obtain ⟨_, hlen, hcell⟩ := World.cells?_some h1
      obtain ⟨y0, y1, y2, k, -, -, g0, g1, g2⟩ := trod_struct3 he h2
      match cs', hlen with
      | [v0, v1, v2], _ =>
        simp [o0, o1, o2, c0, c1, c2] at g0 g1 g2
        obtain ⟨z0, e0, _, _⟩ := DataW.trod_int u0 g0
        obtain ⟨z1, e1, _, _⟩ := DataW.trod_int u1 g1
        obtain ⟨z2, e2, _, _⟩ := DataW.trod_int u2 g2
        simp only [List.cons.injEq, and_true] at e0 e1 e2
        have q0 := hcell 0 (by omega)
        have q1 := hcell 1 (by omega)
        have q2 := hcell 2 (by omega)
        rw [add_add] at q0 q1 q2
        subst e0 e1 e2
        exact ⟨(z0, z1, z2), by simpa using q0, by simpa using q1, by simpa using q2⟩
    obtain ⟨f, hf⟩ := choose_lt each
    have hsl : ((List.range len).map f).length = len := by simp
    refine ⟨_, (List.range len).map f, rfl, by rw [stC_len], some a, m, by rw [hsl], by omega, by omega, (fun hh => by cases hh), fun j u hj => ?_⟩
    have hjl : j < len * 3 := by
      obtain ⟨hh, _⟩ := List.getElem?_eq_some_iff.1 hj
      rw [stC_len, hsl] at hh
      exact hh
    have hg := stC_get ((List.range len).map f) (j / 3) (by rw [hsl]; omega)
    obtain ⟨e0, e1, e2⟩ := hf (j / 3) (by omega)
    obtain ⟨b, o, spot⟩ := a
    have hspot := spot_none (by have := (hf 0 (by omega)).1; simpa using this)
    subst hspot
    refine ⟨b, o, rfl, ?_⟩
    have hm3 : j % 3 = 0 ∨ j % 3 = 1 ∨ j % 3 = 2 := by omega
    rcases hm3 with hm0 | hm1 | hm2
    · have : j = j / 3 * 3 := by omega
      rw [this, hg.1] at hj
      simp at hj
      rw [this, ← hj]
      exact cell_add e0
    · have : j = j / 3 * 3 + 1 := by omega
      rw [this, hg.2.1] at hj
      simp at hj
      rw [this, ← hj]
      exact cell_add e1
    · have : j = j / 3 * 3 + 2 := by omega
      rw [this, hg.2.2] at hj
      simp at hj
      rw [this, ← hj]
      exact cell_add e2
end
end Go.Proofs.YtmpjaakkjhmpmaaGreatDoor
