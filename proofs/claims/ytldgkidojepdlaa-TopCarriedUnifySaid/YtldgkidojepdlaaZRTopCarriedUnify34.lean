/-
  WHAT IT HOLDS: how a proof's steps lie; contracts of within, right, valid, ValidGivens, asked of package kernel. Conditions: the arguments read as data; a small sign.
-/
import Derived.Test.YtldgkidojepdlaaZRTopCarriedUnify13
import Derived.Test.YtldgkidojepdlaaZRTopCarriedUnify23
namespace Go.Proofs.Ytldgkidojepdlaa
open Go Go.RowKit Go.Maps
/-- a step of a proof: its kind and two indexes. -/
abbrev St := Int × Int × Int
def stV (x : St) : List Value := [.int .i64 x.1, .int .i64 x.2.1, .int .i64 x.2.2]
def stC (l : List St) : List Value := l.flatMap stV
theorem stC_len (l : List St) : (stC l).length = l.length * 3 := by
  induction l with
  | nil => rfl
  | cons x l ih => simp [stC, stV] at ih ⊢; omega
theorem stC_get (l : List St) : ∀ (j : Nat) (h : j < l.length), (stC l)[j * 3]? = some (.int .i64 l[j].1) ∧ (stC l)[j * 3 + 1]? = some (.int .i64 l[j].2.1) ∧ (stC l)[j * 3 + 2]? = some (.int .i64 l[j].2.2) := by
  induction l with
  | nil => intro j h; simp at h
  | cons x l ih =>
    intro j h
    cases j with
    | zero => simp [stC, stV]
    | succ j =>
      have := ih j (by simpa using h)
      simpa [stC, stV, Nat.add_mul, Nat.add_assoc] using this
def StepsAt (w : World) (v : Value) (l : List St) : Prop := RowK w v 3 l.length (stC l)
theorem StepsAt.below {w w' : World} {v : Value} {l : List St} (h : StepsAt w v l) (hb : Below w.heap.size w w') : StepsAt w' v l := RowK.below h hb
theorem StepsAt.open {w : World} {v : Value} {l : List St} (h : StepsAt w v l) :
    ∃ a cap, v = .slice a l.length cap ∧ l.length ≤ cap ∧ l.length ≤ 140737488355328 ∧ (a = none → cap = 0) ∧
      ∀ j (h : j < l.length), ∃ b o, a = some ⟨b, o, none⟩ ∧ w.cell? ⟨b, o + j * 3, none⟩ = some (.int .i64 l[j].1) ∧ w.cell? ⟨b, o + j * 3 + 1, none⟩ = some (.int .i64 l[j].2.1) ∧ w.cell? ⟨b, o + j * 3 + 2, none⟩ = some (.int .i64 l[j].2.2) := by
  obtain ⟨_, a, cap, h2, h3, h4, h5, h6⟩ := h
  refine ⟨a, cap, h2, h3, h4, h5, fun j hj => ?_⟩
  obtain ⟨g1, g2, g3⟩ := stC_get l j hj
  obtain ⟨b, o, e1, q1⟩ := h6 _ _ g1
  obtain ⟨b', o', e2, q2⟩ := h6 _ _ g2
  obtain ⟨b'', o'', e3, q3⟩ := h6 _ _ g3
  rw [e1] at e2 e3
  cases e2; cases e3
  exact ⟨b, o, e1, q1, by rw [Nat.add_assoc]; exact q2, by rw [Nat.add_assoc]; exact q3⟩
/-- whether a step is right in a proof behind others. -/
def rightB (g : Int) (k : Int) (x : St) : Bool := if x.1 = 1 then inB x.2.1 0 (g - 1) && decide (x.2.2 = 0) else if x.1 = 2 then inB x.2.1 0 (k - 1) && inB x.2.2 0 (k - 1) else false
def proofB (g : Int) (p : List St) : Bool := (List.range p.length).all (fun k => rightB g k (p.getD k (0, 0, 0))) && inB p.length 1 60
theorem proofB_at {g : Int} {p : List St} (h : proofB g p = true) {k : Nat} (hk : k < p.length) : rightB g k p[k] = true := by
  unfold proofB at h
  simp only [Bool.and_eq_true, List.all_eq_true, List.mem_range] at h
  have := h.1 k hk
  rwa [List.getD_eq_getElem?_getD, List.getElem?_eq_getElem hk] at this
theorem proofB_no {g : Int} {p : List St} {k : Nat} (hk : k < p.length) (h : rightB g k p[k] = false) : proofB g p = false := by
  rw [Bool.eq_false_iff]
  intro hh
  rw [proofB_at hh hk] at h
  cases h
theorem proofB_all {g : Int} {p : List St} (h : ∀ k (hk : k < p.length), rightB g k p[k] = true) : proofB g p = inB p.length 1 60 := by
  unfold proofB
  have : (List.range p.length).all (fun k => rightB g k (p.getD k (0, 0, 0))) = true := by
    rw [List.all_eq_true]
    intro k hk
    have hk' : k < p.length := by simpa using hk
    rw [List.getD_eq_getElem?_getD, List.getElem?_eq_getElem hk']
    exact h k hk'
  rw [this, Bool.true_and]
def givensB (s : Sg) (g : List (List Int)) : Bool := signB s && decide (g.length ≤ 60) && allB s g
def askedB (s : Sg) (g : List (List Int)) (p : List St) : Bool := givensB s g && proofB g.length p
theorem kernel_within (n lo hi : Int) (w : World) :
    Calls Try.prog 91 #[.int .i64 n, .int .i64 lo, .int .i64 hi] w fun e w' => e = .returned (.bool (inB n lo hi)) ∧ w = w' := by
  unfold inB
  by_cases h1 : lo ≤ n
  · by_cases h2 : n ≤ hi
    · go_enter Try.func91, Try.ntmps91
      go_wp2
      go_ret
      exact ⟨by simp [h1, h2], rfl⟩
    · go_enter Try.func91, Try.ntmps91
      go_wp2
      go_ret
      exact ⟨by simp [h1, h2], rfl⟩
  · go_enter Try.func91, Try.ntmps91
    go_wp2
    go_ret
    exact ⟨ret_bool (by simp; omega), rfl⟩
set_option maxHeartbeats 1000000 in
theorem kernel_right (g k : Int) (x : St) (w : World) (hg : 0 ≤ g ∧ g ≤ 140737488355328) (hk : 0 ≤ k ∧ k ≤ 140737488355328) :
    Calls Try.prog 90 #[.int .i64 g, .int .i64 k, .agg #[.int .i64 x.1, .int .i64 x.2.1, .int .i64 x.2.2]] w fun e w' => e = .returned (.bool (rightB g k x)) ∧ Below w.heap.size w w' := by
  obtain ⟨x0, x1, x2⟩ := x
  have hw1 : IntKind.i64.wrap (g - 1) = g - 1 := by rw [IntWalk.i64_in _ (by omega)]
  have hw2 : IntKind.i64.wrap (k - 1) = k - 1 := by rw [IntWalk.i64_in _ (by omega)]
  have hb1 : Below w.heap.size w (w.alloc (.cells #[.int .i64 x0, .int .i64 x1, .int .i64 x2] 33)) := (Below.refl _ _).alloc (Nat.le_refl _) _
  by_cases h1 : x0 = 1
  · subst h1
    cases hi : inB x1 0 (g - 1)
    · have hi' := hi
      go_enter Try.func90, Try.ntmps90
      go_wp2_with (go_at_call 91; refine (kernel_within _ _ _ _).mono ?_; rintro e w' ⟨rfl, rfl⟩)
      go_ret
      exact ⟨ret_bool (by simp [rightB, hi']), hb1⟩
    · have hi' := hi
      by_cases h2 : x2 = 0
      · subst h2
        go_enter Try.func90, Try.ntmps90
        go_wp2_with (go_at_call 91; refine (kernel_within _ _ _ _).mono ?_; rintro e w' ⟨rfl, rfl⟩)
        go_ret
        exact ⟨ret_bool (by simp [rightB, hi']), hb1⟩
      · have n2 : (x2 == 0) = false := by simpa using h2
        go_enter Try.func90, Try.ntmps90
        go_wp2_with (go_at_call 91; refine (kernel_within _ _ _ _).mono ?_; rintro e w' ⟨rfl, rfl⟩)
        go_ret
        exact ⟨ret_bool (by simp [rightB, hi', h2]), hb1⟩
  · have n1 : (x0 == 1) = false := by simpa using h1
    by_cases h3 : x0 = 2
    · subst h3
      cases hi : inB x1 0 (k - 1)
      · have hi' := hi
        go_enter Try.func90, Try.ntmps90
        go_wp2_with (go_at_call 91; refine (kernel_within _ _ _ _).mono ?_; rintro e w' ⟨rfl, rfl⟩)
        go_ret
        exact ⟨ret_bool (by simp [rightB, hi']), hb1⟩
      · have hi' := hi
        cases hj : inB x2 0 (k - 1)
        · have hj' := hj
          go_enter Try.func90, Try.ntmps90
          go_wp2_with (go_at_call 91; refine (kernel_within _ _ _ _).mono ?_; rintro e w' ⟨rfl, rfl⟩)
          go_ret
          exact ⟨ret_bool (by simp [rightB, hi', hj']), hb1⟩
        · have hj' := hj
          go_enter Try.func90, Try.ntmps90
          go_wp2_with (go_at_call 91; refine (kernel_within _ _ _ _).mono ?_; rintro e w' ⟨rfl, rfl⟩)
          go_ret
          exact ⟨ret_bool (by simp [rightB, hi', hj']), hb1⟩
    · have n3 : (x0 == 2) = false := by simpa using h3
      go_enter Try.func90, Try.ntmps90
      go_wp2_with (go_at_call 91; refine (kernel_within _ _ _ _).mono ?_; rintro e w' ⟨rfl, rfl⟩)
      go_ret
      exact ⟨ret_bool (by simp [rightB, h1, h3]), hb1⟩
set_option maxHeartbeats 2000000 in
theorem kernel_valid (g : Int) (v : Value) (l : List St) (w : World) (hg : 0 ≤ g ∧ g ≤ 140737488355328) (hv : StepsAt w v l) :
    Calls Try.prog 61 #[.int .i64 g, v] w fun e w' => e = .returned (.bool (proofB g l)) ∧ Below w.heap.size w w' := by
  obtain ⟨a, cap, rfl, h1, h2, -, HC⟩ := hv.open
  have HC' := hid HC
  clear HC hv
  go_enter Try.func61, Try.ntmps61
  go_wp2
  go_loopw [9] (fun kv wr => ∃ k : Nat, k ≤ l.length ∧ kv = .int .i64 k ∧ Below w.heap.size w wr ∧ ∀ j (hj : j < l.length), j < k → rightB g j l[j] = true) (fun kv _ => l.length - (intOf kv).toNat)
  case atStart => exact ⟨0, by omega, rfl, Below.refl _ _, by simp⟩
  case round =>
    obtain ⟨k, hk, rfl, hb, hrel⟩ := hrel
    have HR := hid hrel
    have hsz := hb.size
    clear hrel
    by_cases hlt : k < l.length
    · obtain ⟨cb, co, rfl, c10, c20, c30⟩ := HC'.out k hlt
      have c1' := (hb.cell (World.block_lt_of_cell? _ _ c10)).trans c10
      have c2' := (hb.cell (World.block_lt_of_cell? _ _ c20)).trans c20
      have c3' := (hb.cell (World.block_lt_of_cell? _ _ c30)).trans c30
      have HNO := hid (fun hn => proofB_no (g := g) hlt hn)
      have HYES := hid (fun (h : rightB g k l[k] = true) => h)
      obtain ⟨x, hx⟩ : ∃ x, l[k] = x := ⟨_, rfl⟩
      rw [hx] at c1' c2' c3' HNO HYES
      have HX := hid hx
      obtain ⟨x0, x1, x2⟩ := x
      simp only at c1' c2' c3'
      clear c10 c20 c30 hx
      have hbA : Below wr.heap.size wr (wr.alloc (.cells #[.int .i64 x0, .int .i64 x1, .int .i64 x2] 33)) := (Below.refl _ _).alloc (Nat.le_refl _) _
      have HRT := hid (kernel_right g k (x0, x1, x2) (wr.alloc (.cells #[.int .i64 x0, .int .i64 x1, .int .i64 x2] 33)) hg (by omega))
      have HBA := hid (hb.trans (hbA.mono hsz))
      have HBS := hid HBA.out.size
      cases hr : rightB g k (x0, x1, x2)
      · rw [hr] at HRT
        have HF := hid (HNO.out hr)
        clear hr hbA
        go_wp2_with (go_at_call 90; refine HRT.out.mono ?_; rintro e w5 ⟨rfl, hb5⟩)
        go_ret
        exact ⟨ret_bool HF.out.symm, HBA.out.trans (hb5.mono HBS.out)⟩
      · rw [hr] at HRT
        have HRK := hid (HYES.out hr)
        clear hr hbA
        have hwk := IntWalk.i64_in ((k : Int) + 1) (by omega)
        go_wp2_with (go_at_call 90; refine HRT.out.mono ?_; rintro e w5 ⟨rfl, hb5⟩)
        go_roundw
        case rel =>
          refine ⟨k + 1, by omega, by go_num, HBA.out.trans (hb5.mono HBS.out), fun q hq hqk => ?_⟩
          by_cases hqq : q = k
          · subst hqq
            rw [HX.out]; exact HRK.out
          · exact HR.out q hq (by omega)
        case measure => simp [intOf]; omega
    · have hkl : k = l.length := by omega
      have HA : Hid (proofB g l = inB l.length 1 60) := hid (proofB_all fun q hq => HR.out q hq (by omega))
      go_wp2_with (go_at_call 91; refine (kernel_within _ _ _ _).mono ?_; rintro e w' ⟨rfl, rfl⟩)
      go_ret
      exact ⟨ret_bool HA.out.symm, hb⟩
theorem kernel_ValidGivens1 (vs vt : Value) (ps : Nat) (s : Sg) (t : List Int) (w : World) (hs : SignAt w vs s) (ht : Ints w vt t) (hs1 : s.length ≤ 1000) (hc : w.cell? ⟨ps, 0, none⟩ = some vs) :
    Calls Try.prog 89 #[vt, .pointer (some ⟨ps, 0, none⟩)] w fun e w' => e = .returned (.bool (!termB s t)) ∧ Below w.heap.size w w' := by
  obtain ⟨sa, scap, hse, _⟩ := hs.open
  subst hse
  go_enter Try.func89, Try.ntmps89
  go_wp2_with (go_at_call 41; refine (term_Valid' _ _ _ _ _ hs ht hs1).mono ?_; rintro e w1 ⟨rfl, hb1⟩)
  go_ret
  exact ⟨rfl, hb1⟩
theorem kernel_ValidGivens (v vl : Value) (s : Sg) (l : List (List Int)) (w : World) (hs : SignAt w v s) (hv : Terms w vl l) (hs1 : s.length ≤ 1000) :
    Calls Try.prog 60 #[v, vl] w fun e w' => e = .returned (.bool (givensB s l)) ∧ Below w.heap.size w w' := by
  obtain ⟨sa, scap, hse, _⟩ := hs.open
  subst hse
  obtain ⟨vs, hV, hlen, hel⟩ := hv
  obtain ⟨la, lcap, hle, _⟩ := hV.open
  rw [hlen] at hle
  subst hle
  have HEL := hid hel
  have HLEN := hid hlen
  clear hel hlen
  have hbx : Below w.heap.size w (w.alloc (.cells #[.slice sa s.length scap] 23)) := (Below.refl _ _).alloc (Nat.le_refl _) _
  unfold givensB
  cases h2 : signB s
  · go_enter Try.func60, Try.ntmps60
    go_wp2_with (first | (go_at_call 65; refine (term_ValidSign _ _ _ (hs.below hbx) hs1).mono ?_; rintro e w1 ⟨rfl, hb1⟩))
    go_ret
    exact ⟨ret_bool rfl, hbx.trans (hb1.mono (by simp))⟩
  · cases h3 : decide (l.length ≤ 60)
    · have h3' : ¬ ((l.length : Int) ≤ 60) := by have := of_decide_eq_false h3; omega
      go_enter Try.func60, Try.ntmps60
      go_wp2_with (first | (go_at_call 65; refine (term_ValidSign _ _ _ (hs.below hbx) hs1).mono ?_; rintro e w1 ⟨rfl, hb1⟩))
      go_ret
      exact ⟨ret_bool rfl, hbx.trans (hb1.mono (by simp))⟩
    · have h3' : (l.length : Int) ≤ 60 := by have := of_decide_eq_true h3; omega
      have hcell := cell_new1 w (.slice sa s.length scap) 23
      have key : ∀ w1, Below (w.alloc (.cells #[.slice sa s.length scap] 23)).heap.size (w.alloc (.cells #[.slice sa s.length scap] 23)) w1 →
          Calls Try.prog 67 #[.slice la l.length lcap, .func (.func 89) #[] #[.pointer (some ⟨w.heap.size, 0, none⟩)]] w1 fun e w' => e = .returned (.bool (!allB s l)) ∧ Below w1.heap.size w1 w' := by
        intro w1 hb1
        have := sl_ContainsFunc_terms 89 #[.pointer (some ⟨w.heap.size, 0, none⟩)] (enters_of Try.func89 (by kernel_rfl) rfl) (.slice la l.length lcap) vs.length vs w1 ((hV.below hbx).below hb1) (fun i => !termB s (l.getD i [])) (by
          intro i x W hx hbW
          have hil : i < l.length := by rw [← HLEN.out]; exact (List.getElem?_eq_some_iff.1 hx).1
          have hI : Ints W x (l.getD i []) := by
            rw [List.getD_eq_getElem?_getD, List.getElem?_eq_getElem hil]
            exact (((HEL.out i x _ hx (List.getElem?_eq_getElem hil)).below hbx).below hb1).below hbW
          have hS : SignAt W (.slice sa s.length scap) s := ((hs.below hbx).below hb1).below hbW
          have hC : W.cell? ⟨w.heap.size, 0, none⟩ = some (.slice sa s.length scap) := by
            rw [hbW.cell (p := ⟨w.heap.size, 0, none⟩) (by have := hb1.size; simp at this; show w.heap.size < _; omega), hb1.cell (p := ⟨w.heap.size, 0, none⟩) (by simp)]
            exact hcell
          exact kernel_ValidGivens1 _ _ _ _ _ _ hS hI hs1 hC)
        rw [HLEN.out, allB_any] at this
        exact this
      have KEY := hid key
      clear key hcell
      go_enter Try.func60, Try.ntmps60
      go_wp2_with (first | (go_at_call 65; refine (term_ValidSign _ _ _ (hs.below hbx) hs1).mono ?_; rintro e w1 ⟨rfl, hb1⟩) | (go_at_call 67; refine (KEY.out _ hb1).mono ?_; rintro e w2 ⟨rfl, hb2⟩))
      go_ret
      exact ⟨ret_bool (by simp), (hbx.trans (hb1.mono (by simp))).trans (hb2.mono (by have := hb1.size; simp at this; omega))⟩
end Go.Proofs.Ytldgkidojepdlaa
