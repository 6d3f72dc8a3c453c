/-
  WHAT IT HOLDS: contracts of functions of package find: within, Valid, search. Conditions: the arguments read as data; at most 1000 names and terms; a function value that is handed in says what p says and leaves what was there.
  WHAT IT HOLDS: contracts of join and Common of package unify. Conditions: the arguments read as data; both are terms of at most 100 numbers.
  WHAT IT HOLDS: contracts of join and Common of package unify. Conditions: the arguments read as data; both are terms of at most 100 numbers; a sign of 1 to 12 symbols.
  WHAT IT HOLDS: contracts of Closeness of package find, and of the laws' own helpers Small, Few, awake. Conditions: the arguments read as data.
  WHAT IT HOLDS: how a proof's steps lie; contracts of within, right, valid, ValidGivens, asked of package kernel. Conditions: the arguments read as data; a small sign.
  WHAT IT HOLDS: how entries of a library lie: names, lists of names, entries, libraries; how they are read and kept. No program in sight.
  WHAT IT HOLDS: plain words on libraries: what a name is, a valid entry, a valid library; the index of a name. No program in sight.
  WHAT IT HOLDS: contracts of Name of package deps and of its reference. No condition but that a string is one that Go can hold.
  WHAT IT HOLDS: contracts of match and Instance of package unify: what a match computes. Conditions: the arguments read as data; the signs are small.
  WHAT IT HOLDS: 'a block of memory holds an array of terms, some of them nil' (ArrT), how it is kept and written. Over any program. No condition.
  WHAT IT HOLDS: from an input as the rows read it to the predicate that the walks use: a slice of steps. Over any program.
-/
import Derived.Deep.RegionLaw
import Derived.Test.YtlbjbmpkaniojaaGreatZRBlameMerges3
import Derived.Test.YtlbjbmpkaniojaaGreatZRBlameMerges6
import Derived.Test.YtlbjbmpkaniojaaGreatZRBlameMerges2
import Derived.Test.YtlbjbmpkaniojaaGreatZRBlameMerges11
import Derived.Test.YtlbjbmpkaniojaaGreatZRBlameMerges1
import Derived.Test.YtlbjbmpkaniojaaGreatZRBlameMerges9
import Derived.Test.YtlbjbmpkaniojaaGreatZRBlameMerges7
import Derived.Test.YtlbjbmpkaniojaaGreatZRBlameMerges8
namespace Go.Proofs.YtlbjbmpkaniojaaGreat
open Go Go.RowKit Go.Maps
theorem term_Valid' (v vt : Value) (s : Sg) (t : List Int) (w : World) (hs : SignAt w v s) (ht : Ints w vt t) (hs1 : s.length ≤ 1000) :
    Calls Tryz.prog 96 #[v, vt] w fun e w' => e = .returned (.bool (termB s t)) ∧ Below w.heap.size w w' := term_Valid v vt s t w hs ht hs1 end_need
end Go.Proofs.YtlbjbmpkaniojaaGreat
namespace Go.Proofs.YtlbjbmpkaniojaaGreat
open Go Go.RowKit Go.Maps
theorem T_small {s : Sg} {t : List Int} (h : IsT s 12 t) (hs : s.length ≤ 100) : ∀ z ∈ t, -12 ≤ z ∧ z ≤ 200 := by
  intro z hz
  rcases h.range z hz with h | h <;> omega
end Go.Proofs.YtlbjbmpkaniojaaGreat
namespace Go.Proofs.YtlbjbmpkaniojaaGreat
open Go Go.RowKit Go.Maps
end Go.Proofs.YtlbjbmpkaniojaaGreat
namespace Go.Proofs.YtlbjbmpkaniojaaGreat
open Go Go.RowKit Go.Maps
theorem termB_facts {s : Sg} {t : List Int} (h : termB s t = true) : signB s = true ∧ 1 ≤ s.length ∧ s.length ≤ 12 ∧ t.length ≤ 60 := by
  have h' := h
  unfold termB at h'
  simp only [Bool.and_eq_true] at h'
  have h1 := signB_len h'.1.1
  have h2 := inB_true.1 h'.1.2
  exact ⟨h'.1.1, h1.1, h1.2, by omega⟩
end Go.Proofs.YtlbjbmpkaniojaaGreat
namespace Go.Proofs.YtlbjbmpkaniojaaGreat
open Go Go.RowKit Go.Maps
/-- a step of a proof: its kind and two indexes. -/
abbrev St := Int × Int × Int
def stV (x : St) : List Value := [.int .i64 x.1, .int .i64 x.2.1, .int .i64 x.2.2]
def stC (l : List St) : List Value := l.flatMap stV
theorem stC_len (l : List St) : (stC l).length = l.length * 3 := by
  induction l with
  | nil => rfl
  | cons x l ih => simp [stC, stV] at ih ⊢; omega
theorem stC_get (l : List St) : ∀ (j : Nat) (h : j < l.length), (stC l)[j * 3]? = some (.int .i64 l[j].1) ∧ (stC l)[j * 3 + 1]? = some (.int .i64 l[j].2.1) ∧ (stC l)[j * 3 + 2]? = some (.int .i64 l[j].2.2) := by
  induction l with
  | nil => intro j h; simp at h
  | cons x l ih =>
    intro j h
    cases j with
    | zero => simp [stC, stV]
    | succ j =>
      have := ih j (by simpa using h)
      simpa [stC, stV, Nat.add_mul, Nat.add_assoc] using this
def StepsAt (w : World) (v : Value) (l : List St) : Prop := RowK w v 3 l.length (stC l)
theorem StepsAt.below {w w' : World} {v : Value} {l : List St} (h : StepsAt w v l) (hb : Below w.heap.size w w') : StepsAt w' v l := RowK.below h hb
theorem StepsAt.open {w : World} {v : Value} {l : List St} (h : StepsAt w v l) :
    ∃ a cap, v = .slice a l.length cap ∧ l.length ≤ cap ∧ l.length ≤ 140737488355328 ∧ (a = none → cap = 0) ∧
      ∀ j (h : j < l.length), ∃ b o, a = some ⟨b, o, none⟩ ∧ w.cell? ⟨b, o + j * 3, none⟩ = some (.int .i64 l[j].1) ∧ w.cell? ⟨b, o + j * 3 + 1, none⟩ = some (.int .i64 l[j].2.1) ∧ w.cell? ⟨b, o + j * 3 + 2, none⟩ = some (.int .i64 l[j].2.2) := by
  obtain ⟨_, a, cap, h2, h3, h4, h5, h6⟩ := h
  refine ⟨a, cap, h2, h3, h4, h5, fun j hj => ?_⟩
  obtain ⟨g1, g2, g3⟩ := stC_get l j hj
  obtain ⟨b, o, e1, q1⟩ := h6 _ _ g1
  obtain ⟨b', o', e2, q2⟩ := h6 _ _ g2
  obtain ⟨b'', o'', e3, q3⟩ := h6 _ _ g3
  rw [e1] at e2 e3
  cases e2; cases e3
  exact ⟨b, o, e1, q1, by rw [Nat.add_assoc]; exact q2, by rw [Nat.add_assoc]; exact q3⟩
/-- whether a step is right in a proof behind others. -/
def rightB (g : Int) (k : Int) (x : St) : Bool := if x.1 = 1 then inB x.2.1 0 (g - 1) && decide (x.2.2 = 0) else if x.1 = 2 then inB x.2.1 0 (k - 1) && inB x.2.2 0 (k - 1) else false
def proofB (g : Int) (p : List St) : Bool := (List.range p.length).all (fun k => rightB g k (p.getD k (0, 0, 0))) && inB p.length 1 60
theorem proofB_at {g : Int} {p : List St} (h : proofB g p = true) {k : Nat} (hk : k < p.length) : rightB g k p[k] = true := by
  unfold proofB at h
  simp only [Bool.and_eq_true, List.all_eq_true, List.mem_range] at h
  have := h.1 k hk
  rwa [List.getD_eq_getElem?_getD, List.getElem?_eq_getElem hk] at this
theorem proofB_no {g : Int} {p : List St} {k : Nat} (hk : k < p.length) (h : rightB g k p[k] = false) : proofB g p = false := by
  rw [Bool.eq_false_iff]
  intro hh
  rw [proofB_at hh hk] at h
  cases h
theorem proofB_all {g : Int} {p : List St} (h : ∀ k (hk : k < p.length), rightB g k p[k] = true) : proofB g p = inB p.length 1 60 := by
  unfold proofB
  have : (List.range p.length).all (fun k => rightB g k (p.getD k (0, 0, 0))) = true := by
    rw [List.all_eq_true]
    intro k hk
    have hk' : k < p.length := by simpa using hk
    rw [List.getD_eq_getElem?_getD, List.getElem?_eq_getElem hk']
    exact h k hk'
  rw [this, Bool.true_and]
def givensB (s : Sg) (g : List (List Int)) : Bool := signB s && decide (g.length ≤ 60) && allB s g
def askedB (s : Sg) (g : List (List Int)) (p : List St) : Bool := givensB s g && proofB g.length p
theorem kernel_within (n lo hi : Int) (w : World) :
    Calls Tryz.prog 168 #[.int .i64 n, .int .i64 lo, .int .i64 hi] w fun e w' => e = .returned (.bool (inB n lo hi)) ∧ w = w' := by
  unfold inB
  by_cases h1 : lo ≤ n
  · by_cases h2 : n ≤ hi
    · go_enter Tryz.func168, Tryz.ntmps168
      go_wp2
      go_ret
      exact ⟨by simp [h1, h2], rfl⟩
    · go_enter Tryz.func168, Tryz.ntmps168
      go_wp2
      go_ret
      exact ⟨by simp [h1, h2], rfl⟩
  · go_enter Tryz.func168, Tryz.ntmps168
    go_wp2
    go_ret
    exact ⟨ret_bool (by simp; omega), rfl⟩
set_option maxHeartbeats 1000000 in
theorem kernel_right (g k : Int) (x : St) (w : World) (hg : 0 ≤ g ∧ g ≤ 140737488355328) (hk : 0 ≤ k ∧ k ≤ 140737488355328) :
    Calls Tryz.prog 191 #[.int .i64 g, .int .i64 k, .agg #[.int .i64 x.1, .int .i64 x.2.1, .int .i64 x.2.2]] w fun e w' => e = .returned (.bool (rightB g k x)) ∧ Below w.heap.size w w' := by
  obtain ⟨x0, x1, x2⟩ := x
  have hw1 : IntKind.i64.wrap (g - 1) = g - 1 := by rw [IntWalk.i64_in _ (by omega)]
  have hw2 : IntKind.i64.wrap (k - 1) = k - 1 := by rw [IntWalk.i64_in _ (by omega)]
  have hb1 : Below w.heap.size w (w.alloc (.cells #[.int .i64 x0, .int .i64 x1, .int .i64 x2] 105)) := (Below.refl _ _).alloc (Nat.le_refl _) _
  by_cases h1 : x0 = 1
  · subst h1
    cases hi : inB x1 0 (g - 1)
    · have hi' := hi
      go_enter Tryz.func191, Tryz.ntmps191
      go_wp2_with (go_at_call 168; refine (kernel_within _ _ _ _).mono ?_; rintro e w' ⟨rfl, rfl⟩)
      go_ret
      exact ⟨ret_bool (by simp [rightB, hi']), hb1⟩
    · have hi' := hi
      by_cases h2 : x2 = 0
      · subst h2
        go_enter Tryz.func191, Tryz.ntmps191
        go_wp2_with (go_at_call 168; refine (kernel_within _ _ _ _).mono ?_; rintro e w' ⟨rfl, rfl⟩)
        go_ret
        exact ⟨ret_bool (by simp [rightB, hi']), hb1⟩
      · have n2 : (x2 == 0) = false := by simpa using h2
        go_enter Tryz.func191, Tryz.ntmps191
        go_wp2_with (go_at_call 168; refine (kernel_within _ _ _ _).mono ?_; rintro e w' ⟨rfl, rfl⟩)
        go_ret
        exact ⟨ret_bool (by simp [rightB, hi', h2]), hb1⟩
  · have n1 : (x0 == 1) = false := by simpa using h1
    by_cases h3 : x0 = 2
    · subst h3
      cases hi : inB x1 0 (k - 1)
      · have hi' := hi
        go_enter Tryz.func191, Tryz.ntmps191
        go_wp2_with (go_at_call 168; refine (kernel_within _ _ _ _).mono ?_; rintro e w' ⟨rfl, rfl⟩)
        go_ret
        exact ⟨ret_bool (by simp [rightB, hi']), hb1⟩
      · have hi' := hi
        cases hj : inB x2 0 (k - 1)
        · have hj' := hj
          go_enter Tryz.func191, Tryz.ntmps191
          go_wp2_with (go_at_call 168; refine (kernel_within _ _ _ _).mono ?_; rintro e w' ⟨rfl, rfl⟩)
          go_ret
          exact ⟨ret_bool (by simp [rightB, hi', hj']), hb1⟩
        · have hj' := hj
          go_enter Tryz.func191, Tryz.ntmps191
          go_wp2_with (go_at_call 168; refine (kernel_within _ _ _ _).mono ?_; rintro e w' ⟨rfl, rfl⟩)
          go_ret
          exact ⟨ret_bool (by simp [rightB, hi', hj']), hb1⟩
    · have n3 : (x0 == 2) = false := by simpa using h3
      go_enter Tryz.func191, Tryz.ntmps191
      go_wp2_with (go_at_call 168; refine (kernel_within _ _ _ _).mono ?_; rintro e w' ⟨rfl, rfl⟩)
      go_ret
      exact ⟨ret_bool (by simp [rightB, h1, h3]), hb1⟩
set_option maxHeartbeats 2000000 in
theorem kernel_valid (g : Int) (v : Value) (l : List St) (w : World) (hg : 0 ≤ g ∧ g ≤ 140737488355328) (hv : StepsAt w v l) :
    Calls Tryz.prog 169 #[.int .i64 g, v] w fun e w' => e = .returned (.bool (proofB g l)) ∧ Below w.heap.size w w' := by
  obtain ⟨a, cap, rfl, h1, h2, -, HC⟩ := hv.open
  have HC' := hid HC
  clear HC hv
  go_enter Tryz.func169, Tryz.ntmps169
  go_wp2
  go_loopw [9] (fun kv wr => ∃ k : Nat, k ≤ l.length ∧ kv = .int .i64 k ∧ Below w.heap.size w wr ∧ ∀ j (hj : j < l.length), j < k → rightB g j l[j] = true) (fun kv _ => l.length - (intOf kv).toNat)
  case atStart => exact ⟨0, by omega, rfl, Below.refl _ _, by simp⟩
  case round =>
    obtain ⟨k, hk, rfl, hb, hrel⟩ := hrel
    have HR := hid hrel
    have hsz := hb.size
    clear hrel
    by_cases hlt : k < l.length
    · obtain ⟨cb, co, rfl, c10, c20, c30⟩ := HC'.out k hlt
      have c1' := (hb.cell (World.block_lt_of_cell? _ _ c10)).trans c10
      have c2' := (hb.cell (World.block_lt_of_cell? _ _ c20)).trans c20
      have c3' := (hb.cell (World.block_lt_of_cell? _ _ c30)).trans c30
      have HNO := hid (fun hn => proofB_no (g := g) hlt hn)
      have HYES := hid (fun (h : rightB g k l[k] = true) => h)
      obtain ⟨x, hx⟩ : ∃ x, l[k] = x := ⟨_, rfl⟩
      rw [hx] at c1' c2' c3' HNO HYES
      have HX := hid hx
      obtain ⟨x0, x1, x2⟩ := x
      simp only at c1' c2' c3'
      clear c10 c20 c30 hx
      have hbA : Below wr.heap.size wr (wr.alloc (.cells #[.int .i64 x0, .int .i64 x1, .int .i64 x2] 105)) := (Below.refl _ _).alloc (Nat.le_refl _) _
      have HRT := hid (kernel_right g k (x0, x1, x2) (wr.alloc (.cells #[.int .i64 x0, .int .i64 x1, .int .i64 x2] 105)) hg (by omega))
      have HBA := hid (hb.trans (hbA.mono hsz))
      have HBS := hid HBA.out.size
      cases hr : rightB g k (x0, x1, x2)
      · rw [hr] at HRT
        have HF := hid (HNO.out hr)
        clear hr hbA
        go_wp2_with (go_at_call 191; refine HRT.out.mono ?_; rintro e w5 ⟨rfl, hb5⟩)
        go_ret
        exact ⟨ret_bool HF.out.symm, HBA.out.trans (hb5.mono HBS.out)⟩
      · rw [hr] at HRT
        have HRK := hid (HYES.out hr)
        clear hr hbA
        have hwk := IntWalk.i64_in ((k : Int) + 1) (by omega)
        go_wp2_with (go_at_call 191; refine HRT.out.mono ?_; rintro e w5 ⟨rfl, hb5⟩)
        go_roundw
        case rel =>
          refine ⟨k + 1, by omega, by go_num, HBA.out.trans (hb5.mono HBS.out), fun q hq hqk => ?_⟩
          by_cases hqq : q = k
          · subst hqq
            rw [HX.out]; exact HRK.out
          · exact HR.out q hq (by omega)
        case measure => simp [intOf]; omega
    · have hkl : k = l.length := by omega
      have HA : Hid (proofB g l = inB l.length 1 60) := hid (proofB_all fun q hq => HR.out q hq (by omega))
      go_wp2_with (go_at_call 168; refine (kernel_within _ _ _ _).mono ?_; rintro e w' ⟨rfl, rfl⟩)
      go_ret
      exact ⟨ret_bool HA.out.symm, hb⟩
end Go.Proofs.YtlbjbmpkaniojaaGreat
namespace Go.Proofs.YtlbjbmpkaniojaaGreat
open Go Go.RowKit
abbrev Nm := ByteArray
/-- a slice of strings. -/
def TxtsAt (w : World) (v : Value) (l : List Nm) : Prop := RowK w v 1 l.length (l.map Value.string) ∧ ∀ x ∈ l, x.size ≤ 140737488355328
theorem TxtsAt.below {w w' : World} {v : Value} {l : List Nm} (h : TxtsAt w v l) (hb : Below w.heap.size w w') : TxtsAt w' v l := ⟨h.1.below hb, h.2⟩
theorem TxtsAt.open {w : World} {v : Value} {l : List Nm} (h : TxtsAt w v l) :
    ∃ a cap, v = .slice a l.length cap ∧ l.length ≤ cap ∧ l.length ≤ 140737488355328 ∧ (a = none → cap = 0) ∧
      ∀ j (h : j < l.length), ∃ b o, a = some ⟨b, o, none⟩ ∧ w.cell? ⟨b, o + j, none⟩ = some (.string l[j]) := by
  obtain ⟨⟨_, a, cap, h2, h3, h4, h5, h6⟩, -⟩ := h
  exact ⟨a, cap, h2, h3, h4, h5, fun j hj => h6 j _ (by simp [hj])⟩
theorem TxtsAt.of_owns {w : World} {base : Nat} {e : TypeId} {v : Value} {l : List Nm} (h : w.ownsRow base e 1 v l.length (l.map Value.string)) (hn : l.length ≤ 140737488355328) (hs : ∀ x ∈ l, x.size ≤ 140737488355328) : TxtsAt w v l := ⟨RowK.of_owns h hn, hs⟩
theorem TxtsAt.nil (w : World) : TxtsAt w (.slice none 0 0) [] := ⟨⟨rfl, none, 0, rfl, Nat.le_refl _, by simp, fun _ => rfl, fun j u hj => by simp at hj⟩, by simp⟩
/-- an entry: its name, by whom it is, what it says, what it uses, its proof. -/
structure En where
  name : Nm
  who : Nm
  says : List Int
  uses : List Nm
  proof : List St
deriving DecidableEq
/-- the five cells of an entry. -/
structure EntAt (w : World) (vs vu vp : Value) (x : En) : Prop where
  s : Ints w vs x.says
  u : TxtsAt w vu x.uses
  p : StepsAt w vp x.proof
  n1 : x.name.size ≤ 140737488355328
  n2 : x.who.size ≤ 140737488355328
theorem EntAt.below {w w' : World} {vs vu vp : Value} {x : En} (h : EntAt w vs vu vp x) (hb : Below w.heap.size w w') : EntAt w' vs vu vp x := ⟨h.s.below hb, h.u.below hb, h.p.below hb, h.n1, h.n2⟩
/-- an entry as a value. -/
def EnV (w : World) (v : Value) (x : En) : Prop := ∃ vs vu vp, v = .agg #[.string x.name, .string x.who, vs, vu, vp] ∧ EntAt w vs vu vp x
theorem EnV.below {w w' : World} {v : Value} {x : En} (h : EnV w v x) (hb : Below w.heap.size w w') : EnV w' v x := by
  obtain ⟨vs, vu, vp, h1, h2⟩ := h; exact ⟨vs, vu, vp, h1, h2.below hb⟩
/-- the slices of an entry. -/
abbrev V3 := Value × Value × Value
def enC (x : En) (v : V3) : List Value := [.string x.name, .string x.who, v.1, v.2.1, v.2.2]
def ensC : List En → List V3 → List Value
  | x :: l, v :: vs => enC x v ++ ensC l vs
  | _, _ => []
theorem ensC_len : ∀ (l : List En) (vs : List V3), vs.length = l.length → (ensC l vs).length = l.length * 5
  | [], [], _ => rfl
  | [], _ :: _, h => by simp at h
  | _ :: _, [], h => by simp at h
  | x :: l, v :: vs, h => by
    have := ensC_len l vs (by simpa using h)
    simp [ensC, enC, this]; omega
theorem ensC_get : ∀ (l : List En) (vs : List V3) (_ : vs.length = l.length) (j : Nat) (h : j < l.length) (h' : j < vs.length), (ensC l vs)[j * 5]? = some (.string l[j].name) ∧ (ensC l vs)[j * 5 + 1]? = some (.string l[j].who) ∧ (ensC l vs)[j * 5 + 2]? = some vs[j].1 ∧ (ensC l vs)[j * 5 + 3]? = some vs[j].2.1 ∧ (ensC l vs)[j * 5 + 4]? = some vs[j].2.2
  | [], _, _, j, h, _ => by simp at h
  | _ :: _, [], e, _, _, _ => by simp at e
  | x :: l, v :: vs, e, 0, _, _ => by simp [ensC, enC]
  | x :: l, v :: vs, e, j + 1, h, h' => by
    have := ensC_get l vs (by simpa using e) j (by simpa using h) (by simpa using h')
    simpa [ensC, enC, Nat.add_mul, Nat.add_assoc] using this
theorem ensC_append : ∀ (l m : List En) (vs us : List V3), vs.length = l.length → ensC (l ++ m) (vs ++ us) = ensC l vs ++ ensC m us
  | [], m, [], us, _ => rfl
  | [], _, _ :: _, _, h => by simp at h
  | _ :: _, _, [], _, h => by simp at h
  | x :: l, m, v :: vs, us, h => by simp [ensC, ensC_append l m vs us (by simpa using h)]
/-- a library in memory: l, the slices of its entries vs. -/
def EntsV (w : World) (v : Value) (vs : List V3) (l : List En) : Prop := RowK w v 5 l.length (ensC l vs) ∧ vs.length = l.length ∧ ∀ (j : Nat) (h : j < l.length) (h' : j < vs.length), EntAt w vs[j].1 vs[j].2.1 vs[j].2.2 l[j]
def EntsAt (w : World) (v : Value) (l : List En) : Prop := ∃ vs, EntsV w v vs l
theorem EntsV.below {w w' : World} {v : Value} {vs : List V3} {l : List En} (h : EntsV w v vs l) (hb : Below w.heap.size w w') : EntsV w' v vs l := ⟨h.1.below hb, h.2.1, fun j h1 h2 => (h.2.2 j h1 h2).below hb⟩
theorem EntsAt.below {w w' : World} {v : Value} {l : List En} (h : EntsAt w v l) (hb : Below w.heap.size w w') : EntsAt w' v l := by
  obtain ⟨vs, h⟩ := h; exact ⟨vs, h.below hb⟩
theorem EntsAt.open {w : World} {v : Value} {l : List En} (h : EntsAt w v l) :
    ∃ a cap, v = .slice a l.length cap ∧ l.length ≤ cap ∧ l.length ≤ 140737488355328 ∧ (a = none → cap = 0) ∧
      ∀ j (h : j < l.length), ∃ b o vs vu vp, a = some ⟨b, o, none⟩ ∧ w.cell? ⟨b, o + j * 5, none⟩ = some (.string l[j].name) ∧ w.cell? ⟨b, o + j * 5 + 1, none⟩ = some (.string l[j].who) ∧ w.cell? ⟨b, o + j * 5 + 2, none⟩ = some vs ∧ w.cell? ⟨b, o + j * 5 + 3, none⟩ = some vu ∧ w.cell? ⟨b, o + j * 5 + 4, none⟩ = some vp ∧ EntAt w vs vu vp l[j] := by
  obtain ⟨vs, ⟨_, a, cap, h2, h3, h4, h5, h6⟩, hl, he⟩ := h
  refine ⟨a, cap, h2, h3, h4, h5, fun j hj => ?_⟩
  obtain ⟨g0, g1, g2, g3, g4⟩ := ensC_get l vs hl j hj (by omega)
  obtain ⟨b, o, e0, q0⟩ := h6 _ _ g0
  obtain ⟨b1, o1, e1, q1⟩ := h6 _ _ g1
  obtain ⟨b2, o2, e2, q2⟩ := h6 _ _ g2
  obtain ⟨b3, o3, e3, q3⟩ := h6 _ _ g3
  obtain ⟨b4, o4, e4, q4⟩ := h6 _ _ g4
  rw [e0] at e1 e2 e3 e4
  cases e1; cases e2; cases e3; cases e4
  have hjv : j < vs.length := by omega
  exact ⟨b, o, vs[j].1, vs[j].2.1, vs[j].2.2, e0, q0, by rw [Nat.add_assoc]; exact q1, by rw [Nat.add_assoc]; exact q2, by rw [Nat.add_assoc]; exact q3, by rw [Nat.add_assoc]; exact q4, he j hj (by omega)⟩
/-- the first entries of a library. -/
theorem EntsV.take {w : World} {a : Option Addr} {n cap : Nat} {vs : List V3} {l : List En} (h : EntsV w (.slice a n cap) vs l) (k : Nat) (hk : k ≤ l.length) : EntsV w (.slice a k cap) (vs.take k) (l.take k) := by
  obtain ⟨⟨h1, a', cap', h2, h3, h4, h5, h6⟩, hl, he⟩ := h
  simp only [Value.slice.injEq] at h2
  obtain ⟨rfl, rfl, rfl⟩ := h2
  have hlk : (l.take k).length = k := by rw [List.length_take]; omega
  have hvk : (vs.take k).length = k := by rw [List.length_take]; omega
  refine ⟨⟨ensC_len _ _ (by rw [hlk, hvk]), a, cap, by rw [hlk], by omega, by omega, h5, fun j u hj => ?_⟩, by rw [hlk, hvk], fun j g g' => ?_⟩
  · have e : ensC l vs = ensC (l.take k) (vs.take k) ++ ensC (l.drop k) (vs.drop k) := by
      rw [← ensC_append _ _ _ _ (by rw [hlk, hvk]), List.take_append_drop, List.take_append_drop]
    refine h6 j u ?_
    rw [e, List.getElem?_append_left (List.getElem?_eq_some_iff.1 hj).1]
    exact hj
  · simp only [List.getElem_take]
    exact he j (by omega) (by omega)
theorem EntsAt.take {w : World} {a : Option Addr} {n cap : Nat} {l : List En} (h : EntsAt w (.slice a n cap) l) (k : Nat) (hk : k ≤ l.length) : EntsAt w (.slice a k cap) (l.take k) := by
  obtain ⟨vs, h⟩ := h
  exact ⟨_, h.take k hk⟩
theorem EntsAt.nil (w : World) : EntsAt w (.slice none 0 0) [] := ⟨[], ⟨rfl, none, 0, rfl, Nat.le_refl _, by simp, fun _ => rfl, fun j u hj => by simp [ensC] at hj⟩, rfl, fun j h => by simp at h⟩
end Go.Proofs.YtlbjbmpkaniojaaGreat
namespace Go.Proofs.YtlbjbmpkaniojaaGreat
open Go Go.RowKit
def loB (c : UInt8) : Bool := decide (97 ≤ c.toNat) && decide (c.toNat ≤ 122)
def otherB (c : UInt8) : Bool := decide (c.toNat = 95) || (decide (48 ≤ c.toNat) && decide (c.toNat ≤ 57))
/-- whether a byte may stand at a place of a name. -/
def nchB (s : Nm) (i : Nat) : Bool := loB (s.get! i) || (decide (i ≠ 0) && otherB (s.get! i))
def nmB (s : Nm) : Bool := (List.range s.size).all (nchB s) && (decide (1 ≤ s.size) && decide (s.size ≤ 16))
theorem get!_eq {s : Nm} {i : Nat} (h : i < s.size) : s.get! i = s[i]'h := by simp [ByteArray.get!, ByteArray.getElem_eq_getElem_data, h]
theorem nmB_no {s : Nm} {i : Nat} (h : i < s.size) (hc : nchB s i = false) : nmB s = false := by
  unfold nmB
  have : (List.range s.size).all (nchB s) = false := by
    rw [List.all_eq_false]
    exact ⟨i, List.mem_range.2 h, by simp [hc]⟩
  rw [this, Bool.false_and]
theorem nmB_all {s : Nm} (h : ∀ i, i < s.size → nchB s i = true) : nmB s = (decide (1 ≤ s.size) && decide (s.size ≤ 16)) := by
  unfold nmB
  have : (List.range s.size).all (nchB s) = true := by
    rw [List.all_eq_true]
    intro i hi
    exact h i (List.mem_range.1 hi)
  rw [this, Bool.true_and]
theorem nmB_len {s : Nm} (h : nmB s = true) : 1 ≤ s.size ∧ s.size ≤ 16 := by
  unfold nmB at h
  simp only [Bool.and_eq_true, decide_eq_true_eq] at h
  exact h.2
def canB (s : Sg) (t : List Int) : Bool := termB s t && decide (canonL t = t)
def entryB (s : Sg) (x : En) : Bool :=
  nmB x.name && (nmB x.who && (canB s x.says && (decide (x.uses.length ≤ 12) && (decide x.uses.Nodup && (x.uses.all nmB && (if x.proof.length = 0 then decide (x.uses.length = 0) else proofB x.uses.length x.proof))))))
structure EnOK (s : Sg) (x : En) : Prop where
  name : nmB x.name = true
  who : nmB x.who = true
  says : termB s x.says = true
  can : canonL x.says = x.says
  len : x.uses.length ≤ 12
  nd : x.uses.Nodup
  uses : ∀ u ∈ x.uses, nmB u = true
  ax : x.proof.length = 0 → x.uses.length = 0
  proof : x.proof.length ≠ 0 → proofB x.uses.length x.proof = true
theorem entryB_iff {s : Sg} {x : En} : entryB s x = true ↔ EnOK s x := by
  unfold entryB canB
  simp only [Bool.and_eq_true, decide_eq_true_eq, List.all_eq_true]
  constructor
  · rintro ⟨h1, h2, ⟨h3, h4⟩, h5, h6, h7, h8⟩
    refine ⟨h1, h2, h3, h4, h5, h6, h7, fun h0 => ?_, fun h0 => ?_⟩
    · rw [if_pos h0] at h8; simpa using h8
    · rw [if_neg h0] at h8; exact h8
  · intro h
    refine ⟨h.name, h.who, ⟨h.says, h.can⟩, h.len, h.nd, h.uses, ?_⟩
    by_cases h0 : x.proof.length = 0
    · rw [if_pos h0]; simpa using h.ax h0
    · rw [if_neg h0]; exact h.proof h0
/-- a valid library. -/
def libB (s : Sg) (l : List En) : Bool := signB s && (decide (l.length ≤ 60) && (l.all (entryB s) && decide (l.map En.name).Nodup))
structure LibOK (s : Sg) (l : List En) : Prop where
  sign : signB s = true
  len : l.length ≤ 60
  ents : ∀ x ∈ l, EnOK s x
  nd : (l.map En.name).Nodup
theorem libB_iff {s : Sg} {l : List En} : libB s l = true ↔ LibOK s l := by
  unfold libB
  simp only [Bool.and_eq_true, decide_eq_true_eq, List.all_eq_true]
  constructor
  · rintro ⟨h1, h2, h3, h4⟩
    exact ⟨h1, h2, fun x hx => entryB_iff.1 (h3 x hx), h4⟩
  · intro h
    exact ⟨h.sign, h.len, fun x hx => entryB_iff.2 (h.ents x hx), h.nd⟩
theorem libB_no {s : Sg} {l : List En} {x : En} (hx : x ∈ l) (h : entryB s x = false) : libB s l = false := by
  rw [Bool.eq_false_iff]
  intro hh
  have := entryB_iff.2 ((libB_iff.1 hh).ents x hx)
  rw [h] at this; cases this
/-- the index of a name, or none. -/
def idxN (l : List En) (n : Nm) : Option Nat := (l.map En.name).findIdx? (fun x => decide (x = n))
/-- the index of a name, or -1. -/
def idxI (l : List En) (n : Nm) : Int := match idxN l n with | some i => (i : Int) | none => -1
theorem idxN_some {l : List En} {n : Nm} {i : Nat} (h : idxN l n = some i) : ∃ hi : i < l.length, l[i].name = n := by
  unfold idxN at h
  obtain ⟨h1, h2, -⟩ := List.findIdx?_eq_some_iff_getElem.1 h
  refine ⟨by simpa using h1, by simpa using h2⟩
theorem idxN_none {l : List En} {n : Nm} (h : idxN l n = none) : ∀ x ∈ l, x.name ≠ n := by
  unfold idxN at h
  rw [List.findIdx?_eq_none_iff] at h
  intro x hx e
  have := h x.name (List.mem_map.2 ⟨x, hx, rfl⟩)
  rw [e] at this
  simp at this
theorem idxN_at {l : List En} {i : Nat} (hi : i < l.length) (h : ∀ j (hj : j < i), (l[j]'(by omega)).name ≠ l[i].name) : idxN l l[i].name = some i := by
  unfold idxN
  rw [List.findIdx?_eq_some_iff_getElem]
  refine ⟨by simpa using hi, by simp, fun j hj => ?_⟩
  have := h j hj
  simpa using this
theorem idxN_nd {l : List En} (h : (l.map En.name).Nodup) {i : Nat} (hi : i < l.length) : idxN l l[i].name = some i := by
  refine idxN_at hi fun j hj e => ?_
  have := List.pairwise_iff_getElem.1 h j i (by simp; omega) (by simpa using hi) hj
  exact this (by simpa using e)
end Go.Proofs.YtlbjbmpkaniojaaGreat
namespace Go.Proofs.YtlbjbmpkaniojaaGreat
open Go Go.RowKit
set_option maxHeartbeats 1000000 in
theorem deps_Name (s : Nm) (w : World) (hs : s.size ≤ 140737488355328) :
    Calls Tryz.prog 71 #[.string s] w fun e w' => e = .returned (.bool (nmB s)) ∧ w = w' := by
  go_enter Tryz.func71, Tryz.ntmps71
  go_wp2
  go_loop [7] (fun i => ∃ k : Nat, k ≤ s.size ∧ i = .int .i64 k ∧ ∀ j, j < k → nchB s j = true) (fun i => s.size - (intOf i).toNat)
  case atStart => exact ⟨0, Nat.zero_le _, rfl, fun j hj => by omega⟩
  case round =>
    obtain ⟨k, hk, rfl, hall⟩ := hrel
    have HALL := hid hall
    clear hall
    by_cases hlt : k < s.size
    · have HNO := hid (fun h => nmB_no (s := s) hlt h)
      have HC : Hid (nchB s k = (decide (97 ≤ (s[k]'hlt).toNat) && decide ((s[k]'hlt).toNat ≤ 122) || (decide (k ≠ 0) && (decide ((s[k]'hlt).toNat = 95) || (decide (48 ≤ (s[k]'hlt).toNat) && decide ((s[k]'hlt).toNat ≤ 57)))))) := hid (by unfold nchB loB otherB; rw [get!_eq hlt])
      have HST : Hid (nchB s k = true → ∀ j, j < k + 1 → nchB s j = true) := hid (fun h j hj => by
        by_cases e : j = k
        · rw [e]; exact h
        · exact HALL.out j (by omega))
      clear HALL
      by_cases h1 : 97 ≤ (s[k]'hlt).toNat ∧ (s[k]'hlt).toNat ≤ 122
      · obtain ⟨h2, h3⟩ := h1
        have HT := hid (HST.out (by rw [HC.out]; simp [h2, h3]))
        go_wp2
        go_round
        case rel => exact ⟨k + 1, by omega, by go_num, HT.out⟩
        case measure => simp [intOf]; omega
      · by_cases h2 : (s[k]'hlt).toNat < 97
        · by_cases h0 : k = 0
          · subst h0
            have HF := hid (HNO.out (by rw [HC.out]; simp; omega))
            go_wp2
            go_ret
            exact ⟨ret_bool HF.out.symm, rfl⟩
          · have qk : ((k : Int) == 0) = false := by simp; omega
            by_cases h3 : (s[k]'hlt).toNat = 95
            · have HT := hid (HST.out (by rw [HC.out]; simp; omega))
              go_wp2
              go_round
              case rel => exact ⟨k + 1, by omega, by go_num, HT.out⟩
              case measure => simp [intOf]; omega
            · have q95 : (((s[k]'hlt).toNat : Int) != 95) = true := by simp; omega
              by_cases h4 : (s[k]'hlt).toNat < 48
              · have HF := hid (HNO.out (by rw [HC.out]; simp; omega))
                go_wp2
                go_ret
                exact ⟨ret_bool HF.out.symm, rfl⟩
              · by_cases h5 : 57 < (s[k]'hlt).toNat
                · have HF := hid (HNO.out (by rw [HC.out]; simp; omega))
                  go_wp2
                  go_ret
                  exact ⟨ret_bool HF.out.symm, rfl⟩
                · have HT := hid (HST.out (by rw [HC.out]; simp; omega))
                  go_wp2
                  go_round
                  case rel => exact ⟨k + 1, by omega, by go_num, HT.out⟩
                  case measure => simp [intOf]; omega
        · have h3 : 122 < (s[k]'hlt).toNat := by omega
          have q95 : (((s[k]'hlt).toNat : Int) != 95) = true := by simp; omega
          by_cases h0 : k = 0
          · subst h0
            have HF := hid (HNO.out (by rw [HC.out]; simp; omega))
            go_wp2
            go_ret
            exact ⟨ret_bool HF.out.symm, rfl⟩
          · have qk : ((k : Int) == 0) = false := by simp; omega
            have HF := hid (HNO.out (by rw [HC.out]; simp; omega))
            go_wp2
            go_ret
            exact ⟨ret_bool HF.out.symm, rfl⟩
    · have HF := hid (nmB_all (s := s) fun j hj => HALL.out j (by omega))
      clear HALL
      by_cases g1 : 1 ≤ s.size
      · by_cases g2 : s.size ≤ 16
        · go_wp2
          go_ret
          exact ⟨ret_bool (by rw [HF.out]; simp [g1, g2]; omega), rfl⟩
        · go_wp2
          go_ret
          exact ⟨ret_bool (by rw [HF.out]; simp [g2]; omega), rfl⟩
      · go_wp2
        go_ret
        exact ⟨ret_bool (by rw [HF.out]; simp [g1]), rfl⟩
set_option maxHeartbeats 2000000 in
theorem ref6_Name (s : Nm) (w : World) (hs : s.size ≤ 140737488355328) :
    Calls Tryz.prog 53 #[.string s] w fun e w' => e = .returned (.bool (nmB s)) ∧ w = w' := by
  go_enter Tryz.func53, Tryz.ntmps53
  go_wp2
  go_loop [3] (fun i => ∃ k : Nat, k ≤ s.size ∧ i = .int .i64 k ∧ ∀ j, j < k → nchB s j = true) (fun i => s.size - (intOf i).toNat)
  case atStart => exact ⟨0, Nat.zero_le _, rfl, fun j hj => by omega⟩
  case round =>
    obtain ⟨k, hk, rfl, hall⟩ := hrel
    have HALL := hid hall
    clear hall
    by_cases hlt : k < s.size
    · have HNO := hid (fun h => nmB_no (s := s) hlt h)
      have HC : Hid (nchB s k = (decide (97 ≤ (s[k]'hlt).toNat) && decide ((s[k]'hlt).toNat ≤ 122) || (decide (k ≠ 0) && (decide ((s[k]'hlt).toNat = 95) || (decide (48 ≤ (s[k]'hlt).toNat) && decide ((s[k]'hlt).toNat ≤ 57)))))) := hid (by unfold nchB loB otherB; rw [get!_eq hlt])
      have HST : Hid (nchB s k = true → ∀ j, j < k + 1 → nchB s j = true) := hid (fun h j hj => by
        by_cases e : j = k
        · rw [e]; exact h
        · exact HALL.out j (by omega))
      clear HALL
      by_cases g0 : (s[k]'hlt).toNat < 48
      · have y1 : ¬ ((97 : Int) ≤ ((s[k]'hlt).toNat : Int)) := by omega
        have y2 : (((s[k]'hlt).toNat : Int) ≤ 122) := by omega
        have y3 : ¬ ((48 : Int) ≤ ((s[k]'hlt).toNat : Int)) := by omega
        have y4 : (((s[k]'hlt).toNat : Int) ≤ 57) := by omega
        have qz : (((s[k]'hlt).toNat : Int) == 95) = false := by simp; omega
        by_cases h0 : k = 0
        · subst h0
          have HF := hid (HNO.out (by rw [HC.out]; simp; omega))
          go_wp2
          go_ret
          exact ⟨ret_bool HF.out.symm, rfl⟩
        · have qk : ((k : Int) == 0) = false := by simp; omega
          have HF := hid (HNO.out (by rw [HC.out]; simp; omega))
          go_wp2
          go_ret
          exact ⟨ret_bool HF.out.symm, rfl⟩
      · skip
        by_cases g1 : (s[k]'hlt).toNat < 58
        · have y1 : ¬ ((97 : Int) ≤ ((s[k]'hlt).toNat : Int)) := by omega
          have y2 : (((s[k]'hlt).toNat : Int) ≤ 122) := by omega
          have y3 : ((48 : Int) ≤ ((s[k]'hlt).toNat : Int)) := by omega
          have y4 : (((s[k]'hlt).toNat : Int) ≤ 57) := by omega
          have qz : (((s[k]'hlt).toNat : Int) == 95) = false := by simp; omega
          by_cases h0 : k = 0
          · subst h0
            have HF := hid (HNO.out (by rw [HC.out]; simp; omega))
            go_wp2
            go_ret
            exact ⟨ret_bool HF.out.symm, rfl⟩
          · have qk : ((k : Int) == 0) = false := by simp; omega
            have HT := hid (HST.out (by rw [HC.out]; simp; omega))
            go_wp2
            go_round
            case rel => exact ⟨k + 1, by omega, by go_num, HT.out⟩
            case measure => simp [intOf]; omega
        · skip
          by_cases g2 : (s[k]'hlt).toNat < 95
          · have y1 : ¬ ((97 : Int) ≤ ((s[k]'hlt).toNat : Int)) := by omega
            have y2 : (((s[k]'hlt).toNat : Int) ≤ 122) := by omega
            have y3 : ((48 : Int) ≤ ((s[k]'hlt).toNat : Int)) := by omega
            have y4 : ¬ (((s[k]'hlt).toNat : Int) ≤ 57) := by omega
            have qz : (((s[k]'hlt).toNat : Int) == 95) = false := by simp; omega
            by_cases h0 : k = 0
            · subst h0
              have HF := hid (HNO.out (by rw [HC.out]; simp; omega))
              go_wp2
              go_ret
              exact ⟨ret_bool HF.out.symm, rfl⟩
            · have qk : ((k : Int) == 0) = false := by simp; omega
              have HF := hid (HNO.out (by rw [HC.out]; simp; omega))
              go_wp2
              go_ret
              exact ⟨ret_bool HF.out.symm, rfl⟩
          · skip
            by_cases g3 : (s[k]'hlt).toNat < 96
            · have y1 : ¬ ((97 : Int) ≤ ((s[k]'hlt).toNat : Int)) := by omega
              have y2 : (((s[k]'hlt).toNat : Int) ≤ 122) := by omega
              have y3 : ((48 : Int) ≤ ((s[k]'hlt).toNat : Int)) := by omega
              have y4 : ¬ (((s[k]'hlt).toNat : Int) ≤ 57) := by omega
              have qz : (((s[k]'hlt).toNat : Int) == 95) = true := by simp; omega
              by_cases h0 : k = 0
              · subst h0
                have HF := hid (HNO.out (by rw [HC.out]; simp; omega))
                go_wp2
                go_ret
                exact ⟨ret_bool HF.out.symm, rfl⟩
              · have qk : ((k : Int) == 0) = false := by simp; omega
                have HT := hid (HST.out (by rw [HC.out]; simp; omega))
                go_wp2
                go_round
                case rel => exact ⟨k + 1, by omega, by go_num, HT.out⟩
                case measure => simp [intOf]; omega
            · skip
              by_cases g4 : (s[k]'hlt).toNat < 97
              · have y1 : ¬ ((97 : Int) ≤ ((s[k]'hlt).toNat : Int)) := by omega
                have y2 : (((s[k]'hlt).toNat : Int) ≤ 122) := by omega
                have y3 : ((48 : Int) ≤ ((s[k]'hlt).toNat : Int)) := by omega
                have y4 : ¬ (((s[k]'hlt).toNat : Int) ≤ 57) := by omega
                have qz : (((s[k]'hlt).toNat : Int) == 95) = false := by simp; omega
                by_cases h0 : k = 0
                · subst h0
                  have HF := hid (HNO.out (by rw [HC.out]; simp; omega))
                  go_wp2
                  go_ret
                  exact ⟨ret_bool HF.out.symm, rfl⟩
                · have qk : ((k : Int) == 0) = false := by simp; omega
                  have HF := hid (HNO.out (by rw [HC.out]; simp; omega))
                  go_wp2
                  go_ret
                  exact ⟨ret_bool HF.out.symm, rfl⟩
              · skip
                by_cases g5 : (s[k]'hlt).toNat < 123
                · have y1 : ((97 : Int) ≤ ((s[k]'hlt).toNat : Int)) := by omega
                  have y2 : (((s[k]'hlt).toNat : Int) ≤ 122) := by omega
                  have y3 : ((48 : Int) ≤ ((s[k]'hlt).toNat : Int)) := by omega
                  have y4 : ¬ (((s[k]'hlt).toNat : Int) ≤ 57) := by omega
                  have qz : (((s[k]'hlt).toNat : Int) == 95) = false := by simp; omega
                  have HT := hid (HST.out (by rw [HC.out]; simp; omega))
                  go_wp2
                  go_round
                  case rel => exact ⟨k + 1, by omega, by go_num, HT.out⟩
                  case measure => simp [intOf]; omega
                · skip
                  have y1 : ((97 : Int) ≤ ((s[k]'hlt).toNat : Int)) := by omega
                  have y2 : ¬ (((s[k]'hlt).toNat : Int) ≤ 122) := by omega
                  have y3 : ((48 : Int) ≤ ((s[k]'hlt).toNat : Int)) := by omega
                  have y4 : ¬ (((s[k]'hlt).toNat : Int) ≤ 57) := by omega
                  have qz : (((s[k]'hlt).toNat : Int) == 95) = false := by simp; omega
                  by_cases h0 : k = 0
                  · subst h0
                    have HF := hid (HNO.out (by rw [HC.out]; simp; omega))
                    go_wp2
                    go_ret
                    exact ⟨ret_bool HF.out.symm, rfl⟩
                  · have qk : ((k : Int) == 0) = false := by simp; omega
                    have HF := hid (HNO.out (by rw [HC.out]; simp; omega))
                    go_wp2
                    go_ret
                    exact ⟨ret_bool HF.out.symm, rfl⟩
    · have HF := hid (nmB_all (s := s) fun j hj => HALL.out j (by omega))
      clear HALL
      by_cases g1 : 1 ≤ s.size
      · by_cases g2 : s.size ≤ 16
        · go_wp2
          go_ret
          exact ⟨ret_bool (by rw [HF.out]; simp [g1, g2]; omega), rfl⟩
        · go_wp2
          go_ret
          exact ⟨ret_bool (by rw [HF.out]; simp [g2]; omega), rfl⟩
      · go_wp2
        go_ret
        exact ⟨ret_bool (by rw [HF.out]; simp [g1]), rfl⟩
end Go.Proofs.YtlbjbmpkaniojaaGreat
namespace Go.Proofs.YtlbjbmpkaniojaaGreat
open Go Go.RowKit Go.Maps
abbrev VT := Value × List Int
def eI (n : Int) : Value := .int .i64 n
def eV (v : VT) : Value := v.1
theorem eI_inj : ∀ x y : Int, eI x = eI y → x = y := by intro x y h; simpa [eI] using h
theorem int_key (n : Int) (h : (Lit.int .i64 n).wf = true) : keyOf Tryz.prog 3 (eI n) = some (.int .i64 n) := keyOf_int_mk Tryz.underlying3 h
theorem wf_small {n : Int} (h1 : -1000000 ≤ n) (h2 : n ≤ 1000000) : (Lit.int .i64 n).wf = true := by
  simp [Lit.wf, IntKind.min, IntKind.max, IntKind.signed, IntKind.bits]; omega
abbrev TMap (w : World) (b n : Nat) (M : Int → Option VT) : Prop := MapK Tryz.prog 3 eI eV w b n M
end Go.Proofs.YtlbjbmpkaniojaaGreat
namespace Go.Proofs.YtlbjbmpkaniojaaGreat
open Go Go.RowKit Go.Maps

abbrev TT := Nat → Option VT
def sV : Option VT → Value
  | none => .slice none 0 0
  | some v => v.1
/-- cells off .. off + N - 1 of block pa are the terms T; all cells of the block are slices. -/
def ArrT (w : World) (pa off N : Nat) (T : TT) : Prop :=
  ∃ (cs : Array Value) (ty : TypeId), w.heap[pa]? = some (.cells cs ty (0, 0)) ∧ (∀ (i : Nat) (u : Value), cs[i]? = some u → ∃ a n c, u = Value.slice a n c) ∧
    ∀ v, v < N → cs[off + v]? = some (sV (T v)) ∧ ∀ u l, T v = some (u, l) → (∃ x n c, u = .slice (some x) n c) ∧ Ints w u l
theorem ArrT.lt {w : World} {pa off N : Nat} {T : TT} (h : ArrT w pa off N T) : pa < w.heap.size := by
  obtain ⟨cs, ty, h1, _⟩ := h
  exact (Array.getElem?_eq_some_iff.1 h1).1
theorem ArrT.cell {w : World} {pa off N : Nat} {T : TT} (h : ArrT w pa off N T) {v : Nat} (hv : v < N) : w.cell? ⟨pa, off + v, none⟩ = some (sV (T v)) := by
  obtain ⟨cs, ty, h1, _, h3⟩ := h
  rw [cell_of_row w pa (off + v) cs ty (0, 0) h1]
  exact (h3 v hv).1
theorem ArrT.frozen {w : World} {pa off N : Nat} {T : TT} (h : ArrT w pa off N T) (i : Nat) : w.frozen? ⟨pa, i, none⟩ = false := by
  obtain ⟨cs, ty, h1, _⟩ := h
  exact frozen_of_row w pa i cs ty h1
theorem ArrT.ints {w : World} {pa off N : Nat} {T : TT} (h : ArrT w pa off N T) {v : Nat} (hv : v < N) {u : Value} {l : List Int} (ht : T v = some (u, l)) : (∃ x n c, u = .slice (some x) n c) ∧ Ints w u l := by
  obtain ⟨cs, ty, _, _, h3⟩ := h
  exact (h3 v hv).2 u l ht
/-- a cell that is no slice stays while the array is written. -/
theorem ArrT.keep {w w' : World} {pa off N : Nat} {T : TT} {row : Option Nat} (h : ArrT w pa off N T) (hr : row = some pa) (hg : w.grownBy w' row) {a : Addr} {v : Value} (hc : w.cell? a = some v) (hv : ∀ x n c, v ≠ .slice x n c) : w'.cell? a = some v := by
  subst hr
  refine hg.cell hc fun e => ?_
  obtain ⟨cs, ty, h1, h2, _⟩ := h
  have e' : a.block = pa := by simpa using e
  obtain ⟨b, o, spot⟩ := a
  simp only at e'
  subst e'
  have hs := World.cell?_spot hc
  simp only at hs
  subst hs
  rw [cell_of_row w b o cs ty (0, 0) h1] at hc
  obtain ⟨x, n, c, rfl⟩ := h2 o v hc
  exact hv x n c rfl
theorem ArrT.rowK {w w' : World} {pa off N : Nat} {T : TT} {row : Option Nat} (h : ArrT w pa off N T) (hr : row = some pa) (hg : w.grownBy w' row) {v : Value} {q r : Nat} {xs : List Value} (hx : RowK w v q r xs) (hn : ∀ u ∈ xs, ∀ x n c, u ≠ .slice x n c) : RowK w' v q r xs := by
  obtain ⟨h1, a, cap, h2, h3, h4, h5, h6⟩ := hx
  refine ⟨h1, a, cap, h2, h3, h4, h5, fun j u hj => ?_⟩
  obtain ⟨b', o, h7, h8⟩ := h6 j u hj
  exact ⟨b', o, h7, h.keep hr hg h8 (hn u (List.mem_of_getElem? hj))⟩
theorem ArrT.keepInts {w w' : World} {pa off N : Nat} {T : TT} {row : Option Nat} (h : ArrT w pa off N T) (hr : row = some pa) (hg : w.grownBy w' row) {v : Value} {l : List Int} (hx : Ints w v l) : Ints w' v l :=
  h.rowK hr hg hx fun u hu x n c e => by
    obtain ⟨y, _, rfl⟩ := List.mem_map.1 hu
    cases e
theorem ArrT.keepSign {w w' : World} {pa off N : Nat} {T : TT} {row : Option Nat} (h : ArrT w pa off N T) (hr : row = some pa) (hg : w.grownBy w' row) {v : Value} {s : Sg} (hx : SignAt w v s) : SignAt w' v s :=
  ⟨h.rowK hr hg hx.1 fun u hu x n c e => by
    subst e
    obtain ⟨y, _, hy⟩ := List.mem_flatMap.1 hu
    simp at hy, hx.2⟩
theorem ArrT.below {w w' : World} {pa off N : Nat} {T : TT} (h : ArrT w pa off N T) (hb : Below w.heap.size w w') : ArrT w' pa off N T := by
  have hl := h.lt
  obtain ⟨cs, ty, h1, h2, h3⟩ := h
  refine ⟨cs, ty, by rw [hb.block pa hl]; exact h1, h2, fun v hv => ⟨(h3 v hv).1, fun u l e => ?_⟩⟩
  obtain ⟨h4, h5⟩ := (h3 v hv).2 u l e
  exact ⟨h4, h5.below hb⟩
/-- a store. -/
theorem ArrT.set {w : World} {pa off N : Nat} {T : TT} (h : ArrT w pa off N T) {v : Nat} (hv : v < N) {x : Addr} {n c : Nat} {l : List Int} (hu : Ints w (.slice (some x) n c) l) :
    ArrT (w.setCell ⟨pa, off + v, none⟩ (.slice (some x) n c)) pa off N (fun y => if y = v then some (.slice (some x) n c, l) else T y) ∧ w.grownBy (w.setCell ⟨pa, off + v, none⟩ (.slice (some x) n c)) (some pa) := by
  have hg : w.grownBy (w.setCell ⟨pa, off + v, none⟩ (.slice (some x) n c)) (some pa) :=
    ⟨rfl, rfl, rfl, by simp, fun k _ hk => heap_setCell_other w ⟨pa, off + v, none⟩ k _ (fun e => hk (by simp [e]))⟩
  have h0 := h
  obtain ⟨cs, ty, h1, h2, h3⟩ := h
  have hlt : off + v < cs.size := (Array.getElem?_eq_some_iff.1 (h3 v hv).1).1
  refine ⟨⟨cs.setIfInBounds (off + v) (.slice (some x) n c), ty, heap_setCell_same w pa (off + v) cs ty _ h1, fun i u hi => ?_, fun y hy => ?_⟩, hg⟩
  · rw [Array.getElem?_setIfInBounds] at hi
    split at hi
    · cases hi; exact ⟨_, _, _, rfl⟩
    · exact h2 i u hi
  · by_cases e : y = v
    · subst e
      refine ⟨by simp [hlt, sV], fun u l' hl => ?_⟩
      simp at hl
      obtain ⟨rfl, rfl⟩ := hl
      exact ⟨⟨_, _, _, rfl⟩, h0.keepInts rfl hg hu⟩
    · simp only [if_neg e]
      refine ⟨?_, fun u l' hl => ?_⟩
      · rw [Array.getElem?_setIfInBounds, if_neg (by omega)]
        exact (h3 y hy).1
      · obtain ⟨h4, h5⟩ := (h3 y hy).2 u l' hl
        exact ⟨h4, h0.keepInts rfl hg h5⟩
/-- what the variables of terms are sent to. -/
def mR (T : TT) : MM := fun n => if n < 0 then (T (-n - 1).toNat).map Prod.snd else none
end Go.Proofs.YtlbjbmpkaniojaaGreat
namespace Go.Proofs.YtlbjbmpkaniojaaGreat
open Go Go.RowKit Go.ChangeShapes Go.WideShapes Go.Deep
section
variable {H : Type} {enc : TypeId × Value → H} {P : Program} {w : World} {base : Nat} {held : Bool}
/-- a slice of steps. -/
theorem steps_of_trod {t e : TypeId} {f0 f1 f2 : Field} {fuel : Nat} {cs : List Value} {x : DataW H × List MemPlace} (ht : P.underlying t = some (.slice e)) (he : P.underlying e = some (.struct #[f0, f1, f2]))
    (ce : P.cellsOf e = 3) (o0 : f0.offset = 0) (o1 : f1.offset = 1) (o2 : f2.offset = 2) (c0 : P.cellsOf f0.type = 1) (c1 : P.cellsOf f1.type = 1) (c2 : P.cellsOf f2.type = 1) (u0 : P.underlying f0.type = some (.int .i64)) (u1 : P.underlying f1.type = some (.int .i64)) (u2 : P.underlying f2.type = some (.int .i64)) (be : 0 < P.bytesOf e)
    (h : DataW.trod enc P w base (fun _ => true) held fuel t cs = some x) (hs : Small P t x.1) : ∃ v l, cs = [v] ∧ StepsAt w v l := by
  rcases open_slice ht h with ⟨rfl, -⟩ | ⟨a, len, cap, m, n, D, Pl, rfl, hb, hl, hm, hmm, rfl, hx⟩
  · exact ⟨_, [], rfl, by simp [stC], none, 0, rfl, Nat.le_refl _, by simp, fun _ => rfl, by simp [stC]⟩
  · simp only [if_true] at hmm
    subst hmm
    have hn := hs.len ht be
    simp only [List.length_map, List.length_range] at hn
    have each : ∀ i, i < len → ∃ y : St, w.cell? (a.add (i * 3)) = some (.int .i64 y.1) ∧ w.cell? (a.add (i * 3 + 1)) = some (.int .i64 y.2.1) ∧ w.cell? (a.add (i * 3 + 2)) = some (.int .i64 y.2.2) := by
      intro i hi
      obtain ⟨cs', h1, h2⟩ := hx i (by omega)
      rw [ce] at h1
      obtain ⟨_, hlen, hcell⟩ := World.cells?_some h1
      obtain ⟨y0, y1, y2, k, -, -, g0, g1, g2⟩ := trod_struct3 he h2
      match cs', hlen with
      | [v0, v1, v2], _ =>
        simp [o0, o1, o2, c0, c1, c2] at g0 g1 g2
        obtain ⟨z0, e0, _, _⟩ := DataW.trod_int u0 g0
        obtain ⟨z1, e1, _, _⟩ := DataW.trod_int u1 g1
        obtain ⟨z2, e2, _, _⟩ := DataW.trod_int u2 g2
        simp only [List.cons.injEq, and_true] at e0 e1 e2
        have q0 := hcell 0 (by omega)
        have q1 := hcell 1 (by omega)
        have q2 := hcell 2 (by omega)
        rw [add_add] at q0 q1 q2
        subst e0 e1 e2
        exact ⟨(z0, z1, z2), by simpa using q0, by simpa using q1, by simpa using q2⟩
    obtain ⟨f, hf⟩ := choose_lt each
    have hsl : ((List.range len).map f).length = len := by simp
    refine ⟨_, (List.range len).map f, rfl, by rw [stC_len], some a, m, by rw [hsl], by omega, by omega, (fun hh => by cases hh), fun j u hj => ?_⟩
    have hjl : j < len * 3 := by
      obtain ⟨hh, _⟩ := List.getElem?_eq_some_iff.1 hj
      rw [stC_len, hsl] at hh
      exact hh
    have hg := stC_get ((List.range len).map f) (j / 3) (by rw [hsl]; omega)
    obtain ⟨e0, e1, e2⟩ := hf (j / 3) (by omega)
    obtain ⟨b, o, spot⟩ := a
    have hspot := spot_none (by have := (hf 0 (by omega)).1; simpa using this)
    subst hspot
    refine ⟨b, o, rfl, ?_⟩
    have hm3 : j % 3 = 0 ∨ j % 3 = 1 ∨ j % 3 = 2 := by omega
    rcases hm3 with hm0 | hm1 | hm2
    · have : j = j / 3 * 3 := by omega
      rw [this, hg.1] at hj
      simp at hj
      rw [this, ← hj]
      exact cell_add e0
    · have : j = j / 3 * 3 + 1 := by omega
      rw [this, hg.2.1] at hj
      simp at hj
      rw [this, ← hj]
      exact cell_add e1
    · have : j = j / 3 * 3 + 2 := by omega
      rw [this, hg.2.2] at hj
      simp at hj
      rw [this, ← hj]
      exact cell_add e2
end
end Go.Proofs.YtlbjbmpkaniojaaGreat
