/-
  WHAT IT HOLDS: how entries of a library lie: names, lists of names, entries, libraries; how they are read and kept. No program in sight.
  WHAT IT HOLDS: plain words on libraries: what a name is, a valid entry, a valid library; the index of a name. No program in sight.
  WHAT IT HOLDS: contracts of Name of package deps and of its reference. No condition but that a string is one that Go can hold.
-/
import Derived.Test.YtalodmochkodiaaGreatZRTopCarried12
import Derived.Test.YtalodmochkodiaaGreatZRTopCarried1
namespace Go.Proofs.YtalodmochkodiaaGreat
open Go Go.RowKit
abbrev Nm := ByteArray
/-- a slice of strings. -/
def TxtsAt (w : World) (v : Value) (l : List Nm) : Prop := RowK w v 1 l.length (l.map Value.string) ∧ ∀ x ∈ l, x.size ≤ 140737488355328
theorem TxtsAt.below {w w' : World} {v : Value} {l : List Nm} (h : TxtsAt w v l) (hb : Below w.heap.size w w') : TxtsAt w' v l := ⟨h.1.below hb, h.2⟩
theorem TxtsAt.open {w : World} {v : Value} {l : List Nm} (h : TxtsAt w v l) :
    ∃ a cap, v = .slice a l.length cap ∧ l.length ≤ cap ∧ l.length ≤ 140737488355328 ∧ (a = none → cap = 0) ∧
      ∀ j (h : j < l.length), ∃ b o, a = some ⟨b, o, none⟩ ∧ w.cell? ⟨b, o + j, none⟩ = some (.string l[j]) := by
  obtain ⟨⟨_, a, cap, h2, h3, h4, h5, h6⟩, -⟩ := h
  exact ⟨a, cap, h2, h3, h4, h5, fun j hj => h6 j _ (by simp [hj])⟩
theorem TxtsAt.of_owns {w : World} {base : Nat} {e : TypeId} {v : Value} {l : List Nm} (h : w.ownsRow base e 1 v l.length (l.map Value.string)) (hn : l.length ≤ 140737488355328) (hs : ∀ x ∈ l, x.size ≤ 140737488355328) : TxtsAt w v l := ⟨RowK.of_owns h hn, hs⟩
theorem TxtsAt.nil (w : World) : TxtsAt w (.slice none 0 0) [] := ⟨⟨rfl, none, 0, rfl, Nat.le_refl _, by simp, fun _ => rfl, fun j u hj => by simp at hj⟩, by simp⟩
/-- an entry: its name, by whom it is, what it says, what it uses, its proof. -/
structure En where
  name : Nm
  who : Nm
  says : List Int
  uses : List Nm
  proof : List St
deriving DecidableEq
/-- the five cells of an entry. -/
structure EntAt (w : World) (vs vu vp : Value) (x : En) : Prop where
  s : Ints w vs x.says
  u : TxtsAt w vu x.uses
  p : StepsAt w vp x.proof
  n1 : x.name.size ≤ 140737488355328
  n2 : x.who.size ≤ 140737488355328
theorem EntAt.below {w w' : World} {vs vu vp : Value} {x : En} (h : EntAt w vs vu vp x) (hb : Below w.heap.size w w') : EntAt w' vs vu vp x := ⟨h.s.below hb, h.u.below hb, h.p.below hb, h.n1, h.n2⟩
/-- an entry as a value. -/
def EnV (w : World) (v : Value) (x : En) : Prop := ∃ vs vu vp, v = .agg #[.string x.name, .string x.who, vs, vu, vp] ∧ EntAt w vs vu vp x
theorem EnV.below {w w' : World} {v : Value} {x : En} (h : EnV w v x) (hb : Below w.heap.size w w') : EnV w' v x := by
  obtain ⟨vs, vu, vp, h1, h2⟩ := h; exact ⟨vs, vu, vp, h1, h2.below hb⟩
/-- the slices of an entry. -/
abbrev V3 := Value × Value × Value
def enC (x : En) (v : V3) : List Value := [.string x.name, .string x.who, v.1, v.2.1, v.2.2]
def ensC : List En → List V3 → List Value
  | x :: l, v :: vs => enC x v ++ ensC l vs
  | _, _ => []
theorem ensC_len : ∀ (l : List En) (vs : List V3), vs.length = l.length → (ensC l vs).length = l.length * 5
  | [], [], _ => rfl
  | [], _ :: _, h => by simp at h
  | _ :: _, [], h => by simp at h
  | x :: l, v :: vs, h => by
    have := ensC_len l vs (by simpa using h)
    simp [ensC, enC, this]; omega
theorem ensC_get : ∀ (l : List En) (vs : List V3) (_ : vs.length = l.length) (j : Nat) (h : j < l.length) (h' : j < vs.length), (ensC l vs)[j * 5]? = some (.string l[j].name) ∧ (ensC l vs)[j * 5 + 1]? = some (.string l[j].who) ∧ (ensC l vs)[j * 5 + 2]? = some vs[j].1 ∧ (ensC l vs)[j * 5 + 3]? = some vs[j].2.1 ∧ (ensC l vs)[j * 5 + 4]? = some vs[j].2.2
  | [], _, _, j, h, _ => by simp at h
  | _ :: _, [], e, _, _, _ => by simp at e
  | x :: l, v :: vs, e, 0, _, _ => by simp [ensC, enC]
  | x :: l, v :: vs, e, j + 1, h, h' => by
    have := ensC_get l vs (by simpa using e) j (by simpa using h) (by simpa using h')
    simpa [ensC, enC, Nat.add_mul, Nat.add_assoc] using this
theorem ensC_append : ∀ (l m : List En) (vs us : List V3), vs.length = l.length → ensC (l ++ m) (vs ++ us) = ensC l vs ++ ensC m us
  | [], m, [], us, _ => rfl
  | [], _, _ :: _, _, h => by simp at h
  | _ :: _, _, [], _, h => by simp at h
  | x :: l, m, v :: vs, us, h => by simp [ensC, ensC_append l m vs us (by simpa using h)]
/-- a library in memory: l, the slices of its entries vs. -/
def EntsV (w : World) (v : Value) (vs : List V3) (l : List En) : Prop := RowK w v 5 l.length (ensC l vs) ∧ vs.length = l.length ∧ ∀ (j : Nat) (h : j < l.length) (h' : j < vs.length), EntAt w vs[j].1 vs[j].2.1 vs[j].2.2 l[j]
def EntsAt (w : World) (v : Value) (l : List En) : Prop := ∃ vs, EntsV w v vs l
theorem EntsV.below {w w' : World} {v : Value} {vs : List V3} {l : List En} (h : EntsV w v vs l) (hb : Below w.heap.size w w') : EntsV w' v vs l := ⟨h.1.below hb, h.2.1, fun j h1 h2 => (h.2.2 j h1 h2).below hb⟩
theorem EntsAt.below {w w' : World} {v : Value} {l : List En} (h : EntsAt w v l) (hb : Below w.heap.size w w') : EntsAt w' v l := by
  obtain ⟨vs, h⟩ := h; exact ⟨vs, h.below hb⟩
theorem EntsAt.open {w : World} {v : Value} {l : List En} (h : EntsAt w v l) :
    ∃ a cap, v = .slice a l.length cap ∧ l.length ≤ cap ∧ l.length ≤ 140737488355328 ∧ (a = none → cap = 0) ∧
      ∀ j (h : j < l.length), ∃ b o vs vu vp, a = some ⟨b, o, none⟩ ∧ w.cell? ⟨b, o + j * 5, none⟩ = some (.string l[j].name) ∧ w.cell? ⟨b, o + j * 5 + 1, none⟩ = some (.string l[j].who) ∧ w.cell? ⟨b, o + j * 5 + 2, none⟩ = some vs ∧ w.cell? ⟨b, o + j * 5 + 3, none⟩ = some vu ∧ w.cell? ⟨b, o + j * 5 + 4, none⟩ = some vp ∧ EntAt w vs vu vp l[j] := by
  obtain ⟨vs, ⟨_, a, cap, h2, h3, h4, h5, h6⟩, hl, he⟩ := h
  refine ⟨a, cap, h2, h3, h4, h5, fun j hj => ?_⟩
  obtain ⟨g0, g1, g2, g3, g4⟩ := ensC_get l vs hl j hj (by omega)
  obtain ⟨b, o, e0, q0⟩ := h6 _ _ g0
  obtain ⟨b1, o1, e1, q1⟩ := h6 _ _ g1
  obtain ⟨b2, o2, e2, q2⟩ := h6 _ _ g2
  obtain ⟨b3, o3, e3, q3⟩ := h6 _ _ g3
  obtain ⟨b4, o4, e4, q4⟩ := h6 _ _ g4
  rw [e0] at e1 e2 e3 e4
  cases e1; cases e2; cases e3; cases e4
  have hjv : j < vs.length := by omega
  exact ⟨b, o, vs[j].1, vs[j].2.1, vs[j].2.2, e0, q0, by rw [Nat.add_assoc]; exact q1, by rw [Nat.add_assoc]; exact q2, by rw [Nat.add_assoc]; exact q3, by rw [Nat.add_assoc]; exact q4, he j hj (by omega)⟩
/-- the first entries of a library. -/
theorem EntsV.take {w : World} {a : Option Addr} {n cap : Nat} {vs : List V3} {l : List En} (h : EntsV w (.slice a n cap) vs l) (k : Nat) (hk : k ≤ l.length) : EntsV w (.slice a k cap) (vs.take k) (l.take k) := by
  obtain ⟨⟨h1, a', cap', h2, h3, h4, h5, h6⟩, hl, he⟩ := h
  simp only [Value.slice.injEq] at h2
  obtain ⟨rfl, rfl, rfl⟩ := h2
  have hlk : (l.take k).length = k := by rw [List.length_take]; omega
  have hvk : (vs.take k).length = k := by rw [List.length_take]; omega
  refine ⟨⟨ensC_len _ _ (by rw [hlk, hvk]), a, cap, by rw [hlk], by omega, by omega, h5, fun j u hj => ?_⟩, by rw [hlk, hvk], fun j g g' => ?_⟩
  · have e : ensC l vs = ensC (l.take k) (vs.take k) ++ ensC (l.drop k) (vs.drop k) := by
      rw [← ensC_append _ _ _ _ (by rw [hlk, hvk]), List.take_append_drop, List.take_append_drop]
    refine h6 j u ?_
    rw [e, List.getElem?_append_left (List.getElem?_eq_some_iff.1 hj).1]
    exact hj
  · simp only [List.getElem_take]
    exact he j (by omega) (by omega)
theorem EntsAt.take {w : World} {a : Option Addr} {n cap : Nat} {l : List En} (h : EntsAt w (.slice a n cap) l) (k : Nat) (hk : k ≤ l.length) : EntsAt w (.slice a k cap) (l.take k) := by
  obtain ⟨vs, h⟩ := h
  exact ⟨_, h.take k hk⟩
theorem EntsAt.nil (w : World) : EntsAt w (.slice none 0 0) [] := ⟨[], ⟨rfl, none, 0, rfl, Nat.le_refl _, by simp, fun _ => rfl, fun j u hj => by simp [ensC] at hj⟩, rfl, fun j h => by simp at h⟩
end Go.Proofs.YtalodmochkodiaaGreat
namespace Go.Proofs.YtalodmochkodiaaGreat
open Go Go.RowKit
def loB (c : UInt8) : Bool := decide (97 ≤ c.toNat) && decide (c.toNat ≤ 122)
def otherB (c : UInt8) : Bool := decide (c.toNat = 95) || (decide (48 ≤ c.toNat) && decide (c.toNat ≤ 57))
/-- whether a byte may stand at a place of a name. -/
def nchB (s : Nm) (i : Nat) : Bool := loB (s.get! i) || (decide (i ≠ 0) && otherB (s.get! i))
def nmB (s : Nm) : Bool := (List.range s.size).all (nchB s) && (decide (1 ≤ s.size) && decide (s.size ≤ 16))
theorem get!_eq {s : Nm} {i : Nat} (h : i < s.size) : s.get! i = s[i]'h := by simp [ByteArray.get!, ByteArray.getElem_eq_getElem_data, h]
theorem nmB_no {s : Nm} {i : Nat} (h : i < s.size) (hc : nchB s i = false) : nmB s = false := by
  unfold nmB
  have : (List.range s.size).all (nchB s) = false := by
    rw [List.all_eq_false]
    exact ⟨i, List.mem_range.2 h, by simp [hc]⟩
  rw [this, Bool.false_and]
theorem nmB_all {s : Nm} (h : ∀ i, i < s.size → nchB s i = true) : nmB s = (decide (1 ≤ s.size) && decide (s.size ≤ 16)) := by
  unfold nmB
  have : (List.range s.size).all (nchB s) = true := by
    rw [List.all_eq_true]
    intro i hi
    exact h i (List.mem_range.1 hi)
  rw [this, Bool.true_and]
def canB (s : Sg) (t : List Int) : Bool := termB s t && decide (canonL t = t)
def entryB (s : Sg) (x : En) : Bool :=
  nmB x.name && (nmB x.who && (canB s x.says && (decide (x.uses.length ≤ 12) && (decide x.uses.Nodup && (x.uses.all nmB && (if x.proof.length = 0 then decide (x.uses.length = 0) else proofB x.uses.length x.proof))))))
structure EnOK (s : Sg) (x : En) : Prop where
  name : nmB x.name = true
  who : nmB x.who = true
  says : termB s x.says = true
  can : canonL x.says = x.says
  len : x.uses.length ≤ 12
  nd : x.uses.Nodup
  uses : ∀ u ∈ x.uses, nmB u = true
  ax : x.proof.length = 0 → x.uses.length = 0
  proof : x.proof.length ≠ 0 → proofB x.uses.length x.proof = true
theorem entryB_iff {s : Sg} {x : En} : entryB s x = true ↔ EnOK s x := by
  unfold entryB canB
  simp only [Bool.and_eq_true, decide_eq_true_eq, List.all_eq_true]
  constructor
  · rintro ⟨h1, h2, ⟨h3, h4⟩, h5, h6, h7, h8⟩
    refine ⟨h1, h2, h3, h4, h5, h6, h7, fun h0 => ?_, fun h0 => ?_⟩
    · rw [if_pos h0] at h8; simpa using h8
    · rw [if_neg h0] at h8; exact h8
  · intro h
    refine ⟨h.name, h.who, ⟨h.says, h.can⟩, h.len, h.nd, h.uses, ?_⟩
    by_cases h0 : x.proof.length = 0
    · rw [if_pos h0]; simpa using h.ax h0
    · rw [if_neg h0]; exact h.proof h0
/-- a valid library. -/
def libB (s : Sg) (l : List En) : Bool := signB s && (decide (l.length ≤ 60) && (l.all (entryB s) && decide (l.map En.name).Nodup))
structure LibOK (s : Sg) (l : List En) : Prop where
  sign : signB s = true
  len : l.length ≤ 60
  ents : ∀ x ∈ l, EnOK s x
  nd : (l.map En.name).Nodup
theorem libB_iff {s : Sg} {l : List En} : libB s l = true ↔ LibOK s l := by
  unfold libB
  simp only [Bool.and_eq_true, decide_eq_true_eq, List.all_eq_true]
  constructor
  · rintro ⟨h1, h2, h3, h4⟩
    exact ⟨h1, h2, fun x hx => entryB_iff.1 (h3 x hx), h4⟩
  · intro h
    exact ⟨h.sign, h.len, fun x hx => entryB_iff.2 (h.ents x hx), h.nd⟩
theorem libB_no {s : Sg} {l : List En} {x : En} (hx : x ∈ l) (h : entryB s x = false) : libB s l = false := by
  rw [Bool.eq_false_iff]
  intro hh
  have := entryB_iff.2 ((libB_iff.1 hh).ents x hx)
  rw [h] at this; cases this
/-- the index of a name, or none. -/
def idxN (l : List En) (n : Nm) : Option Nat := (l.map En.name).findIdx? (fun x => decide (x = n))
/-- the index of a name, or -1. -/
def idxI (l : List En) (n : Nm) : Int := match idxN l n with | some i => (i : Int) | none => -1
theorem idxN_some {l : List En} {n : Nm} {i : Nat} (h : idxN l n = some i) : ∃ hi : i < l.length, l[i].name = n := by
  unfold idxN at h
  obtain ⟨h1, h2, -⟩ := List.findIdx?_eq_some_iff_getElem.1 h
  refine ⟨by simpa using h1, by simpa using h2⟩
theorem idxN_none {l : List En} {n : Nm} (h : idxN l n = none) : ∀ x ∈ l, x.name ≠ n := by
  unfold idxN at h
  rw [List.findIdx?_eq_none_iff] at h
  intro x hx e
  have := h x.name (List.mem_map.2 ⟨x, hx, rfl⟩)
  rw [e] at this
  simp at this
theorem idxN_at {l : List En} {i : Nat} (hi : i < l.length) (h : ∀ j (hj : j < i), (l[j]'(by omega)).name ≠ l[i].name) : idxN l l[i].name = some i := by
  unfold idxN
  rw [List.findIdx?_eq_some_iff_getElem]
  refine ⟨by simpa using hi, by simp, fun j hj => ?_⟩
  have := h j hj
  simpa using this
theorem idxN_nd {l : List En} (h : (l.map En.name).Nodup) {i : Nat} (hi : i < l.length) : idxN l l[i].name = some i := by
  refine idxN_at hi fun j hj e => ?_
  have := List.pairwise_iff_getElem.1 h j i (by simp; omega) (by simpa using hi) hj
  exact this (by simpa using e)
end Go.Proofs.YtalodmochkodiaaGreat
namespace Go.Proofs.YtalodmochkodiaaGreat
open Go Go.RowKit
set_option maxHeartbeats 1000000 in
theorem deps_Name (s : Nm) (w : World) (hs : s.size ≤ 140737488355328) :
    Calls Tryz.prog 100 #[.string s] w fun e w' => e = .returned (.bool (nmB s)) ∧ w = w' := by
  go_enter Tryz.func100, Tryz.ntmps100
  go_wp2
  go_loop [7] (fun i => ∃ k : Nat, k ≤ s.size ∧ i = .int .i64 k ∧ ∀ j, j < k → nchB s j = true) (fun i => s.size - (intOf i).toNat)
  case atStart => exact ⟨0, Nat.zero_le _, rfl, fun j hj => by omega⟩
  case round =>
    obtain ⟨k, hk, rfl, hall⟩ := hrel
    have HALL := hid hall
    clear hall
    by_cases hlt : k < s.size
    · have HNO := hid (fun h => nmB_no (s := s) hlt h)
      have HC : Hid (nchB s k = (decide (97 ≤ (s[k]'hlt).toNat) && decide ((s[k]'hlt).toNat ≤ 122) || (decide (k ≠ 0) && (decide ((s[k]'hlt).toNat = 95) || (decide (48 ≤ (s[k]'hlt).toNat) && decide ((s[k]'hlt).toNat ≤ 57)))))) := hid (by unfold nchB loB otherB; rw [get!_eq hlt])
      have HST : Hid (nchB s k = true → ∀ j, j < k + 1 → nchB s j = true) := hid (fun h j hj => by
        by_cases e : j = k
        · rw [e]; exact h
        · exact HALL.out j (by omega))
      clear HALL
      by_cases h1 : 97 ≤ (s[k]'hlt).toNat ∧ (s[k]'hlt).toNat ≤ 122
      · obtain ⟨h2, h3⟩ := h1
        have HT := hid (HST.out (by rw [HC.out]; simp [h2, h3]))
        go_wp2
        go_round
        case rel => exact ⟨k + 1, by omega, by go_num, HT.out⟩
        case measure => simp [intOf]; omega
      · by_cases h2 : (s[k]'hlt).toNat < 97
        · by_cases h0 : k = 0
          · subst h0
            have HF := hid (HNO.out (by rw [HC.out]; simp; omega))
            go_wp2
            go_ret
            exact ⟨ret_bool HF.out.symm, rfl⟩
          · have qk : ((k : Int) == 0) = false := by simp; omega
            by_cases h3 : (s[k]'hlt).toNat = 95
            · have HT := hid (HST.out (by rw [HC.out]; simp; omega))
              go_wp2
              go_round
              case rel => exact ⟨k + 1, by omega, by go_num, HT.out⟩
              case measure => simp [intOf]; omega
            · have q95 : (((s[k]'hlt).toNat : Int) != 95) = true := by simp; omega
              by_cases h4 : (s[k]'hlt).toNat < 48
              · have HF := hid (HNO.out (by rw [HC.out]; simp; omega))
                go_wp2
                go_ret
                exact ⟨ret_bool HF.out.symm, rfl⟩
              · by_cases h5 : 57 < (s[k]'hlt).toNat
                · have HF := hid (HNO.out (by rw [HC.out]; simp; omega))
                  go_wp2
                  go_ret
                  exact ⟨ret_bool HF.out.symm, rfl⟩
                · have HT := hid (HST.out (by rw [HC.out]; simp; omega))
                  go_wp2
                  go_round
                  case rel => exact ⟨k + 1, by omega, by go_num, HT.out⟩
                  case measure => simp [intOf]; omega
        · have h3 : 122 < (s[k]'hlt).toNat := by omega
          have q95 : (((s[k]'hlt).toNat : Int) != 95) = true := by simp; omega
          by_cases h0 : k = 0
          · subst h0
            have HF := hid (HNO.out (by rw [HC.out]; simp; omega))
            go_wp2
            go_ret
            exact ⟨ret_bool HF.out.symm, rfl⟩
          · have qk : ((k : Int) == 0) = false := by simp; omega
            have HF := hid (HNO.out (by rw [HC.out]; simp; omega))
            go_wp2
            go_ret
            exact ⟨ret_bool HF.out.symm, rfl⟩
    · have HF := hid (nmB_all (s := s) fun j hj => HALL.out j (by omega))
      clear HALL
      by_cases g1 : 1 ≤ s.size
      · by_cases g2 : s.size ≤ 16
        · go_wp2
          go_ret
          exact ⟨ret_bool (by rw [HF.out]; simp [g1, g2]; omega), rfl⟩
        · go_wp2
          go_ret
          exact ⟨ret_bool (by rw [HF.out]; simp [g2]; omega), rfl⟩
      · go_wp2
        go_ret
        exact ⟨ret_bool (by rw [HF.out]; simp [g1]), rfl⟩
set_option maxHeartbeats 2000000 in
theorem ref6_Name (s : Nm) (w : World) (hs : s.size ≤ 140737488355328) :
    Calls Tryz.prog 77 #[.string s] w fun e w' => e = .returned (.bool (nmB s)) ∧ w = w' := by
  go_enter Tryz.func77, Tryz.ntmps77
  go_wp2
  go_loop [3] (fun i => ∃ k : Nat, k ≤ s.size ∧ i = .int .i64 k ∧ ∀ j, j < k → nchB s j = true) (fun i => s.size - (intOf i).toNat)
  case atStart => exact ⟨0, Nat.zero_le _, rfl, fun j hj => by omega⟩
  case round =>
    obtain ⟨k, hk, rfl, hall⟩ := hrel
    have HALL := hid hall
    clear hall
    by_cases hlt : k < s.size
    · have HNO := hid (fun h => nmB_no (s := s) hlt h)
      have HC : Hid (nchB s k = (decide (97 ≤ (s[k]'hlt).toNat) && decide ((s[k]'hlt).toNat ≤ 122) || (decide (k ≠ 0) && (decide ((s[k]'hlt).toNat = 95) || (decide (48 ≤ (s[k]'hlt).toNat) && decide ((s[k]'hlt).toNat ≤ 57)))))) := hid (by unfold nchB loB otherB; rw [get!_eq hlt])
      have HST : Hid (nchB s k = true → ∀ j, j < k + 1 → nchB s j = true) := hid (fun h j hj => by
        by_cases e : j = k
        · rw [e]; exact h
        · exact HALL.out j (by omega))
      clear HALL
      by_cases g0 : (s[k]'hlt).toNat < 48
      · have y1 : ¬ ((97 : Int) ≤ ((s[k]'hlt).toNat : Int)) := by omega
        have y2 : (((s[k]'hlt).toNat : Int) ≤ 122) := by omega
        have y3 : ¬ ((48 : Int) ≤ ((s[k]'hlt).toNat : Int)) := by omega
        have y4 : (((s[k]'hlt).toNat : Int) ≤ 57) := by omega
        have qz : (((s[k]'hlt).toNat : Int) == 95) = false := by simp; omega
        by_cases h0 : k = 0
        · subst h0
          have HF := hid (HNO.out (by rw [HC.out]; simp; omega))
          go_wp2
          go_ret
          exact ⟨ret_bool HF.out.symm, rfl⟩
        · have qk : ((k : Int) == 0) = false := by simp; omega
          have HF := hid (HNO.out (by rw [HC.out]; simp; omega))
          go_wp2
          go_ret
          exact ⟨ret_bool HF.out.symm, rfl⟩
      · skip
        by_cases g1 : (s[k]'hlt).toNat < 58
        · have y1 : ¬ ((97 : Int) ≤ ((s[k]'hlt).toNat : Int)) := by omega
          have y2 : (((s[k]'hlt).toNat : Int) ≤ 122) := by omega
          have y3 : ((48 : Int) ≤ ((s[k]'hlt).toNat : Int)) := by omega
          have y4 : (((s[k]'hlt).toNat : Int) ≤ 57) := by omega
          have qz : (((s[k]'hlt).toNat : Int) == 95) = false := by simp; omega
          by_cases h0 : k = 0
          · subst h0
            have HF := hid (HNO.out (by rw [HC.out]; simp; omega))
            go_wp2
            go_ret
            exact ⟨ret_bool HF.out.symm, rfl⟩
          · have qk : ((k : Int) == 0) = false := by simp; omega
            have HT := hid (HST.out (by rw [HC.out]; simp; omega))
            go_wp2
            go_round
            case rel => exact ⟨k + 1, by omega, by go_num, HT.out⟩
            case measure => simp [intOf]; omega
        · skip
          by_cases g2 : (s[k]'hlt).toNat < 95
          · have y1 : ¬ ((97 : Int) ≤ ((s[k]'hlt).toNat : Int)) := by omega
            have y2 : (((s[k]'hlt).toNat : Int) ≤ 122) := by omega
            have y3 : ((48 : Int) ≤ ((s[k]'hlt).toNat : Int)) := by omega
            have y4 : ¬ (((s[k]'hlt).toNat : Int) ≤ 57) := by omega
            have qz : (((s[k]'hlt).toNat : Int) == 95) = false := by simp; omega
            by_cases h0 : k = 0
            · subst h0
              have HF := hid (HNO.out (by rw [HC.out]; simp; omega))
              go_wp2
              go_ret
              exact ⟨ret_bool HF.out.symm, rfl⟩
            · have qk : ((k : Int) == 0) = false := by simp; omega
              have HF := hid (HNO.out (by rw [HC.out]; simp; omega))
              go_wp2
              go_ret
              exact ⟨ret_bool HF.out.symm, rfl⟩
          · skip
            by_cases g3 : (s[k]'hlt).toNat < 96
            · have y1 : ¬ ((97 : Int) ≤ ((s[k]'hlt).toNat : Int)) := by omega
              have y2 : (((s[k]'hlt).toNat : Int) ≤ 122) := by omega
              have y3 : ((48 : Int) ≤ ((s[k]'hlt).toNat : Int)) := by omega
              have y4 : ¬ (((s[k]'hlt).toNat : Int) ≤ 57) := by omega
              have qz : (((s[k]'hlt).toNat : Int) == 95) = true := by simp; omega
              by_cases h0 : k = 0
              · subst h0
                have HF := hid (HNO.out (by rw [HC.out]; simp; omega))
                go_wp2
                go_ret
                exact ⟨ret_bool HF.out.symm, rfl⟩
              · have qk : ((k : Int) == 0) = false := by simp; omega
                have HT := hid (HST.out (by rw [HC.out]; simp; omega))
                go_wp2
                go_round
                case rel => exact ⟨k + 1, by omega, by go_num, HT.out⟩
                case measure => simp [intOf]; omega
            · skip
              by_cases g4 : (s[k]'hlt).toNat < 97
              · have y1 : ¬ ((97 : Int) ≤ ((s[k]'hlt).toNat : Int)) := by omega
                have y2 : (((s[k]'hlt).toNat : Int) ≤ 122) := by omega
                have y3 : ((48 : Int) ≤ ((s[k]'hlt).toNat : Int)) := by omega
                have y4 : ¬ (((s[k]'hlt).toNat : Int) ≤ 57) := by omega
                have qz : (((s[k]'hlt).toNat : Int) == 95) = false := by simp; omega
                by_cases h0 : k = 0
                · subst h0
                  have HF := hid (HNO.out (by rw [HC.out]; simp; omega))
                  go_wp2
                  go_ret
                  exact ⟨ret_bool HF.out.symm, rfl⟩
                · have qk : ((k : Int) == 0) = false := by simp; omega
                  have HF := hid (HNO.out (by rw [HC.out]; simp; omega))
                  go_wp2
                  go_ret
                  exact ⟨ret_bool HF.out.symm, rfl⟩
              · skip
                by_cases g5 : (s[k]'hlt).toNat < 123
                · have y1 : ((97 : Int) ≤ ((s[k]'hlt).toNat : Int)) := by omega
                  have y2 : (((s[k]'hlt).toNat : Int) ≤ 122) := by omega
                  have y3 : ((48 : Int) ≤ ((s[k]'hlt).toNat : Int)) := by omega
                  have y4 : ¬ (((s[k]'hlt).toNat : Int) ≤ 57) := by omega
                  have qz : (((s[k]'hlt).toNat : Int) == 95) = false := by simp; omega
                  have HT := hid (HST.out (by rw [HC.out]; simp; omega))
                  go_wp2
                  go_round
                  case rel => exact ⟨k + 1, by omega, by go_num, HT.out⟩
                  case measure => simp [intOf]; omega
                · skip
                  have y1 : ((97 : Int) ≤ ((s[k]'hlt).toNat : Int)) := by omega
                  have y2 : ¬ (((s[k]'hlt).toNat : Int) ≤ 122) := by omega
                  have y3 : ((48 : Int) ≤ ((s[k]'hlt).toNat : Int)) := by omega
                  have y4 : ¬ (((s[k]'hlt).toNat : Int) ≤ 57) := by omega
                  have qz : (((s[k]'hlt).toNat : Int) == 95) = false := by simp; omega
                  by_cases h0 : k = 0
                  · subst h0
                    have HF := hid (HNO.out (by rw [HC.out]; simp; omega))
                    go_wp2
                    go_ret
                    exact ⟨ret_bool HF.out.symm, rfl⟩
                  · have qk : ((k : Int) == 0) = false := by simp; omega
                    have HF := hid (HNO.out (by rw [HC.out]; simp; omega))
                    go_wp2
                    go_ret
                    exact ⟨ret_bool HF.out.symm, rfl⟩
    · have HF := hid (nmB_all (s := s) fun j hj => HALL.out j (by omega))
      clear HALL
      by_cases g1 : 1 ≤ s.size
      · by_cases g2 : s.size ≤ 16
        · go_wp2
          go_ret
          exact ⟨ret_bool (by rw [HF.out]; simp [g1, g2]; omega), rfl⟩
        · go_wp2
          go_ret
          exact ⟨ret_bool (by rw [HF.out]; simp [g2]; omega), rfl⟩
      · go_wp2
        go_ret
        exact ⟨ret_bool (by rw [HF.out]; simp [g1]), rfl⟩
end Go.Proofs.YtalodmochkodiaaGreat
