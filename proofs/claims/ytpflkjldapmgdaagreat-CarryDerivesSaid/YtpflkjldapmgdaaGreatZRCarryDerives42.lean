/-
  WHAT IT HOLDS: contract of slices.CompactFunc at []api.Term, of a slice of the call's own. Conditions: the elements read as terms, in blocks other than the slice's own; the function value says whether two terms are equal.
  WHAT IT HOLDS: contracts of Sorted of package find and of package lemmaryref05, and of Compare and With of package lemmaryref01. Conditions: the arguments read as data; small shelves and signs.
  WHAT IT HOLDS: contracts of Compare and With of package lemmaryref01 and of Sorted of package lemmaryref05. Conditions: the arguments read as data; small shelves.
-/
import Derived.IntWalk
import Derived.Test.YtpflkjldapmgdaaGreatZRCarryDerives21
import Derived.Test.YtpflkjldapmgdaaGreatZRCarryDerives2
import Derived.Test.YtpflkjldapmgdaaGreatZRCarryDerives41
import Derived.Test.YtpflkjldapmgdaaGreatZRCarryDerives5
namespace Go.Proofs.YtpflkjldapmgdaaGreat
open Go Go.RowKit Go.Maps
theorem Elts.set {g : Nat} {vs : List Value} {gs : List (List Int)} {w : World} (h : Elts g vs gs w) {i j : Nat} {v : Value} {q : List Int} (hv : vs[j]? = some v) (hq : gs[j]? = some q) : Elts g (vs.set i v) (gs.set i q) w := by
  refine ⟨by rw [List.length_set, List.length_set, h.1], fun k v' q' h1 h2 => ?_⟩
  by_cases e : i = k
  · subst e
    have hi : i < vs.length := by have := (List.getElem?_eq_some_iff.1 h1).1; rwa [List.length_set] at this
    have hi' : i < gs.length := by rw [← h.1]; exact hi
    rw [List.getElem?_set_self hi] at h1
    rw [List.getElem?_set_self hi'] at h2
    cases h1; cases h2
    exact h.2 j v q hv hq
  · rw [List.getElem?_set_ne e] at h1 h2
    exact h.2 k v' q' h1 h2
def CptPost (g : Nat) (gs : List (List Int)) (w : World) (e : Ending) (w' : World) : Prop := ∃ u', e = .returned u' ∧ Terms w' u' (compL gs) ∧ Kb (fun k => k = g) w w'
theorem kb_setCells {A : World} {g : Nat} : ∀ (vs : List Value) (o : Nat), Kb (fun k => k = g) A (A.setCells g o vs)
  | [], _ => Kb.refl _ _
  | v :: r, o => by
    have h1 : Kb (fun k => k = g) A (A.setCell ⟨g, o, none⟩ v) := Kb.setCell (M := fun k => k = g) v rfl
    exact h1.trans (kb_setCells r (o + 1)) (fun _ h => Or.inl h)
set_option maxHeartbeats 4000000 in
set_option maxRecDepth 100000 in
theorem compact_terms (fg : Nat) (lb : Array Value) (eg : ∀ args w, (callFunc fg args).run Tryz.prog w = .ok (.enter fg args) w) (base g n c : Nat) (vs : List Value) (gs : List (List Int)) (w : World) (hn1 : n ≤ 100000) (hgl : gs.length = n)
    (hown : w.ownsRow base 28 1 (.slice (some ⟨g, 0, none⟩) n c) n vs) (hel : Elts g vs gs w)
    (hp : ∀ (X : World) (v v' : Value) (q q' : List Int), Kb (fun k => k = g) w X → Ints X v q → Ints X v' q' → Calls Tryz.prog fg (#[v, v'] ++ lb) X fun e w' => e = .returned (.bool (decide (q = q'))) ∧ ∃ m, w' = X.drewN m) :
    Calls Tryz.prog 100 #[.slice (some ⟨g, 0, none⟩) n c, .func (.func fg) #[] lb] w (CptPost g gs w) := by
  have hvl : vs.length = n := by rw [hel.1, hgl]
  have HOWN := hid hown
  have HEL := hid hel
  have HP := hid hp
  have HGL := hid hgl
  have hnc : n ≤ c := by
    rcases hown.2 with ⟨z1, z2⟩ | ⟨g', c'', cur, z1, z2, z3, z4, _⟩
    · simp at z1
    · simp only [Value.slice.injEq] at z1; omega
  have hgw : g < w.heap.size := (hown.lt g rfl).2
  have HZ : Hid (∀ w, (zeroValue 28).run Tryz.prog w = .ok (.slice none 0 0) w) := hid (fun w => by kernel_rfl)
  clear hown hel hp
  have fin : ∀ (X : World) (ys : List Value) (zs : List (List Int)) (k : Nat), X.ownsRow base 28 1 (.slice (some ⟨g, 0, none⟩) n c) n ys → Elts g ys zs X → k ≤ n → zs.length = n → ∀ X', Kb (fun k => k = g) X X' → (∀ t, t < k → X'.cell? ⟨g, t, none⟩ = X.cell? ⟨g, t, none⟩) → Terms X' (.slice (some ⟨g, 0, none⟩) k c) (zs.take k) := by
    intro X ys zs k ho he hk hz X' hk' hc
    have hyl : ys.length = n := by rw [he.1, hz]
    have hl : (ys.take k).length = k := by rw [List.length_take]; omega
    have hl2 : (zs.take k).length = k := by rw [List.length_take]; omega
    refine ⟨ys.take k, ?_, by rw [hl, hl2], fun i v q h1 h2 => ?_⟩
    · unfold Vals
      rw [hl]
      refine ⟨by rw [hl]; omega, _, _, rfl, by omega, by omega, (fun h => by cases h), fun t v ht => ⟨g, 0, rfl, ?_⟩⟩
      have hti : t < k := by have := (List.getElem?_eq_some_iff.1 ht).1; omega
      rw [List.getElem?_take, if_pos hti] at ht
      rw [Nat.zero_add, hc t hti, ho.cellAt t (by omega)]
      exact ht
    · have hik : i < k := by have := (List.getElem?_eq_some_iff.1 h1).1; omega
      rw [List.getElem?_take, if_pos hik] at h1 h2
      exact (he.2 i v q h1 h2) X' hk'
  have FIN := hid fin
  clear fin
  by_cases h2 : n < 2
  · have hcm : compL gs = gs := by
      match gs, hgl with
      | [], _ => rfl
      | [x], _ => rfl
      | x :: y :: r, h => simp at h; omega
    have HT : Hid (Terms w (.slice (some ⟨g, 0, none⟩) n c) (compL gs)) := hid (by
      have := FIN.out w vs gs n HOWN.out HEL.out (Nat.le_refl _) HGL.out w (Kb.refl _ _) (fun _ _ => rfl)
      rw [hcm]
      rwa [List.take_of_length_le (by omega)] at this)
    clear hcm hgl
    go_enter Tryz.func100, Tryz.ntmps100
    go_wp2
    go_ret
    exact ⟨_, rfl, HT.out, Kb.refl _ _⟩
  · clear hgl
    go_enter Tryz.func100, Tryz.ntmps100
    go_wp2
    go_loopw [5] (fun kv wr => ∃ k m : Nat, 1 ≤ k ∧ k ≤ n ∧ kv = .int .i64 k ∧ wr = w.drewN m ∧ dd none (gs.take k) = gs.take k) (fun kv _ => n - (intOf kv).toNat)
    case atStart => exact ⟨1, 0, by omega, by omega, rfl, rfl, dd_one (by rw [HGL.out]; omega)⟩
    case round =>
      obtain ⟨k, m, hk1, hkn, rfl, hw, hdd⟩ := hrel
      have HW := hid hw
      have HDD := hid hdd
      have hkb : Kb (fun k => k = g) w wr := by rw [hw]; exact Kb.drewN _
      have HKB := hid hkb
      have HOWr := hid (show wr.ownsRow base 28 1 (.slice (some ⟨g, 0, none⟩) n c) n vs by rw [hw]; exact owns_below HOWN.out (below_self_drewN _ _))
      have HELr := hid (HEL.out.turn hkb)
      clear hw hdd hkb
      by_cases hlt : k < n
      · obtain ⟨v, hv⟩ : ∃ v, vs[k]? = some v := ⟨vs[k]'(by omega), List.getElem?_eq_getElem (by omega)⟩
        obtain ⟨v', hv'⟩ : ∃ v, vs[k - 1]? = some v := ⟨vs[k - 1]'(by omega), List.getElem?_eq_getElem (by omega)⟩
        have hgk : k < gs.length := by rw [HGL.out]; exact hlt
        have hq : gs[k]? = some gs[k] := List.getElem?_eq_getElem hgk
        have hq' : gs[k - 1]? = some gs[k - 1] := List.getElem?_eq_getElem (by omega)
        have hc1 := HOWr.out.cellAt k (by omega)
        have hc2 := HOWr.out.cellAt (k - 1) (by omega)
        rw [hv] at hc1
        rw [hv'] at hc2
        have i1 := (HELr.out.2 k v gs[k] hv hq).here
        have i2 := (HELr.out.2 (k - 1) v' gs[k - 1] hv' hq').here
        obtain ⟨va, vc, rfl, -⟩ := i1.open
        obtain ⟨va', vc', rfl, -⟩ := i2.open
        have HC := hid (fun j => HP.out (wr.drewN j) _ _ gs[k] gs[k - 1] (HKB.out.trans (Kb.drewN (M := fun k => k = g) j) (fun _ h => Or.inl h)) (i1.drewN j) (i2.drewN j))
        have hdt := dd_take hgk (by omega)
        have e1 : ((k : Int) - 1) = ((k - 1 : Nat) : Int) := by omega
        have y0 : (0 : Int) ≤ (k : Int) := by omega
        have y1 : (k : Int) < (n : Int) := by omega
        have y2 : (0 : Int) ≤ ((k - 1 : Nat) : Int) := by omega
        have y3 : ((k - 1 : Nat) : Int) < (n : Int) := by omega
        clear hv hv' hq hq' i1 i2
        by_cases heq : gs[k] = gs[k - 1]
        · have HC2 : ∀ j, Hid (Calls Tryz.prog fg (#[.slice va gs[k].length vc, .slice va' gs[k - 1].length vc'] ++ lb) (wr.drewN j) fun e w' => e = .returned (.bool true) ∧ ∃ m, w' = (wr.drewN j).drewN m) := fun j => hid (by have := HC.out j; rwa [decide_eq_true heq] at this)
          rw [if_pos heq.symm, List.append_nil, HDD.out] at hdt
          have HDT := hid hdt
          clear hdt HC heq
          have hwrap : IntKind.i64.wrap ((k : Int) - 1) = ((k - 1 : Nat) : Int) := by rw [IntWalk.i64_in _ (by omega)]; omega
          go_wp2
          go_quiet ((go_at_fn fg; exact Calls.quiet_of (HC2 _).out))
          go_wp2
          have hbq : Kb (fun k => k = g) wr (wr.drewN nq) := Kb.drewN _
          have HK1 := hid (HKB.out.trans hbq (fun _ h => Or.inl h))
          have HO1 := hid (owns_below HOWr.out (below_self_drewN wr nq))
          have HE1 := hid (HELr.out.turn hbq)
          obtain ⟨W1, hW1⟩ : ∃ W1, wr.drewN nq = W1 := ⟨_, rfl⟩
          rw [hW1] at HK1 HO1 HE1
          simp only [hW1]
          clear hW1 hbq hwrap hc1 hc2 HC2 HW HKB HOWr HELr HDD e1
          go_loopw [5, 7] (fun kv jv wi => ∃ (kk j : Nat) (ys : List Value) (zs : List (List Int)), 1 ≤ j ∧ k + j ≤ n ∧ k ≤ kk ∧ kk + 1 ≤ k + j ∧ kv = .int .i64 kk ∧ jv = .int .i64 j ∧ wi.ownsRow base 28 1 (.slice (some ⟨g, 0, none⟩) n c) n ys ∧ Elts g ys zs wi ∧ zs.length = n ∧ zs.take kk = dd none (gs.take (k + j)) ∧ zs.drop (k + j - 1) = gs.drop (k + j - 1) ∧ Kb (fun k => k = g) w wi) (fun _ jv _ => n - (intOf jv).toNat)
          case atStart => exact ⟨k, 1, vs, gs, by omega, by omega, by omega, by omega, rfl, rfl, HO1.out, HE1.out, HGL.out, HDT.out.symm, rfl, HK1.out⟩
          case round =>
            obtain ⟨kk, j, ys, zs, hj1, hjn, hkk, hkj, rfl, rfl, how, hel, hzl, htk, hdr, hkb⟩ := hrel
            have hyl : ys.length = n := by rw [hel.1, hzl]
            have HOW := hid how
            have HEL2 := hid hel
            have HTK := hid htk
            have HDR := hid hdr
            have HKB := hid hkb
            have HZL := hid hzl
            clear how hel htk hdr hkb hzl
            by_cases hjl : k + j < n
            · obtain ⟨v, hv⟩ : ∃ v, ys[k + j]? = some v := ⟨ys[k + j]'(by omega), List.getElem?_eq_getElem (by omega)⟩
              obtain ⟨v', hv'⟩ : ∃ v, ys[k + (j - 1)]? = some v := ⟨ys[k + (j - 1)]'(by omega), List.getElem?_eq_getElem (by omega)⟩
              have hgk : k + j < gs.length := by rw [HGL.out]; exact hjl
              have hq : zs[k + j]? = some gs[k + j] := by
                have := congrArg (fun l => l[1]?) HDR.out
                simp only [List.getElem?_drop] at this
                rw [show k + j - 1 + 1 = k + j by omega] at this
                rw [this]; exact List.getElem?_eq_getElem hgk
              have hq' : zs[k + (j - 1)]? = some gs[k + j - 1] := by
                have := congrArg (fun l => l[0]?) HDR.out
                simp only [List.getElem?_drop] at this
                rw [show k + j - 1 + 0 = k + (j - 1) by omega] at this
                rw [this, List.getElem?_eq_getElem (show k + (j - 1) < gs.length by omega)]
                simp only [show k + (j - 1) = k + j - 1 by omega]
              have hc1 := HOW.out.cellAt (k + j) (by omega)
              have hc2 := HOW.out.cellAt (k + (j - 1)) (by omega)
              have hc3 := HOW.out.cellAt kk (by omega)
              have hf3 := HOW.out.frozenAt kk
              obtain ⟨v3, hv3⟩ : ∃ v, ys[kk]? = some v := ⟨ys[kk]'(by omega), List.getElem?_eq_getElem (by omega)⟩
              rw [hv] at hc1
              rw [hv'] at hc2
              rw [hv3] at hc3
              have i1 := (HEL2.out.2 (k + j) v gs[k + j] hv hq).here
              have i2 := (HEL2.out.2 (k + (j - 1)) v' gs[k + j - 1] hv' hq').here
              have HV := hid hv
              have HQ := hid hq
              have hdt := dd_take hgk (by omega)
              obtain ⟨qa, hqa⟩ : ∃ qa, gs[k + j] = qa := ⟨_, rfl⟩
              obtain ⟨qb, hqb⟩ : ∃ qb, gs[k + j - 1] = qb := ⟨_, rfl⟩
              rw [hqa] at i1 HQ hdt
              rw [hqb] at i2 hdt
              obtain ⟨va2, vc2, rfl, -⟩ := i1.open
              obtain ⟨va3, vc3, rfl, -⟩ := i2.open
              have HC := hid (fun m => HP.out (wr.drewN m) _ _ qa qb (HKB.out.trans (Kb.drewN (M := fun k => k = g) m) (fun _ h => Or.inl h)) (i1.drewN m) (i2.drewN m))
              have z0 : (0 : Int) ≤ (j : Int) := by omega
              have z1 : (j : Int) < ((n - k : Nat) : Int) := by omega
              have z2 : (0 : Int) ≤ ((j - 1 : Nat) : Int) := by omega
              have z3 : ((j - 1 : Nat) : Int) < ((n - k : Nat) : Int) := by omega
              have z4 : (0 : Int) ≤ (kk : Int) := by omega
              have z5 : (kk : Int) < (n : Int) := by omega
              have z6 : j < n - k := by omega
              clear hv hv' hv3 hq hq' i1 i2 hqa hqb
              by_cases heq : qa = qb
              · have HC2 : ∀ m, Hid (Calls Tryz.prog fg (#[.slice va2 qa.length vc2, .slice va3 qb.length vc3] ++ lb) (wr.drewN m) fun e w' => e = .returned (.bool true) ∧ ∃ x, w' = (wr.drewN m).drewN x) := fun m => hid (by have := HC.out m; rwa [decide_eq_true heq] at this)
                rw [if_pos heq.symm, List.append_nil] at hdt
                have HDT2 := hid hdt
                clear hdt HC heq
                have hwrap : IntKind.i64.wrap ((j : Int) - 1) = ((j - 1 : Nat) : Int) := by rw [IntWalk.i64_in _ (by omega)]; omega
                go_wp2
                go_quiet ((go_at_fn fg; exact Calls.quiet_of (HC2 _).out))
                clear hwrap
                go_wp2
                go_roundw
                case rel =>
                  refine ⟨kk, j + 1, ys, zs, by omega, by omega, hkk, by omega, rfl, by go_num, owns_below HOW.out (below_self_drewN _ _), HEL2.out.turn (Kb.drewN _), HZL.out, by rw [← Nat.add_assoc, HDT2.out]; exact HTK.out, ?_, HKB.out.trans (Kb.drewN (M := fun k => k = g) nq) (fun _ h => Or.inl h)⟩
                  have e9 : k + (j + 1) - 1 = k + j - 1 + 1 := by omega
                  rw [e9, ← List.drop_drop, ← List.drop_drop, HDR.out]
                case measure => simp [intOf]; omega
              · have HC2 : ∀ m, Hid (Calls Tryz.prog fg (#[.slice va2 qa.length vc2, .slice va3 qb.length vc3] ++ lb) (wr.drewN m) fun e w' => e = .returned (.bool false) ∧ ∃ x, w' = (wr.drewN m).drewN x) := fun m => hid (by have := HC.out m; rwa [decide_eq_false heq] at this)
                rw [if_neg (fun h => heq h.symm)] at hdt
                have HDT2 := hid hdt
                clear hdt HC heq
                have hwrap : IntKind.i64.wrap ((j : Int) - 1) = ((j - 1 : Nat) : Int) := by rw [IntWalk.i64_in _ (by omega)]; omega
                go_wp2
                go_quiet ((go_at_fn fg; exact Calls.quiet_of (HC2 _).out))
                clear hwrap
                have HST := hid ((owns_below HOW.out (below_self_drewN wr nq)).stored kk (.slice va2 qa.length vc2))
                have HKS : Hid (Kb (fun k => k = g) wr ((wr.drewN nq).setCell ⟨g, kk, none⟩ (.slice va2 qa.length vc2))) := hid ((Kb.drewN (M := fun k => k = g) nq).trans (Kb.setCell (M := fun k => k = g) _ rfl) (fun _ h => Or.inl h))
                go_wp2
                go_roundw
                case rel =>
                  refine ⟨kk + 1, j + 1, ys.set kk (.slice va2 qa.length vc2), zs.set kk qa, by omega, by omega, by omega, by omega, by go_num, by go_num, HST.out.1, (HEL2.out.set HV.out HQ.out).turn HKS.out, by rw [List.length_set]; exact HZL.out, ?_, ?_, HKB.out.trans HKS.out (fun _ h => Or.inl h)⟩
                  · have hkz : kk < (zs.set kk qa).length := by rw [List.length_set, HZL.out]; omega
                    rw [List.take_succ_eq_append_getElem hkz, List.take_set_of_le (Nat.le_refl _), List.getElem_set_self, ← Nat.add_assoc, HDT2.out, HTK.out]
                  · have e9 : k + (j + 1) - 1 = k + j - 1 + 1 := by omega
                    rw [List.drop_set_of_lt (by omega), e9, ← List.drop_drop, ← List.drop_drop, HDR.out]
                case measure => simp [intOf]; omega
            · have hjk : k + j = n := by omega
              have hkn2 : kk < n := by omega
              have hkc : kk < c := by omega
              have hkc0 : ¬ c = kk := by omega
              have HCL : Hid (∀ ty, (Builtin.clear_ #[56] ty #[.slice (some ⟨g, kk, none⟩) (n - kk) (c - kk)]).run Tryz.prog wr = .ok (.tuple #[]) (wr.setCells g kk (List.replicate (n - kk) (.slice none 0 0)))) := hid (fun ty =>
                Lib.run_clear_slice wr _ _ ty _ Tryz.underlying56 HZ.out rfl rfl g kk _ _ (by omega) (fun t ht => by rw [HOW.out.cellAt (kk + t) (by omega)]; simp; omega) (fun t ht => HOW.out.frozenAt _))
              have hcl := HCL.out
              have HT : Hid (Terms (wr.setCells g kk (List.replicate (n - kk) (.slice none 0 0))) (.slice (some ⟨g, 0, none⟩) kk c) (compL gs)) := hid (by
                have := FIN.out wr ys zs kk HOW.out HEL2.out (by omega) HZL.out (wr.setCells g kk (List.replicate (n - kk) (.slice none 0 0))) (kb_setCells _ _) (fun t ht => by
                  rw [World.cell?_setCells_out _ _ _ _ _ (fun _ _ => Or.inl (by show t < kk; omega))])
                rw [HTK.out, hjk, List.take_of_length_le (by rw [HGL.out]; omega), ← compL_none] at this
                exact this)
              have HKF := hid (HKB.out.trans (kb_setCells (A := wr) (g := g) (List.replicate (n - kk) (.slice none 0 0)) kk) (fun _ h => Or.inl h))
              have y9 : (0 : Int) ≤ (kk : Int) := by omega
              have y8 : (kk : Int) ≤ (n : Int) := by omega
              go_wp2
              go_ret
              exact ⟨_, rfl, HT.out, HKF.out⟩
        · have HC2 : ∀ j, Hid (Calls Tryz.prog fg (#[.slice va gs[k].length vc, .slice va' gs[k - 1].length vc'] ++ lb) (wr.drewN j) fun e w' => e = .returned (.bool false) ∧ ∃ m, w' = (wr.drewN j).drewN m) := fun j => hid (by have := HC.out j; rwa [decide_eq_false heq] at this)
          rw [if_neg (fun h => heq h.symm), HDD.out, ← List.take_succ_eq_append_getElem hgk] at hdt
          have HDT := hid hdt
          clear hdt HC heq
          have hwrap : IntKind.i64.wrap ((k : Int) - 1) = ((k - 1 : Nat) : Int) := by rw [IntWalk.i64_in _ (by omega)]; omega
          go_wp2
          go_quiet ((go_at_fn fg; exact Calls.quiet_of (HC2 _).out))
          clear hwrap
          go_wp2
          go_roundw
          case rel => exact ⟨k + 1, m + nq, by omega, by omega, by go_num, by rw [HW.out]; exact World.drewN_drewN _ _ _, HDT.out⟩
          case measure => simp [intOf]; omega
      · have hkn' : k = n := by omega
        have HT : Hid (Terms wr (.slice (some ⟨g, 0, none⟩) n c) (compL gs)) := hid (by
          have := FIN.out wr vs gs n HOWr.out HELr.out (Nat.le_refl _) HGL.out wr (Kb.refl _ _) (fun _ _ => rfl)
          have hdd := HDD.out
          rw [List.take_of_length_le (by rw [HGL.out]; omega)] at hdd this
          rw [compL_none, hdd]
          exact this)
        go_wp2
        go_ret
        exact ⟨_, rfl, HT.out, HKB.out⟩
end Go.Proofs.YtpflkjldapmgdaaGreat
namespace Go.Proofs.YtpflkjldapmgdaaGreat
open Go Go.RowKit Go.Maps
theorem owns_frm2 {w w' : World} {b : Nat} {e : TypeId} {k : Nat} {v : Value} {n : Nat} {xs : List Value} (h : w.ownsRow b e k v n xs) (hs : ∀ q, v.ownBlock = some q → w'.heap[q]? = w.heap[q]?) : w'.ownsRow b e k v n xs := by
  obtain ⟨h1, h2⟩ := h
  refine ⟨h1, ?_⟩
  rcases h2 with h2 | ⟨g, cap, cur, r1, r2, r3, r4⟩
  · exact .inl h2
  · subst r1
    exact .inr ⟨g, cap, cur, rfl, r2, by rw [hs g rfl]; exact r3, r4⟩
end Go.Proofs.YtpflkjldapmgdaaGreat
namespace Go.Proofs.YtpflkjldapmgdaaGreat
open Go Go.RowKit Go.Maps
theorem lexL_eqlen {a b : List Int} {k : Nat} (hl : a.length = b.length) (h : a.take k = b.take k) (hk : k < a.length) : lexL a b = if a[k] < b[k]'(by omega) then -1 else if b[k]'(by omega) < a[k] then 1 else lexL (a.drop (k + 1)) (b.drop (k + 1)) := by
  rw [← lexL_drop h (by omega) (by omega), List.drop_eq_getElem_cons hk, List.drop_eq_getElem_cons (show k < b.length by omega), lexL]
set_option maxHeartbeats 1000000 in
theorem ref1_Compare (va vb : Value) (a b : List Int) (w : World) (ha : Ints w va a) (hb : Ints w vb b) :
    Calls Tryz.prog 156 #[va, vb] w fun e w' => e = .returned (.int .i64 (cmpL a b)) ∧ ∃ n, w' = w.drewN n := by
  obtain ⟨aa, ac, rfl, h1, hl, h3, HC⟩ := ha.open
  obtain ⟨ba, bc, rfl, h1', hl', h3', HD⟩ := hb.open
  have HC' := hid HC
  have HD' := hid HD
  clear HC ha h3 HD hb h3'
  by_cases g1 : a.length < b.length
  · have HR : Hid (cmpL a b = -1) := hid (by unfold cmpL; rw [if_pos g1])
    go_enter Tryz.func156, Tryz.ntmps156
    go_wp2
    go_ret
    exact ⟨by rw [HR.out]; rfl, 0, rfl⟩
  · by_cases g2 : b.length < a.length
    · have HR : Hid (cmpL a b = 1) := hid (by unfold cmpL; rw [if_neg g1, if_pos g2])
      go_enter Tryz.func156, Tryz.ntmps156
      go_wp2
      go_ret
      exact ⟨by rw [HR.out]; rfl, 0, rfl⟩
    · have HR : Hid (cmpL a b = lexL a b) := hid (by unfold cmpL; rw [if_neg g1, if_neg g2])
      have HLE : Hid (a.length = b.length) := hid (by omega)
      go_enter Tryz.func156, Tryz.ntmps156
      go_wp2
      go_loopw [5] (fun i wr => ∃ k q : Nat, k ≤ a.length ∧ i = .int .i64 k ∧ wr = w.drewN q ∧ a.take k = b.take k) (fun i _ => a.length - (intOf i).toNat)
      case atStart => exact ⟨0, 0, by omega, rfl, rfl, by simp⟩
      case round =>
        obtain ⟨k, q, hk, rfl, rfl, hrel⟩ := hrel
        have HRL := hid hrel
        clear hrel
        by_cases hlt : k < a.length
        · obtain ⟨b1, o1, rfl, hcell⟩ := HC'.out k hlt
          have hltb : k < b.length := by have := HLE.out; omega
          obtain ⟨b2, o2, rfl, hcell'⟩ := HD'.out k hltb
          have y0 : (0 : Int) ≤ (k : Int) := by omega
          have y1 : (k : Int) < (a.length : Int) := by omega
          have y2 : (k : Int) < (b.length : Int) := by omega
          have hx := lexL_eqlen HLE.out HRL.out hlt
          have HN := hid (fun (e : a[k] = b[k]) => (show a.take (k + 1) = b.take (k + 1) by rw [List.take_succ_eq_append_getElem hlt, List.take_succ_eq_append_getElem hltb, HRL.out, e]))
          obtain ⟨x, hxa⟩ : ∃ x, a[k] = x := ⟨_, rfl⟩
          obtain ⟨y, hyb⟩ : ∃ y, b[k] = y := ⟨_, rfl⟩
          rw [hxa] at hcell hx HN
          rw [hyb] at hcell' hx HN
          clear hxa hyb
          by_cases c1 : x < y
          · have HA : Hid (lexL a b = -1) := hid (by rw [hx, if_pos c1])
            have d1 : decide (x < y) = true := by simp [c1]
            clear hx
            go_wp2
            go_quiet (fail)
            go_wp2
            go_ret
            exact ⟨by rw [HR.out, HA.out]; rfl, _, (by first | rfl | exact World.drewN_drewN _ _ _)⟩
          · by_cases c2 : y < x
            · have HA : Hid (lexL a b = 1) := hid (by rw [hx, if_neg c1, if_pos c2])
              have d1 : decide (x < y) = false := by simp [c1]
              have d2 : decide (y < x) = true := by simp [c2]
              clear hx
              go_wp2
              go_quiet (fail)
              go_wp2
              go_quiet (fail)
              go_wp2
              go_ret
              exact ⟨by rw [HR.out, HA.out]; rfl, _, by rw [World.drewN_drewN, World.drewN_drewN]⟩
            · have d1 : decide (x < y) = false := by simp [c1]
              have d2 : decide (y < x) = false := by simp [c2]
              have HE : Hid (a.take (k + 1) = b.take (k + 1)) := hid (HN.out (by omega))
              clear hx
              go_wp2
              go_quiet (fail)
              go_wp2
              go_quiet (fail)
              go_wp2
              go_roundw
              case rel => exact ⟨k + 1, _, by omega, by go_num, (by first | rfl | exact World.drewN_drewN _ _ _), HE.out⟩
              case measure => simp [intOf]; omega
        · have HA : Hid (lexL a b = 0) := hid (by
            have hk2 : k = a.length := by omega
            have h9 := HRL.out
            rw [List.take_of_length_le (by omega), List.take_of_length_le (by have := HLE.out; omega)] at h9
            exact (lexL_zero a b).2 h9)
          go_wp2
          go_ret
          exact ⟨by rw [HR.out, HA.out]; rfl, q, rfl⟩
theorem withL_len : ∀ (l : List (List Int)) (t : List Int), (withL l t).length ≤ l.length + 1
  | [], t => by simp [withL]
  | x :: l, t => by
    have := withL_len l t
    rw [withL]
    split
    · simp
    · split <;> simp <;> omega
def OutW (w : World) (vvs : List Value) (zs : List (List Int)) : Prop := vvs.length = zs.length ∧ ∀ (i : Nat) (v : Value) (q : List Int), vvs[i]? = some v → zs[i]? = some q → Ints w v q
theorem OutW.push {w : World} {vvs : List Value} {zs : List (List Int)} (h : OutW w vvs zs) {v : Value} {q : List Int} (hv : Ints w v q) : OutW w (vvs ++ [v]) (zs ++ [q]) := by
  refine ⟨by rw [List.length_append, List.length_append, h.1]; rfl, fun i x y h1 h2 => ?_⟩
  rcases Nat.lt_or_ge i vvs.length with hi | hi
  · rw [List.getElem?_append_left hi] at h1
    rw [List.getElem?_append_left (by rw [← h.1]; exact hi)] at h2
    exact h.2 i x y h1 h2
  · rw [List.getElem?_append_right hi] at h1
    rw [List.getElem?_append_right (by rw [← h.1]; exact hi), ← h.1] at h2
    obtain ⟨j, hj⟩ : ∃ j, i - vvs.length = j := ⟨_, rfl⟩
    rw [hj] at h1 h2
    cases j with
    | zero => simp at h1 h2; subst h1; subst h2; exact hv
    | succ j => simp at h1
theorem OutW.terms {w w' : World} {b : Nat} {e : TypeId} {vvs : List Value} {zs : List (List Int)} {u : Value} {n : Nat} (h : OutW w vvs zs) (hb : Below w.heap.size w w') (ho : w'.ownsRow b e 1 u n vvs) (hn : vvs.length = n) (hl : n ≤ 100000) : Terms w' u zs := by
  subst hn
  exact ⟨vvs, RowK.of_owns ho (by omega), h.1, fun i v q h1 h2 => (h.2 i v q h1 h2).below hb⟩
theorem sorted_len (l : List (List Int)) : ∀ acc : List (List Int), (l.foldl withL acc).length ≤ acc.length + l.length := by
  induction l with
  | nil => intro acc; simp
  | cons t l ih =>
    intro acc
    have h1 := ih (withL acc t)
    have h2 := withL_len acc t
    rw [List.foldl_cons, List.length_cons]
    omega
end Go.Proofs.YtpflkjldapmgdaaGreat
