/-
  WHAT IT HOLDS: contracts of slices.Clone, of canonical and Alike and Canonical of package term, of named of package unify: canonical forms. Conditions: the arguments read as data; numbers are small.
  WHAT IT HOLDS: contracts of Instance of package unify, of Alike and Canonical of package term. Conditions: the arguments read as data; the sign is small.
  WHAT IT HOLDS: contracts of args and Args of package term. Conditions: the arguments read as data; a valid sign.
  WHAT IT HOLDS: the law for a range over a function (Rfl) for a body that keeps what it was handed: the relation need only be kept while the world grows and while the loop's record turns. Over any program. No condition.
  WHAT IT HOLDS: the law for a range over a function whose iterator changes blocks of its own between the rounds (O: these blocks): the twin of wpIn_rangeG. Over any program. No condition.
  WHAT IT HOLDS: what is kept over a yield: it depends only on blocks that the loop's body does not turn. Over any program. No condition.
  WHAT IT HOLDS: contracts of Variables and Renamed of the reference of layer 1: canonical forms. Conditions: the argument reads as data; numbers are small.
  WHAT IT HOLDS: contracts of slices.SortFunc and slices.CompactFunc at []api.Term, of a slice of the call's own, by Compare and by equality. Conditions: the elements read as terms, in blocks other than the slice's own.
  WHAT IT HOLDS: plain functions on binds (layer 2): validity, what binds make of a variable and of a term, composing, solved, renaming; how they are put together. No program in sight. No condition.
  WHAT IT HOLDS: the law for a range over a function whose iterator changes blocks of its own between the rounds (O: these blocks, F at the start: older than the loop): the twin of wpIn_rangeO. Over any program. No condition.
-/
import Derived.Lib.SliceRun
import Derived.Test.YtlbjbmpkaniojaaGreatZRBlameMerges2
import Derived.Test.YtlbjbmpkaniojaaGreatZRBlameMerges12
import Derived.Test.YtlbjbmpkaniojaaGreatZRBlameMerges9
import Derived.Test.YtlbjbmpkaniojaaGreatZRBlameMerges6
import Derived.Test.YtlbjbmpkaniojaaGreatZRBlameMerges15
import Derived.Test.YtlbjbmpkaniojaaGreatZRBlameMerges4
import Derived.Test.YtlbjbmpkaniojaaGreatZRBlameMerges16
namespace Go.Proofs.YtlbjbmpkaniojaaGreat
open Go Go.RowKit Go.Maps
set_option maxRecDepth 100000 in
theorem sl_CloneT (v : Value) (t : List Int) (w : World) (ht : Ints w v t) (h0 : 0 < t.length) (hl : t.length ≤ 1000) :
    Calls Tryz.prog 130 #[v] w fun e w' => ∃ u, e = .returned u ∧ w'.ownsRow w.heap.size 3 1 u t.length (t.map (Value.int .i64)) ∧ Below w.heap.size w w' := by
  obtain ⟨ta, tcap, rfl, ht1, ht2, -, TC⟩ := ht.open
  obtain ⟨tb, to, rfl, -⟩ := TC 0 h0
  have hb0 : Below w.heap.size w (w.alloc (.cells #[] 3)) := (Below.refl _ _).alloc (Nat.le_refl _) _
  have HT := hid (ht.below hb0)
  have HOWN := hid (World.ownsRow_lit (base := w.heap.size) (e := 3) (size := 1) w #[] 0 (Nat.le_refl _) (by simp [maxLen]) rfl)
  have HB0 := hid hb0
  clear TC ht hb0
  have q37 := fun (w : World) (a : Option Addr) (n c n' c' : Nat) => Lib.run_eql_slice_nil (P := Tryz.prog) w _ _ a n c n' c' Tryz.underlying37
  go_enter Tryz.func130, Tryz.ntmps130
  go_wp2_with (at_builtin; refine wpList_append_row rfl _ _ 37 rfl w.heap.size 3 el_int Tryz.underlying37 rfl (by decide) _ _ _ rfl HOWN.out _ t.length (t.map (Value.int .i64)) rfl HT.out (ints_one t) (by omega) (by omega) (by simp) ?_; intro v' w4 hown4 hgrow4 _)
  go_ret
  exact ⟨_, rfl, by simpa using hown4, HB0.out.grown hgrow4 (by simp) (fun q hq => by cases hq; exact Nat.le_refl _)⟩
def numM (vs : List Int) (x : Int) : Option Int := if x ∈ vs then some (-(vs.idxOf x : Int) - 1) else none
theorem numM_nil : numM [] = fun _ => none := by funext x; simp [numM]
theorem numM_yes {vs : List Int} {x : Int} (h : x ∈ vs) : numM vs x = some (-(vs.idxOf x : Int) - 1) := by unfold numM; rw [if_pos h]
theorem numM_no {vs : List Int} {x : Int} (h : x ∉ vs) : numM vs x = none := by unfold numM; rw [if_neg h]
theorem numM_ins {vs : List Int} {x : Int} (h : x ∉ vs) : (fun y => if y = x then some (-(vs.length : Int) - 1) else numM vs y) = numM (vs ++ [x]) := by
  funext y
  unfold numM
  by_cases e : y = x
  · subst e
    simp [List.idxOf_append, h]
  · rw [if_neg e]
    by_cases hy : y ∈ vs
    · rw [if_pos hy, if_pos (by simp [hy]), List.idxOf_append, if_pos hy]
    · rw [if_neg hy, if_neg (by simp [hy, e])]
abbrev NMap (w : World) (b : Nat) (vs : List Int) : Prop := MapK Tryz.prog 3 eI eI w b vs.length (numM vs)
theorem nmap_ins {w : World} {b : Nat} {vs : List Int} {x : Int} (hN : numM vs x = none) (hI : (fun y => if y = x then some (-(vs.length : Int) - 1) else numM vs y) = numM (vs ++ [x]))
    (h : MapK Tryz.prog 3 eI eI w b (if (numM vs x).isSome then vs.length else vs.length + 1) (fun y => if y = x then some (-(vs.length : Int) - 1) else numM vs y)) : NMap w b (vs ++ [x]) := by
  rw [hN, hI] at h
  simpa [NMap] using h
/-- a list whose first k numbers have their names. -/
def outL (t : List Int) (k : Nat) : List Int := (t.take k).map (numV (varsF [] (t.take k))) ++ t.drop k
theorem outL_zero (t : List Int) : outL t 0 = t := by simp [outL]
theorem outL_all (t : List Int) {k : Nat} (h : t.length ≤ k) : outL t k = canonL t := by
  unfold outL canonL
  rw [List.take_of_length_le h, List.drop_eq_nil_of_le h, List.append_nil]
theorem varsF_take (t : List Int) {k : Nat} (h : k < t.length) : varsF [] (t.take (k + 1)) = if t[k] < 0 ∧ t[k] ∉ varsF [] (t.take k) then varsF [] (t.take k) ++ [t[k]] else varsF [] (t.take k) := by
  rw [List.take_succ_eq_append_getElem h, varsF_append]
  simp only [varsF]
theorem outL_step (t : List Int) {k : Nat} (h : k < t.length) : outL t (k + 1) = (outL t k).set k (numV (varsF [] (t.take (k + 1))) t[k]) := by
  have e1 : (t.take k).map (numV (varsF [] (t.take (k + 1)))) = (t.take k).map (numV (varsF [] (t.take k))) := by
    apply List.map_congr_left
    intro n hn
    rw [List.take_succ_eq_append_getElem h, varsF_append]
    exact numV_stable' _ _ fun hn0 => (varsF_mem _ _ _).2 (Or.inr ⟨hn, hn0⟩)
  unfold outL
  conv => lhs; rw [List.take_succ_eq_append_getElem h, List.map_append, ← List.take_succ_eq_append_getElem h]
  rw [e1, List.set_append_right _ _ (by simp; omega)]
  have e2 : k - ((t.take k).map (numV (varsF [] (t.take k)))).length = 0 := by simp; omega
  rw [e2, List.drop_eq_getElem_cons h, List.set_cons_zero, List.append_assoc]
  rfl
theorem outL_same (t : List Int) {k : Nat} (h : k < t.length) (h0 : 0 ≤ t[k]) : outL t (k + 1) = outL t k := by
  rw [outL_step t h]
  unfold outL
  rw [List.set_append_right _ _ (by simp; omega)]
  have e2 : k - ((t.take k).map (numV (varsF [] (t.take k)))).length = 0 := by simp; omega
  rw [e2, List.drop_eq_getElem_cons h]
  have : numV (varsF [] (t.take (k + 1))) t[k] = t[k] := by unfold numV; rw [if_neg (by omega)]
  rw [this, List.set_cons_zero]
theorem outL_map (t : List Int) (k : Nat) (x : Int) : ((outL t k).map (Value.int .i64)).set k (Value.int .i64 x) = ((outL t k).set k x).map (Value.int .i64) := by rw [List.map_set]
theorem outL_get (t : List Int) {k : Nat} (h : k < t.length) : ((outL t k).map (Value.int .i64))[k]? = some (.int .i64 t[k]) := by
  have : (outL t k)[k]? = some t[k] := by
    unfold outL
    rw [List.getElem?_append_right (by simp; omega)]
    simp [h]
    have : k - min k t.length = 0 := by omega
    rw [this]
    simp
  rw [List.getElem?_map, this]; rfl
theorem varsF_take_len (t : List Int) (k : Nat) : (varsF [] (t.take k)).length ≤ k := by
  have key : ∀ (a vs : List Int), (varsF vs a).length ≤ vs.length + a.length := by
    intro a
    induction a with
    | nil => intro vs; simp [varsF]
    | cons n a ih =>
      intro vs
      simp only [varsF]
      split
      · have := ih (vs ++ [n]); simp at this ⊢; omega
      · have := ih vs; simp; omega
  have := key (t.take k) []
  simp at this
  omega
set_option maxHeartbeats 1000000 in
set_option maxRecDepth 100000 in
theorem term_canonical (v : Value) (t : List Int) (w : World) (ht : Ints w v t) (h0 : 0 < t.length) (hl : t.length ≤ 1000) (hr : ∀ x ∈ t, -1000000 ≤ x ∧ x ≤ 1000000) :
    Calls Tryz.prog 166 #[v] w fun e w' => ∃ u, e = .returned u ∧ w'.ownsRow w.heap.size 3 1 u (canonL t).length ((canonL t).map (Value.int .i64)) ∧ Below w.heap.size w w' := by
  obtain ⟨ta, tcap, rfl, ht1, ht2, -, TC⟩ := ht.open
  have TC' := hid TC
  have HR := hid hr
  have HT := hid ht
  have hmm := @run_makeMap Tryz.prog
  clear TC ht hr
  go_enter Tryz.func166, Tryz.ntmps166
  go_wp2_with fail
  clear hmm
  have hb1 : Below w.heap.size w (w.alloc (.map #[] 0)) := (Below.refl _ _).alloc (Nat.le_refl _) _
  refine (sl_CloneT _ t _ (HT.out.below hb1) h0 hl).mono ?_
  rintro e w1 ⟨u, rfl, hown, hb2⟩
  have hm0 : NMap w1 w.heap.size [] := by
    have := (MapK.made Tryz.prog 3 eI eI w).belowS hb2
    unfold NMap
    rw [numM_nil]
    exact this
  obtain ⟨g, cap, rfl, hg, hgc⟩ := owns_some hown h0
  have hb3 := hb1.trans (hb2.mono hb1.size)
  have HOWN := hid hown
  have HM0 := hid hm0
  have HB3 := hid hb3
  simp only [World.size_alloc] at hg
  clear hown hm0 hb3 hb2 hb1
  go_wp2
  go_loopw [14] (fun kv wr => ∃ k : Nat, k ≤ t.length ∧ kv = .int .i64 k ∧ wr.ownsRow (w.heap.size + 1) 3 1 (.slice (some ⟨g, 0, none⟩) t.length cap) t.length ((outL t k).map (Value.int .i64)) ∧ NMap wr w.heap.size (varsF [] (t.take k)) ∧ Below w.heap.size w wr) (fun kv _ => t.length - (intOf kv).toNat)
  case atStart => exact ⟨0, by omega, rfl, by rw [outL_zero]; simpa using HOWN.out, by simpa [varsF] using HM0.out, HB3.out⟩
  case round =>
    clear HOWN HM0 HB3
    obtain ⟨k, hk, rfl, hown, hm, hb⟩ := hrel
    have hbs := hb.size
    by_cases hlt : k < t.length
    · obtain ⟨tb, to, rfl, hc0⟩ := TC'.out k hlt
      have hcell := (hb.cell (World.block_lt_of_cell? _ _ hc0)).trans hc0
      have hrk := HR.out t[k] (List.getElem_mem hlt)
      by_cases hn : 0 ≤ t[k]
      · have hge : decide (t[k] ≥ 0) = true := by simp; omega
        have HV := hid (varsF_take t hlt)
        have HO := hid (outL_same t hlt hn)
        clear hc0
        go_wp2
        go_roundw
        case rel => exact ⟨k + 1, by omega, by go_num, by rw [HO.out]; exact hown, by rw [HV.out, if_neg (by omega)]; exact hm, hb⟩
        case measure => simp [intOf]; omega
      · have hge : decide (t[k] ≥ 0) = false := by simp; omega
        have hkey := int_key t[k] (wf_small hrk.1 hrk.2)
        have HV := hid (varsF_take t hlt)
        have HO := hid (outL_step t hlt)
        have HOM := hid (outL_map t k)
        have hvl := varsF_take_len t k
        have hc1 := hown.cellAt k (by omega)
        rw [outL_get t hlt] at hc1
        have hf1 := hown.frozenAt k
        clear hc0
        obtain ⟨vs, hvs⟩ : ∃ vs, varsF [] (t.take k) = vs := ⟨_, rfl⟩
        rw [hvs] at hm hvl HV
        have HKEY := hid hkey
        clear hkey
        by_cases hv : t[k] ∈ vs
        · have HY := hid (numM_yes hv)
          have hV2 : varsF [] (t.take (k + 1)) = vs := by rw [HV.out, if_neg (by simp [hv])]
          have hnv : numV vs t[k] = -(vs.idxOf t[k] : Int) - 1 := by unfold numV; rw [if_pos (by omega)]
          have HV2 := hid hV2
          have HNV := hid hnv
          have hst := hown.stored k (.int .i64 (-(vs.idxOf t[k] : Int) - 1))
          have hb2 : Below w.heap.size w (wr.setCell ⟨g, k, none⟩ (.int .i64 (-(vs.idxOf t[k] : Int) - 1))) := hb.setCell (p := ⟨g, k, none⟩) (by show w.heap.size ≤ g; omega) _
          have hm2 : NMap (wr.setCell ⟨g, k, none⟩ (.int .i64 (-(vs.idxOf t[k] : Int) - 1))) w.heap.size vs := hm.setCell (a := ⟨g, k, none⟩) (by show w.heap.size ≠ g; omega) _
          have HST := hid hst
          have HB2 := hid hb2
          have HM2 := hid hm2
          clear hv hV2 hnv hst hb2 hm2 hvs
          go_wp2_with (first
            | (at_lookup; refine wpList_lookup_mapK rfl _ _ 198 true rfl (int_keyed Tryz.underlying3) eI_inj Tryz.underlying198 (zero_int _) rfl hm t[k] rfl HKEY.out (.tuple #[.int .i64 (-(vs.idxOf t[k] : Int) - 1), .bool true]) (by rw [HY.out]; rfl) ?_)
            | (at_lookup; refine wpList_lookup_mapK rfl _ _ 198 false rfl (int_keyed Tryz.underlying3) eI_inj Tryz.underlying198 (zero_int _) rfl hm t[k] rfl HKEY.out (.int .i64 (-(vs.idxOf t[k] : Int) - 1)) (by rw [HY.out]; rfl) ?_))
          go_roundw
          case rel => exact ⟨k + 1, by omega, by go_num, by rw [HO.out, HV2.out, HNV.out, ← HOM.out]; exact HST.out.1, by rw [HV2.out]; exact HM2.out, HB2.out⟩
          case measure => simp [intOf]; omega
        · have HN := hid (numM_no hv)
          have HI := hid (numM_ins hv)
          have hV2 : varsF [] (t.take (k + 1)) = vs ++ [t[k]] := by rw [HV.out, if_pos ⟨by omega, hv⟩]
          have hnv : numV (vs ++ [t[k]]) t[k] = -(vs.length : Int) - 1 := by
            unfold numV; rw [if_pos (by omega), List.idxOf_append, if_neg hv]; simp
          have hnm : numM (vs ++ [t[k]]) t[k] = some (-(vs.length : Int) - 1) := by
            rw [numM_yes (by simp), List.idxOf_append, if_neg hv]; simp
          have HV2 := hid hV2
          have HNV := hid hnv
          have HNM := hid hnm
          have hlen := fun ty => hm.run_len Tryz.underlying198 ty
          clear hv hV2 hnv hnm hvs
          have HOWN := hid hown
          have HM := hid hm
          have HG := hid (outL_get t hlt)
          clear hown hc1 hf1
          go_wp2_with (first
            | (at_lookup; refine wpList_lookup_mapK rfl _ _ 198 true rfl (int_keyed Tryz.underlying3) eI_inj Tryz.underlying198 (zero_int _) rfl HM.out t[k] rfl HKEY.out (.tuple #[.int .i64 0, .bool false]) (by rw [HN.out]; rfl) ?_)
            | (at_mapUpdate; refine wpList_update_mapK rfl _ _ _ 198 rfl (int_keyed Tryz.underlying3) eI_inj Tryz.underlying198 rfl HM.out t[k] (-(vs.length : Int) - 1) rfl rfl HKEY.out ?_; intro w2 hm2' hg2
               have HM2 : Hid (NMap w2 w.heap.size (vs ++ [t[k]])) := hid (nmap_ins HN.out HI.out hm2')
               have hown2 := owns_grown HOWN.out hg2 (fun q hq => by cases hq; omega)
               have hb2 : Below w.heap.size w w2 := hb.grown hg2 hbs (fun q hq => by cases hq; exact Nat.le_refl _)
               have hc1 := hown2.cellAt k (by omega)
               rw [HG.out] at hc1
               have hf1 := hown2.frozenAt k
               have HST := hid (hown2.stored k (.int .i64 (-(vs.length : Int) - 1)))
               have HB3 : Hid (Below w.heap.size w (w2.setCell ⟨g, k, none⟩ (.int .i64 (-(vs.length : Int) - 1)))) := hid (hb2.setCell (p := ⟨g, k, none⟩) (by show w.heap.size ≤ g; omega) _)
               have HM3 : Hid (NMap (w2.setCell ⟨g, k, none⟩ (.int .i64 (-(vs.length : Int) - 1))) w.heap.size (vs ++ [t[k]])) := hid (HM2.out.setCell (a := ⟨g, k, none⟩) (by show w.heap.size ≠ g; omega) _)
               clear hm2' hown2 hb2)
            | (at_lookup; refine wpList_lookup_mapK rfl _ _ 198 false rfl (int_keyed Tryz.underlying3) eI_inj Tryz.underlying198 (zero_int _) rfl HM2.out t[k] rfl HKEY.out (.int .i64 (-(vs.length : Int) - 1)) (by rw [HNM.out]; rfl) ?_))
          go_roundw
          case rel => exact ⟨k + 1, by omega, by go_num, by rw [HO.out, HV2.out, HNV.out, ← HOM.out]; exact HST.out.1, by rw [HV2.out]; exact HM3.out, HB3.out⟩
          case measure => simp [intOf]; omega
    · have HE := hid (outL_all t (k := k) (by omega))
      have HL := canonL_len t
      rw [HE.out] at hown
      have HOW := hid hown
      clear hown
      go_wp2
      go_ret
      exact ⟨_, rfl, by rw [HL]; exact owns_base HOW.out (by omega), hb⟩
end Go.Proofs.YtlbjbmpkaniojaaGreat
namespace Go.Proofs.YtlbjbmpkaniojaaGreat
open Go Go.RowKit Go.Maps
def instB (s : Sg) (a b : List Int) : Bool := termB s a && termB s b && (matL s a b noM).isSome
def alikeB (s : Sg) (a b : List Int) : Bool := termB s a && termB s b && decide (canonL a = canonL b)
theorem termB_wf {s : Sg} {t : List Int} (h : termB s t = true) : ∀ x ∈ t, -1000000 ≤ x ∧ x ≤ 1000000 := by
  have h1 := termB_facts h
  have h2 := T_small (termB_T h) (by omega)
  intro x hx
  have := h2 x hx
  omega
end Go.Proofs.YtlbjbmpkaniojaaGreat
namespace Go.Proofs.YtlbjbmpkaniojaaGreat
open Go Go.RowKit Go.Maps
theorem owns_open {w : World} {b : Nat} {e : TypeId} {k : Nat} {v : Value} {n : Nat} {xs : List Value} (h : w.ownsRow b e k v n xs) : ∃ a c, v = .slice a n c ∧ (0 < n → ∃ g, a = some ⟨g, 0, none⟩ ∧ b ≤ g) := by
  obtain ⟨h1, h2⟩ := h
  rcases h2 with ⟨h2, rfl⟩ | ⟨g, cap, cur, rfl, hb, r3, r4⟩
  · exact ⟨none, 0, by simp_all, fun h0 => by simp_all⟩
  · exact ⟨_, _, rfl, fun _ => ⟨g, rfl, hb⟩⟩
/-- what depends on the blocks from b on alone. -/
def Lies (b : Nat) (Φ : World → Prop) (w : World) : Prop := ∀ W', (∀ q, b ≤ q → q < w.heap.size → W'.heap[q]? = w.heap[q]?) → Φ W'
theorem Lies.here {b : Nat} {Φ : World → Prop} {w : World} (h : Lies b Φ w) : Φ w := h w fun _ _ _ => rfl
theorem owns_same {w W' : World} {b b' : Nat} {e : TypeId} {k : Nat} {v : Value} {n : Nat} {xs : List Value} (h : w.ownsRow b e k v n xs) (hb : b' ≤ b) (hs : ∀ q, b' ≤ q → q < w.heap.size → W'.heap[q]? = w.heap[q]?) : W'.ownsRow b e k v n xs := by
  have hlt := fun q hq => h.lt q hq
  obtain ⟨h1, h2⟩ := h
  refine ⟨h1, ?_⟩
  rcases h2 with h2 | ⟨g, cap, cur, rfl, r2, r3, r4⟩
  · exact .inl h2
  · exact .inr ⟨g, cap, cur, rfl, r2, by rw [hs g (by omega) (hlt g rfl).2]; exact r3, r4⟩
end Go.Proofs.YtlbjbmpkaniojaaGreat
namespace Go.Proofs.YtlbjbmpkaniojaaGreat
open Go Go.RowKit Go.Maps
/-- kept while the world grows, and while the loop's own record (block B + 1) turns. -/
structure Grw (B : Nat) (I : (Nat → Prop) → World → Prop) : Prop where
  grow : ∀ (M : Nat → Prop) (W W' : World), I M W → Below W.heap.size W W' → I M W'
  turn : ∀ (M : Nat → Prop) (W : World) (o o' : Obj), W.heap[B + 1]? = some o → o.isCells = false → I M W → ¬ M (B + 1) → I M (W.putObj (B + 1) o')
theorem Grw.below {B : Nat} {I : (Nat → Prop) → World → Prop} (h : Grw B I) {M : Nat → Prop} {W W' : World} (hi : I M W) {b : Nat} (hb : Below b W W') (he : b = W.heap.size := by rfl) : I M W' := h.grow M W W' hi (he ▸ hb)
theorem Grw.put {B : Nat} {I : (Nat → Prop) → World → Prop} (h : Grw B I) {M : Nat → Prop} {W : World} {o : Obj} (ho : W.heap[B + 1]? = some o) (hc : o.isCells = false) (o' : Obj) (hi : I M W) (hm : ¬ M (B + 1)) : I M (W.putObj (B + 1) o') := h.turn M W o o' ho hc hi hm
end Go.Proofs.YtlbjbmpkaniojaaGreat
namespace Go.Proofs.YtlbjbmpkaniojaaGreat
open Go Go.RowKit Go.Maps
/-- kept while the iterator moves (its own blocks O turn, the world grows), and while the loop's own record (block B + 1) turns. -/
structure GrwO (B : Nat) (I : (Nat → Prop) → (Nat → Prop) → World → Prop) : Prop where
  grow : ∀ (M O O' : Nat → Prop) (W W' : World), I M O W → Kb O W W' → (∀ k, O' k → O k ∨ W.heap.size ≤ k) → (∀ k, O k → B + 2 ≤ k ∧ ¬ M k) → I M O' W'
  turn : ∀ (M O : Nat → Prop) (W : World) (o o' : Obj), W.heap[B + 1]? = some o → o.isCells = false → I M O W → ¬ M (B + 1) → I M O (W.putObj (B + 1) o')
theorem GrwO.below {B : Nat} {I : (Nat → Prop) → (Nat → Prop) → World → Prop} (h : GrwO B I) {M O : Nat → Prop} {W W' : World} (hi : I M O W) (hO : ∀ k, O k → B + 2 ≤ k ∧ ¬ M k) {b : Nat} (hb : Below b W W') (he : b = W.heap.size := by rfl) : I M O W' := h.grow M O O W W' hi (Kb.of_below (he ▸ hb)) (fun _ hk => Or.inl hk) hO
theorem GrwO.put {B : Nat} {I : (Nat → Prop) → (Nat → Prop) → World → Prop} (h : GrwO B I) {M O : Nat → Prop} {W : World} {o : Obj} (ho : W.heap[B + 1]? = some o) (hc : o.isCells = false) (o' : Obj) (hi : I M O W) (hm : ¬ M (B + 1)) : I M O (W.putObj (B + 1) o') := h.turn M O W o o' ho hc hi hm
end Go.Proofs.YtlbjbmpkaniojaaGreat
namespace Go.Proofs.YtlbjbmpkaniojaaGreat
open Go Go.RowKit Go.Maps
/-- it holds however the blocks of M turn, and whatever is made. -/
def Safe (M : Nat → Prop) (Φ : World → Prop) (W : World) : Prop := ∀ W', Kb M W W' → Φ W'
theorem Safe.here {M : Nat → Prop} {Φ : World → Prop} {W : World} (h : Safe M Φ W) : Φ W := h W (Kb.refl _ _)
theorem Safe.imp {M : Nat → Prop} {Φ Ψ : World → Prop} {W : World} (h : Safe M Φ W) (hi : ∀ W, Φ W → Ψ W) : Safe M Ψ W := fun W' hk => hi W' (h W' hk)
theorem Safe.both {M : Nat → Prop} {Φ Ψ : World → Prop} {W : World} (h : Safe M Φ W) (k : Safe M Ψ W) : Safe M (fun W => Φ W ∧ Ψ W) W := fun W' hk => ⟨h W' hk, k W' hk⟩
theorem Safe.grow {M : Nat → Prop} {Φ : World → Prop} {W W1 : World} (h : Safe M Φ W) (hb : Below W.heap.size W W1) : Safe M Φ W1 := fun W' hk => h W' ((Kb.of_below (M := M) hb).trans hk (fun _ hq => Or.inl hq))
theorem Safe.turn {M M' : Nat → Prop} {Φ : World → Prop} {W W1 : World} (h : Safe M Φ W) (hk : Kb M W W1) (hM : ∀ k, M' k → M k ∨ W.heap.size ≤ k) : Safe M' Φ W1 := fun W' hk' => h W' (hk.trans hk' hM)
/-- what lies in new blocks. -/
theorem Safe.new {M : Nat → Prop} {Φ : World → Prop} {b : Nat} {W1 : World} (h : Lies b Φ W1) (hM : ∀ k, M k → k < b) : Safe M Φ W1 := fun W' hk => h W' fun q hq hlt => hk.same q hlt fun hm => by have := hM q hm; omega
/-- a cell of a block of the iterator's own. -/
theorem Safe.cell {M : Nat → Prop} {W : World} {a : Addr} {v : Value} (h : W.cell? a = some v) (hM : ¬ M a.block) : Safe M (fun W => W.cell? a = some v) W := fun W' hk => (World.cell?_of_block (hk.same _ (World.block_lt_of_cell? _ _ h) hM)).trans h
/-- a row of the iterator's own. -/
theorem Safe.ints {M : Nat → Prop} {W : World} {b : Nat} {e : TypeId} {v : Value} {xs : List Int} (h : W.ownsRow b e 1 v xs.length (xs.map (Value.int .i64))) (hl : xs.length ≤ 140737488355328) (hM : ∀ k, M k → k < b) : Safe M (fun W => Ints W v xs) W :=
  Safe.new (b := b) (fun W' hW' => Ints.of_owns (owns_same h (Nat.le_refl _) hW') hl) hM
end Go.Proofs.YtlbjbmpkaniojaaGreat
namespace Go.Proofs.YtlbjbmpkaniojaaGreat
open Go Go.RowKit Go.Maps
def varN (n : Int) : Int := -n - 1
theorem varN_mem (vs : List Int) (n : Int) : decide (varN n ∈ vs.map varN) = decide (n ∈ vs) := by
  congr 1
  simp only [List.mem_map, eq_iff_iff]
  constructor
  · rintro ⟨a, h1, h2⟩
    have : a = n := by unfold varN at h2; omega
    exact this ▸ h1
  · intro h; exact ⟨n, h, rfl⟩
set_option maxHeartbeats 1000000 in
set_option maxRecDepth 100000 in
theorem ref1_Variables (v : Value) (t : List Int) (w : World) (ht : Ints w v t) (hl : t.length ≤ 1000) (hr : ∀ x ∈ t, -1000000 ≤ x ∧ x ≤ 1000000) :
    Calls Tryz.prog 192 #[v] w fun e w' => ∃ u, e = .returned u ∧ w'.ownsRow w.heap.size 3 1 u (varsF [] t).length (((varsF [] t).map varN).map (Value.int .i64)) ∧ Below w.heap.size w w' := by
  obtain ⟨ta, tcap, rfl, ht1, ht2, -, TC⟩ := ht.open
  have TC' := hid TC
  have HR := hid hr
  clear TC ht hr
  go_enter Tryz.func192, Tryz.ntmps192
  go_wp2
  go_loopw [3, 4] (fun u kv wr => ∃ k : Nat, k ≤ t.length ∧ kv = .int .i64 k ∧ wr.ownsRow w.heap.size 3 1 u (varsF [] (t.take k)).length (((varsF [] (t.take k)).map varN).map (Value.int .i64)) ∧ Below w.heap.size w wr) (fun _ kv _ => t.length - (intOf kv).toNat)
  case atStart => exact ⟨0, by omega, rfl, World.ownsRow_nil _ _ _ _, Below.refl _ _⟩
  case round =>
    obtain ⟨k, hk, rfl, hown, hb⟩ := hrel
    have hbs := hb.size
    by_cases hlt : k < t.length
    · obtain ⟨tb, to, rfl, hc0⟩ := TC'.out k hlt
      have hcell := (hb.cell (World.block_lt_of_cell? _ _ hc0)).trans hc0
      have hrk := HR.out t[k] (List.getElem_mem hlt)
      have HV := hid (varsF_take t hlt)
      have hvl := varsF_take_len t k
      have hneg : -t[k] - 1 = varN t[k] := rfl
      obtain ⟨vs, hvs⟩ : ∃ vs, varsF [] (t.take k) = vs := ⟨_, rfl⟩
      rw [hvs] at hown hvl HV
      have hints : Ints wr u3 (vs.map varN) := Ints.of_owns (by simpa using hown) (by simp; omega)
      have HHas := hid (ref1_Has u3 (vs.map varN) (varN t[k]) wr hints)
      have HD := hid (varN_mem vs t[k])
      have HOWN := hid hown
      have HNEG := hid hneg
      clear hc0 hvs hints hown hneg
      by_cases hn : t[k] < 0
      · by_cases hv : t[k] ∈ vs
        · have HV2 : Hid (varsF [] (t.take (k + 1)) = vs) := hid (by rw [HV.out, if_neg (by simp [hv])])
          have HT : Hid (decide (t[k] ∈ vs) = true) := hid (by simp [hv])
          have hd : decide (t[k] < 0) = true := by simp [hn]
          clear hv
          go_wp2_with (go_at_call 214; rw [HNEG.out]; refine HHas.out.mono ?_; rintro e w1 ⟨rfl, rfl⟩; rw [HD.out, HT.out])
          go_roundw
          case rel => exact ⟨k + 1, by omega, by go_num, by rw [HV2.out]; exact HOWN.out, hb⟩
          case measure => simp [intOf]; omega
        · have HV2 : Hid (varsF [] (t.take (k + 1)) = vs ++ [t[k]]) := hid (by rw [HV.out, if_pos ⟨hn, hv⟩])
          have HT : Hid (decide (t[k] ∈ vs) = false) := hid (by simp [hv])
          have hd : decide (t[k] < 0) = true := by simp [hn]
          clear hv
          go_wp2_with (first
            | (go_at_call 214; rw [HNEG.out]; refine HHas.out.mono ?_; rintro e w1 ⟨rfl, rfl⟩; rw [HD.out, HT.out])
            | (at_builtin; refine wpList_append_row rfl _ _ 36 rfl w.heap.size 3 el_int Tryz.underlying36 rfl (by decide) _ _ _ rfl (HOWN.out.alloc _) _ 1 [.int .i64 (-t[k] - 1)] rfl (row_one_new _ _ _) (oneCell_one rfl) (by omega) (by omega) (by simp; omega) ?_; intro v' w4 hown4 hgrow4 _))
          have hb1 : Below w.heap.size w (wr.alloc (.cells #[.int .i64 (-t[k] - 1)] 3)) := hb.alloc hbs _
          go_roundw
          case rel =>
            refine ⟨k + 1, by omega, by go_num, ?_, hb1.grown hgrow4 (by simp; omega) (fun q hq => (HOWN.out.lt q hq).1)⟩
            rw [HV2.out, List.map_append, List.map_append, List.length_append]
            exact hown4
          case measure => simp [intOf]; omega
      · have HV2 : Hid (varsF [] (t.take (k + 1)) = vs) := hid (by rw [HV.out, if_neg (by simp [hn])])
        have hd : decide (t[k] < 0) = false := by simp [hn]
        go_wp2
        go_roundw
        case rel => exact ⟨k + 1, by omega, by go_num, by rw [HV2.out]; exact HOWN.out, hb⟩
        case measure => simp [intOf]; omega
    · have HE : Hid (t.take k = t) := hid (List.take_of_length_le (by omega))
      have HOWN := hid hown
      clear hown
      go_wp2
      go_ret
      refine ⟨_, rfl, ?_, hb⟩
      have := HOWN.out
      rw [HE.out] at this
      exact this
theorem Ints.at {w : World} {a : Option Addr} {cap : Nat} {t : List Int} (h : Ints w (.slice a t.length cap) t) {k : Nat} (hk : k < t.length) : ∃ b o, a = some ⟨b, o, none⟩ ∧ w.cell? ⟨b, o + k, none⟩ = some (.int .i64 t[k]) := by
  obtain ⟨a', cap', h1, _, _, _, h2⟩ := h.open
  simp only [Value.slice.injEq] at h1
  obtain ⟨rfl, _, rfl⟩ := h1
  exact h2 k hk
/-- a list whose first k numbers have their last names. -/
def renL (t : List Int) (k : Nat) : List Int := (t.take k).map (numV (varsF [] t)) ++ t.drop k
theorem renL_len (t : List Int) (k : Nat) : (renL t k).length = t.length := by
  unfold renL
  rw [List.length_append, List.length_map, ← List.length_append, List.take_append_drop]
theorem renL_zero (t : List Int) : renL t 0 = t := by simp [renL]
theorem renL_all (t : List Int) {k : Nat} (h : t.length ≤ k) : renL t k = canonL t := by
  unfold renL canonL
  rw [List.take_of_length_le h, List.drop_eq_nil_of_le h, List.append_nil]
/-- the number at index k while its name is looked for. -/
def seek (vs : List Int) (n : Int) (j : Nat) : Int := if n ∈ vs.take j then numV vs n else n
theorem seek_zero (vs : List Int) (n : Int) : seek vs n 0 = n := by simp [seek]
theorem renL_set (t : List Int) {k : Nat} (h : k < t.length) (x : Int) : (renL t k).set k x = (t.take k).map (numV (varsF [] t)) ++ x :: t.drop (k + 1) := by
  unfold renL
  rw [List.set_append_right _ _ (by simp; omega)]
  have e2 : k - ((t.take k).map (numV (varsF [] t))).length = 0 := by simp; omega
  rw [e2, List.drop_eq_getElem_cons h, List.set_cons_zero]
theorem renL_same (t : List Int) {k : Nat} (h : k < t.length) : (renL t k).set k t[k] = renL t k := by
  rw [renL_set t h]
  unfold renL
  rw [← List.drop_eq_getElem_cons h]
theorem renL_step (t : List Int) {k : Nat} (h : k < t.length) : (renL t k).set k (seek (varsF [] t) t[k] (varsF [] t).length) = renL t (k + 1) := by
  rw [renL_set t h]
  unfold renL
  rw [List.take_succ_eq_append_getElem h, List.map_append, List.append_assoc]
  congr 1
  have : seek (varsF [] t) t[k] (varsF [] t).length = numV (varsF [] t) t[k] := by
    unfold seek
    rw [List.take_of_length_le (Nat.le_refl _)]
    split
    · rfl
    · rename_i hn
      unfold numV
      split
      · rename_i h0
        exact absurd ((varsF_mem t [] _).2 (Or.inr ⟨List.getElem_mem h, h0⟩)) hn
      · rfl
  rw [this]; rfl
theorem seek_yes {vs : List Int} {n : Int} {j : Nat} (hd : vs.Nodup) (hv : ∀ x ∈ vs, x < 0) (h : j < vs.length) (e : n = vs[j]) : seek vs n (j + 1) = -(j : Int) - 1 := by
  unfold seek numV
  have hm : n ∈ vs.take (j + 1) := by rw [List.take_succ_eq_append_getElem h, e]; exact List.mem_append.2 (Or.inr (List.mem_singleton.2 rfl))
  have hi : vs.idxOf n = j := by rw [e]; exact List.Nodup.idxOf_getElem hd j h
  rw [if_pos hm, if_pos (by rw [e]; exact hv _ (List.getElem_mem h)), hi]
theorem seek_no {vs : List Int} {n : Int} {j : Nat} (h : j < vs.length) (e : n ≠ vs[j]) : seek vs n (j + 1) = seek vs n j := by
  unfold seek
  rw [List.take_succ_eq_append_getElem h]
  by_cases hm : n ∈ vs.take j
  · rw [if_pos (List.mem_append.2 (Or.inl hm)), if_pos hm]
  · rw [if_neg (fun h => by rcases List.mem_append.1 h with h | h; exact hm h; exact e (List.mem_singleton.1 h)), if_neg hm]
set_option maxHeartbeats 2000000 in
set_option maxRecDepth 100000 in
theorem ref1_Renamed (v : Value) (t : List Int) (w : World) (ht : Ints w v t) (h0 : 0 < t.length) (hl : t.length ≤ 1000) (hr : ∀ x ∈ t, -1000000 ≤ x ∧ x ≤ 1000000) :
    Calls Tryz.prog 171 #[v] w fun e w' => ∃ u, e = .returned u ∧ w'.ownsRow w.heap.size 3 1 u (canonL t).length ((canonL t).map (Value.int .i64)) ∧ Below w.heap.size w w' := by
  obtain ⟨ta, tcap, rfl, ht1, ht2, -, TC⟩ := ht.open
  have TC' := hid TC
  have HR := hid hr
  have HT := hid ht
  have hvl0 := varsF_take_len t t.length
  rw [List.take_of_length_le (Nat.le_refl _)] at hvl0
  have hnd := varsF_nodup t [] (by simp)
  have hvn : ∀ x ∈ varsF [] t, x < 0 := fun x hx => by
    rcases (varsF_mem t [] x).1 hx with h | h
    · simp at h
    · exact h.2
  have hvr : ∀ x ∈ varsF [] t, -1000000 ≤ x ∧ x ≤ 1000000 := fun x hx => by
    rcases (varsF_mem t [] x).1 hx with h | h
    · simp at h
    · exact hr x h.1
  obtain ⟨vs, hvs⟩ : ∃ vs, varsF [] t = vs := ⟨_, rfl⟩
  have hvar := ref1_Variables _ t w HT.out hl HR.out
  have hstep := fun (k : Nat) (h : k < t.length) => renL_step t h
  rw [hvs] at hvl0 hnd hvn hvr hvar
  simp only [hvs] at hstep
  have HVAR := hid hvar
  have HND := hid hnd
  have HVN := hid hvn
  have HVR := hid hvr
  have HSTEP := hid hstep
  clear TC ht hr hvs hvar hnd hvn hvr hstep
  go_enter Tryz.func171, Tryz.ntmps171
  go_wp2_with fail
  refine HVAR.out.mono ?_
  rintro e w1 ⟨uv, rfl, hov, hb1⟩
  have hiv : Ints w1 uv (vs.map varN) := Ints.of_owns (by simpa using hov) (by simp; omega)
  obtain ⟨va, vcap, hve, hv1, hv2, -, VC⟩ := hiv.open
  subst hve
  have HIV1 := hid hiv
  rw [List.length_map] at hv1 hv2
  have hb2 : Below w.heap.size w (w1.alloc (.cells #[] 3)) := hb1.alloc hb1.size _
  have HT2 := hid (HT.out.below hb2)
  have HOWN := hid (World.ownsRow_lit (base := w1.heap.size) (e := 3) (size := 1) w1 #[] 0 (Nat.le_refl _) (by simp [maxLen]) rfl)
  have hiv2 : Ints (w1.alloc (.cells #[] 3)) (.slice va (vs.map varN).length vcap) (vs.map varN) := hiv.below ((Below.refl _ _).alloc (Nat.le_refl _) _)
  have HIV := hid hiv2
  have HB2 := hid hb2
  have hsz1 := hb1.size
  clear hov hiv VC hiv2 hb2
  rw [List.length_map] at *
  go_wp2_with (at_builtin; refine wpList_append_row rfl _ _ 37 rfl w1.heap.size 3 el_int Tryz.underlying37 rfl (by decide) _ _ _ rfl HOWN.out _ t.length (t.map (Value.int .i64)) rfl HT2.out (ints_one t) (by omega) (by omega) (by simp) ?_; intro v' w4 hown4 hgrow4 _)
  have hb14 : Below w1.heap.size w1 w4 := ((Below.refl _ _).alloc (Nat.le_refl _) _).grown hgrow4 (by simp) (fun q hq => by cases hq; exact Nat.le_refl _)
  obtain ⟨g, cap, hve, hg, hgc⟩ := owns_some hown4 (by omega)
  rw [Nat.zero_add] at hve hown4 hgc
  subst hve
  have HOWN4 := hid hown4
  have HB14 := hid hb14
  have HB1 := hid hb1
  have HT1 := hid (HT.out.below hb1)
  clear hgrow4 HB2 HOWN HT2 hown4 hb14 hb1 HIV HT
  go_loopw [5, 6] (fun iv _ wr => ∃ k : Nat, k ≤ t.length ∧ iv = .int .i64 k ∧ wr.ownsRow w1.heap.size 3 1 (.slice (some ⟨g, 0, none⟩) t.length cap) t.length ((renL t k).map (Value.int .i64)) ∧ Below w1.heap.size w1 wr) (fun iv _ _ => t.length - (intOf iv).toNat)
  case atStart => exact ⟨0, by omega, rfl, by rw [renL_zero]; simpa using HOWN4.out, HB14.out⟩
  case round =>
    clear HOWN4 HB14
    obtain ⟨k, hk, rfl, hown, hb⟩ := hrel
    by_cases hlt : k < t.length
    · have HOWN := hid hown
      have HB := hid hb
      have HR0 := hid (renL_same t hlt)
      clear hown hb
      go_wp2
      go_loopw [6] (fun jv wq => ∃ j : Nat, j ≤ vs.length ∧ jv = .int .i64 j ∧ wq.ownsRow w1.heap.size 3 1 (.slice (some ⟨g, 0, none⟩) t.length cap) t.length (((renL t k).set k (seek vs t[k] j)).map (Value.int .i64)) ∧ Below w1.heap.size w1 wq) (fun jv _ => vs.length - (intOf jv).toNat)
      case atStart => exact ⟨0, by omega, rfl, by rw [seek_zero, HR0.out]; exact HOWN.out, HB.out⟩
      case round =>
        clear HOWN HB
        obtain ⟨j, hj, rfl, hown, hb⟩ := hrel
        by_cases hjl : j < vs.length
        · obtain ⟨tb, to, rfl, hct⟩ := (HT1.out.below hb).at hlt
          have hjm : j < (vs.map varN).length := by simpa using hjl
          have hiv' : Ints wr (.slice va (vs.map varN).length vcap) (vs.map varN) := by rw [List.length_map]; exact HIV1.out.below hb
          obtain ⟨vb, vo, rfl, hcv⟩ := hiv'.at hjm
          rw [List.getElem_map] at hcv
          have hvr := HVR.out vs[j] (List.getElem_mem hjl)
          have hvr2 : -1000001 ≤ varN vs[j] ∧ varN vs[j] ≤ 1000001 := by unfold varN; omega
          have hvv : -varN vs[j] - 1 = vs[j] := by unfold varN; omega
          clear hiv' hvr
          have hbs := hb.size
          by_cases he : t[k] = vs[j]
          · have heq : (t[k] == -varN vs[j] - 1) = true := by rw [hvv]; simpa using he
            have HSK := hid (seek_yes HND.out HVN.out hjl he)
            have hc1 := hown.cellAt k (by omega)
            have hgl : (((renL t k).set k (seek vs t[k] j)).map (Value.int .i64))[k]? = some (.int .i64 (seek vs t[k] j)) := by
              rw [List.getElem?_map, List.getElem?_set_self (by rw [renL_len]; exact hlt)]; rfl
            rw [hgl] at hc1
            have hf1 := hown.frozenAt k
            have hst := (hown.stored k (.int .i64 (-(j : Int) - 1))).1
            rw [← List.map_set, List.set_set] at hst
            have HST := hid hst
            have HB2 : Hid (Below w1.heap.size w1 (wr.setCell ⟨g, k, none⟩ (.int .i64 (-(j : Int) - 1)))) := hid (hb.setCell (p := ⟨g, k, none⟩) hg _)
            clear hst hown hvv hgl he
            go_wp2
            go_quiet (fail)
            go_wp2
            go_roundw
            case rel => exact ⟨j + 1, by omega, by go_num, by rw [HSK.out]; exact owns_below HST.out (below_self_drewN (wr.setCell ⟨g, k, none⟩ (.int .i64 (-(j : Int) - 1))) nq), below_drewN HB2.out nq⟩
            case measure => simp [intOf]; omega
          · have heq : (t[k] == -varN vs[j] - 1) = false := by rw [hvv]; simpa using he
            have HSK := hid (seek_no hjl he)
            have HOWN := hid hown
            clear hvv he hown
            go_wp2
            go_quiet (fail)
            go_wp2
            go_roundw
            case rel => exact ⟨j + 1, by omega, by go_num, by rw [HSK.out]; exact owns_below HOWN.out (below_self_drewN wr nq), below_drewN hb nq⟩
            case measure => simp [intOf]; omega
        · have hjv : j = vs.length := by omega
          subst hjv
          have HS := hid (HSTEP.out k hlt)
          have HOWN := hid hown
          clear hown
          go_wp2
          go_roundw
          case rel => exact ⟨k + 1, by omega, by go_num, by rw [← HS.out]; exact HOWN.out, hb⟩
          case measure => simp [intOf]; omega
    · have HE := hid (renL_all t (k := k) (by omega))
      have HL := canonL_len t
      rw [HE.out] at hown
      have HOWN := hid hown
      clear hown
      go_wp2
      go_ret
      exact ⟨_, rfl, by rw [HL]; exact owns_base HOWN.out hsz1, HB1.out.trans (hb.mono hsz1)⟩
end Go.Proofs.YtlbjbmpkaniojaaGreat
namespace Go.Proofs.YtlbjbmpkaniojaaGreat
open Go Go.RowKit Go.Maps
def dd : Option (List Int) → List (List Int) → List (List Int)
  | _, [] => []
  | p, x :: l => if p = some x then dd (some x) l else x :: dd (some x) l
theorem kb_sort {α : Type} [Inhabited α] (enc : α → Value) (w : World) (g m : Nat) (d : Array α) (os : Array Obj) : Kb (fun k => k = g) w (sortWorld enc w g 0 m d os) := by
  have hsz : (Go.Sort.putRow enc (Go.Sort.ahead w m) g 0 d).heap.size = w.heap.size := by rw [size_putRow]; rfl
  refine ⟨rfl, rfl, rfl, ?_, fun k hk hne => ?_⟩
  · show w.heap.size ≤ (sortWorld enc w g 0 m d os).heap.size
    unfold sortWorld Go.Sort.grow
    simp only [Array.size_append, hsz]
    omega
  · show (sortWorld enc w g 0 m d os).heap[k]? = _
    unfold sortWorld Go.Sort.grow
    simp only
    rw [Array.getElem?_append_left (by rw [hsz]; exact hk)]
    unfold Go.Sort.putRow Go.Sort.mapBlock
    simp only [Array.getElem?_modify]
    rw [if_neg (fun e => hne e.symm)]
    rfl
theorem own_sort {α : Type} [Inhabited α] (enc : α → Value) {w : World} {base g n c : Nat} {E : TypeId} {xs : List Value} (h : w.ownsRow base E 1 (.slice (some ⟨g, 0, none⟩) n c) n xs) (m : Nat) (d : Array α) (hd : d.size = n) (os : Array Obj) :
    (sortWorld enc w g 0 m d os).ownsRow base E 1 (.slice (some ⟨g, 0, none⟩) n c) n (d.toList.map enc) := by
  obtain ⟨h1, h2⟩ := h
  refine ⟨by simp [hd], ?_⟩
  rcases h2 with ⟨h2, -⟩ | ⟨g', cap, cur, r1, r2, r3, r4, r5, r6, r7⟩
  · cases h2
  · cases r1
    refine .inr ⟨g, c, Go.Sort.putCells enc 0 d cur, rfl, r2, ?_, r4, r5, ?_, ?_⟩
    · unfold sortWorld Go.Sort.grow
      simp only
      have hlt := (Array.getElem?_eq_some_iff.1 r3).1
      rw [Array.getElem?_append_left (by rw [size_putRow]; exact hlt)]
      unfold Go.Sort.putRow Go.Sort.mapBlock
      simp only [Array.getElem?_modify]
      rw [if_pos trivial]
      show Option.map _ (w.heap[g]?) = _
      rw [r3]
      rfl
    · unfold Go.Sort.putCells; simpa using r6
    · apply List.ext_getElem?
      intro i
      rw [List.getElem?_take, List.getElem?_map]
      by_cases hi : i < n
      · rw [if_pos (by omega)]
        unfold Go.Sort.putCells
        rw [Array.getElem?_toList, Array.getElem?_mapIdx, Array.getElem?_eq_getElem (show i < cur.size by omega), Array.getElem?_toList, Array.getElem?_eq_getElem (show i < d.size by omega)]
        simp only [Option.map_some]
        rw [if_pos ⟨Nat.zero_le _, by omega⟩, getElem!_pos d (i - 0) (by omega)]
        rfl
      · rw [if_neg (by omega), Array.getElem?_toList, Array.getElem?_eq_none (by omega)]
        rfl
/-- the elements of a slice of the call's own that lies in block g: terms, in other blocks. -/
def Elts (g : Nat) (vs : List Value) (gs : List (List Int)) (w : World) : Prop := vs.length = gs.length ∧ ∀ (i : Nat) (v : Value) (q : List Int), vs[i]? = some v → gs[i]? = some q → Safe (fun k => k = g) (fun W => Ints W v q) w
theorem Elts.turn {g : Nat} {vs : List Value} {gs : List (List Int)} {w w' : World} (h : Elts g vs gs w) (hk : Kb (fun k => k = g) w w') : Elts g vs gs w' := ⟨h.1, fun i v q h1 h2 => (h.2 i v q h1 h2).turn hk (fun _ h => Or.inl h)⟩
end Go.Proofs.YtlbjbmpkaniojaaGreat
namespace Go.Proofs.YtlbjbmpkaniojaaGreat
open Go Go.RowKit Go.Maps
abbrev BL := List (Int × List Int)
/-- what binds make of the number of a variable in a term. -/
def ofN (l : BL) (n : Int) : List Int := match l.find? (fun b => -b.1 - 1 == n) with | some b => b.2 | none => [n]
def bndB (s : Sg) (l : BL) (i : Nat) : Bool :=
  match l[i]? with
  | some b => inB b.1 0 11 && !(decide (0 < i) && (match l[i - 1]? with | some c => decide (b.1 ≤ c.1) | none => false)) && termB s b.2 && !decide (b.2 = [-b.1 - 1])
  | none => true
def bndsB (s : Sg) (l : BL) : Bool := signB s && (List.range l.length).all (bndB s l)
theorem bndB_at {s : Sg} {l : BL} {i : Nat} (h : i < l.length) : bndB s l i = true ↔ (0 ≤ l[i].1 ∧ l[i].1 ≤ 11) ∧ (∀ h0 : 0 < i, l[i - 1].1 < l[i].1) ∧ termB s l[i].2 = true ∧ l[i].2 ≠ [-l[i].1 - 1] := by
  unfold bndB
  rw [List.getElem?_eq_getElem h]
  simp only [Bool.and_eq_true, inB_true, Bool.not_eq_true', Bool.and_eq_false_iff, decide_eq_false_iff_not]
  have hm : (match l[i - 1]? with | some c => decide (l[i].1 ≤ c.1) | none => false) = false ↔ l[i - 1].1 < l[i].1 := by
    rw [List.getElem?_eq_getElem (show i - 1 < l.length by omega)]
    simp
  rw [hm]
  constructor
  · rintro ⟨⟨⟨h1, h2⟩, h3⟩, h4⟩
    exact ⟨h1, fun h0 => h2.resolve_left (by omega), h3, h4⟩
  · rintro ⟨h1, h2, h3, h4⟩
    refine ⟨⟨⟨h1, ?_⟩, h3⟩, h4⟩
    by_cases h0 : 0 < i
    · exact Or.inr (h2 h0)
    · exact Or.inl h0
theorem bndsB_iff {s : Sg} {l : BL} : bndsB s l = true ↔ signB s = true ∧ (∀ b ∈ l, (0 ≤ b.1 ∧ b.1 ≤ 11) ∧ termB s b.2 = true ∧ b.2 ≠ [-b.1 - 1]) ∧ l.Pairwise (fun a b => a.1 < b.1) := by
  unfold bndsB
  simp only [Bool.and_eq_true, List.all_eq_true, List.mem_range]
  constructor
  · rintro ⟨h1, h2⟩
    have h3 := fun i (h : i < l.length) => (bndB_at h).1 (h2 i h)
    refine ⟨h1, fun b hb => ?_, ?_⟩
    · obtain ⟨i, hi, rfl⟩ := List.getElem_of_mem hb
      obtain ⟨a1, a2, a3, a4⟩ := h3 i hi
      exact ⟨a1, a3, a4⟩
    · rw [List.pairwise_iff_getElem]
      intro i j hi hj hij
      have key : ∀ d, ∀ (hd : i + d + 1 < l.length), l[i].1 < l[i + d + 1].1 := by
        intro d
        induction d with
        | zero => intro hd; exact (h3 (i + 1) hd).2.1 (by omega)
        | succ d ih =>
          intro hd
          have e1 := ih (by omega)
          have e2 := (h3 (i + (d + 1) + 1) hd).2.1 (by omega)
          have e3 : i + (d + 1) + 1 - 1 = i + d + 1 := by omega
          simp only [e3] at e2
          omega
      have := key (j - i - 1) (by omega)
      have e : i + (j - i - 1) + 1 = j := by omega
      simp only [e] at this
      exact this
  · rintro ⟨h1, h2, h3⟩
    refine ⟨h1, fun i hi => (bndB_at hi).2 ?_⟩
    obtain ⟨a1, a3, a4⟩ := h2 l[i] (List.getElem_mem hi)
    refine ⟨a1, fun h0 => ?_, a3, a4⟩
    exact List.pairwise_iff_getElem.1 h3 (i - 1) i (by omega) hi (by omega)
/-- a table of binds. -/
def tabP (l : BL) : MM := l.foldl (fun m b => updM m (-b.1 - 1) b.2) noM
theorem tab_fold : ∀ (l : BL) (m : MM) (n : Int), l.Pairwise (fun a b => a.1 < b.1) → (l.foldl (fun m b => updM m (-b.1 - 1) b.2) m) n = match l.find? (fun b => -b.1 - 1 == n) with | some b => some b.2 | none => m n
  | [], m, n, _ => rfl
  | b :: l, m, n, h => by
    have hp := List.pairwise_cons.1 h
    rw [List.foldl_cons, tab_fold l _ n hp.2, List.find?_cons]
    by_cases e : -b.1 - 1 = n
    · have hn : l.find? (fun b => -b.1 - 1 == n) = none := by
        rw [List.find?_eq_none]
        intro c hc
        have := hp.1 c hc
        simp; omega
      have e' : (-b.1 - 1 == n) = true := by simpa using e
      rw [hn, e']
      simp only
      rw [← e, updM_same_b]
    · have e' : (-b.1 - 1 == n) = false := by simpa using e
      rw [e']
      simp only
      cases hf : l.find? (fun b => -b.1 - 1 == n) with
      | some c => rfl
      | none => simp only; unfold updM; rw [if_neg (fun h => e h.symm)]
where updM_same_b {m : MM} {v : Int} {q : List Int} : updM m v q v = some q := by simp [updM]
theorem tabP_find {s : Sg} {l : BL} (h : bndsB s l = true) (n : Int) : tabP l n = (l.find? (fun b => -b.1 - 1 == n)).map Prod.snd := by
  unfold tabP
  rw [tab_fold l noM n (bndsB_iff.1 h).2.2]
  cases l.find? (fun b => -b.1 - 1 == n) <;> rfl
theorem tabP_of {s : Sg} {l : BL} (h : bndsB s l = true) (n : Int) : (tabP l n).getD [n] = ofN l n := by
  rw [tabP_find h]
  unfold ofN
  cases l.find? (fun b => -b.1 - 1 == n) <;> rfl
theorem tabP_mem {s : Sg} {l : BL} (h : bndsB s l = true) {n : Int} {p : List Int} (hp : tabP l n = some p) : ∃ b ∈ l, -b.1 - 1 = n ∧ b.2 = p := by
  rw [tabP_find h] at hp
  cases hf : l.find? (fun b => -b.1 - 1 == n) with
  | none => rw [hf] at hp; simp at hp
  | some b =>
    rw [hf] at hp
    simp at hp
    exact ⟨b, List.mem_of_find?_eq_some hf, by simpa using List.find?_some hf, hp⟩
theorem tabP_range {s : Sg} {l : BL} (h : bndsB s l = true) {n : Int} {p : List Int} (hp : tabP l n = some p) : (-12 ≤ n ∧ n < 0) ∧ termB s p = true ∧ p ≠ [n] := by
  obtain ⟨b, hb, h1, h2⟩ := tabP_mem h hp
  obtain ⟨a1, a3, a4⟩ := (bndsB_iff.1 h).2.1 b hb
  subst h1 h2
  exact ⟨by omega, a3, a4⟩
theorem ofN_T {s : Sg} {l : BL} (h : bndsB s l = true) {n : Int} (h1 : -12 ≤ n) (h2 : n < 0) : IsT s 12 (ofN l n) ∧ (ofN l n).length ≤ 60 := by
  rw [← tabP_of h]
  cases hp : tabP l n with
  | none => exact ⟨.var n h1 h2, by simp⟩
  | some p =>
    have := (tabP_range h hp).2.1
    exact ⟨termB_T this, (termB_facts this).2.2.2⟩
theorem subL_le {σ : Int → List Int} {B : Nat} (hB : 1 ≤ B) : ∀ (t : List Int), (∀ n ∈ t, n < 0 → (σ n).length ≤ B) → (subL σ t).length ≤ t.length * B
  | [], _ => by simp [subL]
  | x :: t, h => by
    have ih := subL_le hB t (fun n hn => h n (List.mem_cons_of_mem _ hn))
    by_cases hx : x < 0
    · rw [subL_cons_var σ hx, List.length_append, List.length_cons, Nat.add_mul]
      have := h x (by simp) hx
      omega
    · rw [subL_cons_app σ (by omega), List.length_cons, List.length_cons, Nat.add_mul]
      omega
theorem sub_le {s : Sg} {l : BL} (h : bndsB s l = true) {t : List Int} (ht : IsT s 12 t) : (subL (ofN l) t).length ≤ t.length * 60 :=
  subL_le (by omega) t fun n hn h0 => (ofN_T h (ht.vars n hn h0) h0).2
/-- the binds that a map tells. -/
def bndL (m : MM) (k : Nat) : BL := (List.range k).filterMap fun (v : Nat) => match m (-(v : Int) - 1) with | some l => if l = [-(v : Int) - 1] then none else some ((v : Int), l) | none => none
/-- Compose. -/
def comM (l m : BL) : MM := fun n => some (subL (ofN m) (ofN l n))
def comLe (l m : BL) (v : Nat) : Bool := decide ((subL (ofN m) (ofN l (-(v : Int) - 1))).length ≤ 60)
def comR (s : Sg) (l m : BL) : BL × Int :=
  if bndsB s l && bndsB s m then (if (List.range 12).all (comLe l m) then (bndL (comM l m) 12, 0) else ([], 4)) else ([], 1)
end Go.Proofs.YtlbjbmpkaniojaaGreat
namespace Go.Proofs.YtlbjbmpkaniojaaGreat
open Go Go.RowKit Go.Maps
/-- kept while the iterator moves (its own blocks O turn, the world grows), and while the loop's own record (block B + 1) turns. -/
structure GrwF (B : Nat) (F : Nat → Prop) (I : (Nat → Prop) → (Nat → Prop) → World → Prop) : Prop where
  grow : ∀ (M O O' : Nat → Prop) (W W' : World), I M O W → Kb O W W' → (∀ k, O' k → O k ∨ W.heap.size ≤ k) → (∀ k, O k → (B + 2 ≤ k ∨ F k) ∧ ¬ M k) → I M O' W'
  turn : ∀ (M O : Nat → Prop) (W : World) (o o' : Obj), W.heap[B + 1]? = some o → o.isCells = false → I M O W → ¬ M (B + 1) → I M O (W.putObj (B + 1) o')
theorem GrwF.below {B : Nat} {F : Nat → Prop} {I : (Nat → Prop) → (Nat → Prop) → World → Prop} (h : GrwF B F I) {M O : Nat → Prop} {W W' : World} (hi : I M O W) (hO : ∀ k, O k → (B + 2 ≤ k ∨ F k) ∧ ¬ M k) {b : Nat} (hb : Below b W W') (he : b = W.heap.size := by rfl) : I M O W' := h.grow M O O W W' hi (Kb.of_below (he ▸ hb)) (fun _ hk => Or.inl hk) hO
theorem GrwF.put {B : Nat} {F : Nat → Prop} {I : (Nat → Prop) → (Nat → Prop) → World → Prop} (h : GrwF B F I) {M O : Nat → Prop} {W : World} {o : Obj} (ho : W.heap[B + 1]? = some o) (hc : o.isCells = false) (o' : Obj) (hi : I M O W) (hm : ¬ M (B + 1)) : I M O (W.putObj (B + 1) o') := h.turn M O W o o' ho hc hi hm
/-- the contract of an iterator, as SeqE, but it is told that the blocks that turn are there. -/
def SeqF (F : Nat → Prop) (P : Program) {α : Type} (g : Nat) (lb : Array Value) (encs : α → Array Value) (E : List α → α → (Nat → Prop) → (Nat → Prop) → World → Prop) (S : List α → Prop) (N : Nat → Prop) (w0 : World) : Prop :=
  ∀ (l : Nat) (J Jx : List α → (Nat → Prop) → (Nat → Prop) → World → Prop) (M0 : Nat → Prop) (W : World), Below w0.heap.size w0 W → (∀ k, M0 k → ¬ N k ∧ k < W.heap.size) →
    (∀ pre M O O' A B, J pre M O A → Kb O A B → (∀ k, O' k → (O k ∨ A.heap.size ≤ k) ∧ k < B.heap.size) → J pre M O' B) → (∀ pre M O O' A B, Jx pre M O A → Kb O A B → (∀ k, O' k → (O k ∨ A.heap.size ≤ k) ∧ k < B.heap.size) → Jx pre M O' B) →
    (∀ pre x M O W1, J pre M O W1 → E pre x M O W1 → YieldAt Fence.wide 1 P l (encs x) W1 fun e W' => ∃ M', (∀ k, M' k → M k ∨ W1.heap.size ≤ k) ∧ (∀ k, M' k → k < W'.heap.size) ∧ Kb M W1 W' ∧
      ((e = .returned (.bool true) ∧ J (pre ++ [x]) M' O W') ∨ (e = .returned (.bool false) ∧ Jx (pre ++ [x]) M' O W'))) →
    J [] M0 F W →
    CallsIn Fence.wide 2 P g (#[.func (.yield l) #[] #[]] ++ lb) W fun e W' => (∃ v, e = .returned v) ∧ ((∃ xs M O, S xs ∧ J xs M O W') ∨ (∃ pre M O, Jx pre M O W'))
theorem wpIn_rangeF {F : Nat → Prop} {P : Program} {α : Type} {g : Operand} {ps : Array Tmp} {assign body : Code} {Q : Exit → Act → World → Prop} {a : Act} {w : World}
    {gf : Nat} {lb : Array Value} (hg : a.eval g = .func (.func gf) #[] lb) (eg : ∀ args w, (callFunc gf args).run P w = .ok (.enter gf args) w)
    {encs : α → Array Value} {E : List α → α → (Nat → Prop) → (Nat → Prop) → World → Prop} {S : List α → Prop} {N : Nat → Prop} {w0 : World} (hseq : SeqF F P gf lb encs E S N w0) (hb0 : Below w0.heap.size w0 w) (hps : ∀ x, (encs x).size = ps.size)
    (hE : ∀ pre x (M O : Nat → Prop) (W : World) k (o o' : Obj), E pre x M O W → M k → W.heap[k]? = some o → o.isCells = false → E pre x M O (W.putObj k o')) (hE2 : ∀ pre x (M O : Nat → Prop) (A B : World), E pre x M O A → Below A.heap.size A B → E pre x M O B) (hN : ∀ k, N k → k < w.heap.size)
    (I : List α → (Nat → Prop) → (Nat → Prop) → World → Prop) (Ix : Code → List α → (Nat → Prop) → (Nat → Prop) → World → Prop) (M0 : Nat → Prop) (hM0 : ∀ k, M0 k → ¬ N k ∧ k < w.heap.size)
    (hI : ∀ pre, GrwF w.heap.size F (I pre)) (hIx : ∀ c pre, GrwF w.heap.size F (Ix c pre)) (h0 : I [] M0 F w) (hF : ∀ k, F k → N k)
    (hround : ∀ (l : Nat) (pre : List α) (x : α) (M O : Nat → Prop) (W : World), w.heap.size + 2 ≤ W.heap.size → (∀ k, M k → k ≠ w.heap.size ∧ k ≠ w.heap.size + 1 ∧ k < W.heap.size ∧ ¬ N k) → (∀ k, O k → (w.heap.size + 2 ≤ k ∨ F k) ∧ ¬ M k ∧ k < W.heap.size) →
      (∀ w₁ W2, Below W.heap.size W w₁ → RecT (w.heap.size + 1) w₁ W2 → I pre M O W2 ∧ E pre x (fun k => M k ∨ k = w.heap.size + 1) O W2 ∧ W2.heap.size = w₁.heap.size) →
      assign.wpIn (Fence.wide.inRound l) 1 P (Exit.then (fun a₁ w₁ => Below W.heap.size W w₁ ∧ ∀ W2, RecT (w.heap.size + 1) w₁ W2 → body.wpIn (Fence.wide.inRound l) 1 P (rpost (fun xs M W => I xs M O W) (fun c xs M W => Ix c xs M O W) (pre ++ [x]) M W.heap.size W2) a₁ W2) (fun _ _ _ => False))
        { tmps := (ps.zip (encs x)).foldl (fun t (p, v) => t.setIfInBounds p v) a.tmps, defers := [] } W)
    (hdone : ∀ (xs : List α) (M O : Nat → Prop) (W : World), S xs → I xs M O W → W.heap[w.heap.size]? = some (.deferred (some [])) → (∀ k, M k → k ≠ w.heap.size) → Q .normal { a with defers := { target := .collected w.heap.size, args := #[] } :: a.defers } W)
    (hstop : ∀ (c : Code) (pre : List α) (M O : Nat → Prop) (W : World), Ix c pre M O W → W.heap[w.heap.size]? = some (.deferred (some [])) → (∀ k, M k → k ≠ w.heap.size) → c.wpIn Fence.wide 3 P Q { a with defers := { target := .collected w.heap.size, args := #[] } :: a.defers } W) :
    (Code.rangeFunc g ps assign body).wpIn Fence.wide 3 P Q a w := by
  refine wpIn_rangeFunc ?_
  intro fn hfn
  obtain ⟨rec, hrec⟩ : ∃ rec : LoopState → Option Code → Loop, rec = fun st pe => { state := st, pending := pe, fn, tmps := a.tmps, params := ps, assign, body, defers := w.heap.size } := ⟨_, rfl⟩
  obtain ⟨W1, hW1⟩ : ∃ W1, (w.alloc (.deferred (some []))).alloc (.loop (rec .ready none)) = W1 := ⟨_, rfl⟩
  have hL1 : W1.heap[w.heap.size + 1]? = some (.loop (rec .ready none)) := by
    rw [← hW1]; have := World.alloc_heap_new (w.alloc (.deferred (some []))) (.loop (rec .ready none)); rwa [World.size_alloc] at this
  have hK1 : W1.heap[w.heap.size]? = some (.deferred (some [])) := by
    rw [← hW1]; exact (Below.heap_alloc _ _ _ (by simp)).trans (World.alloc_heap_new w _)
  have hbw1 : Below w.heap.size w W1 := by rw [← hW1]; exact ((Below.refl _ w).alloc (Nat.le_refl _) _).alloc (by simp) _
  have hsz1 : W1.heap.size = w.heap.size + 2 := by rw [← hW1]; simp
  refine ⟨w.heap.size + 1, [{ target := .collected w.heap.size, args := #[] }], W1, { target := .fn (.func gf) lb, args := #[.func (.yield (w.heap.size + 1)) #[] #[]] }, W1, gf,
    #[.func (.yield (w.heap.size + 1)) #[] #[]] ++ lb, W1, ?_, ?_, ?_, ?_, fun _ => by omega, ?_⟩
  · rw [← hW1, hrec]; exact run_enterLoop_outer _ _ _ _ _
  · simp only [resolve, hg]
    simp [go_sem]
  · intro f' _; trivial
  · simp [invoke, go_sem, eg]
  · refine (hseq (w.heap.size + 1)
      (fun pre Mi O W => ∃ M, (∀ k, Mi k ↔ M k ∨ k = w.heap.size + 1) ∧ (∀ k, M k → k ≠ w.heap.size ∧ k ≠ w.heap.size + 1 ∧ k < W.heap.size ∧ ¬ N k) ∧ (∀ k, O k → (w.heap.size + 2 ≤ k ∨ F k) ∧ ¬ M k ∧ k < W.heap.size) ∧ I pre M O W ∧ W.heap[w.heap.size + 1]? = some (.loop (rec .ready none)) ∧ W.heap[w.heap.size]? = some (.deferred (some [])))
      (fun pre Mi O W => ∃ c M, (∀ k, M k → k ≠ w.heap.size ∧ k ≠ w.heap.size + 1 ∧ k < W.heap.size) ∧ (∀ k, O k → (w.heap.size + 2 ≤ k ∨ F k) ∧ ¬ M k ∧ k < W.heap.size) ∧ Ix c pre M O W ∧ W.heap[w.heap.size + 1]? = some (.loop (rec .done (some c))) ∧ W.heap[w.heap.size]? = some (.deferred (some [])))
      (fun k => M0 k ∨ k = w.heap.size + 1) W1 (hb0.trans (hbw1.mono hb0.size)) ?_ ?_ ?_ ?_ ⟨M0, fun _ => Iff.rfl, ?_, (fun k h => ⟨Or.inr h, fun hm => (hM0 k hm).1 (hF k h), by have := hN _ (hF _ h); omega⟩), (hI []).below h0 (fun k h => ⟨Or.inr h, fun hm => (hM0 k hm).1 (hF k h)⟩) hbw1, hL1, hK1⟩).mono ?_
    · rintro k (hk | rfl)
      · exact ⟨(hM0 k hk).1, by have := (hM0 k hk).2; omega⟩
      · exact ⟨fun h => by have := hN _ h; omega, by omega⟩
    · rintro pre Mi O O' A B ⟨M, h1, h2, h2o, h3, h4, h5⟩ hAB hO'
      have hs := hAB.size
      have e1 := (Array.getElem?_eq_some_iff.1 h4).1
      have e2 := (Array.getElem?_eq_some_iff.1 h5).1
      refine ⟨M, h1, fun k hk => ⟨(h2 k hk).1, (h2 k hk).2.1, Nat.lt_of_lt_of_le (h2 k hk).2.2.1 hs, (h2 k hk).2.2.2⟩, fun k hk => ?_, (hI pre).grow M O O' A B h3 hAB (fun k hk => (hO' k hk).1) (fun k hk => ⟨(h2o k hk).1, (h2o k hk).2.1⟩), (hAB.same _ e1 (fun h => by rcases (h2o _ h).1 with h | h; omega; have := hN _ (hF _ h); omega)).trans h4, (hAB.same _ e2 (fun h => by rcases (h2o _ h).1 with h | h; omega; have := hN _ (hF _ h); omega)).trans h5⟩
      rcases (hO' k hk).1 with h | h
      · exact ⟨(h2o k h).1, (h2o k h).2.1, (hO' k hk).2⟩
      · exact ⟨Or.inl (by omega), fun hm => by have := (h2 k hm).2.2.1; omega, (hO' k hk).2⟩
    · rintro pre Mi O O' A B ⟨c, M, h2, h2o, h3, h4, h5⟩ hAB hO'
      have hs := hAB.size
      have e1 := (Array.getElem?_eq_some_iff.1 h4).1
      have e2 := (Array.getElem?_eq_some_iff.1 h5).1
      refine ⟨c, M, fun k hk => ⟨(h2 k hk).1, (h2 k hk).2.1, Nat.lt_of_lt_of_le (h2 k hk).2.2 hs⟩, fun k hk => ?_, (hIx c pre).grow M O O' A B h3 hAB (fun k hk => (hO' k hk).1) (fun k hk => ⟨(h2o k hk).1, (h2o k hk).2.1⟩), (hAB.same _ e1 (fun h => by rcases (h2o _ h).1 with h | h; omega; have := hN _ (hF _ h); omega)).trans h4, (hAB.same _ e2 (fun h => by rcases (h2o _ h).1 with h | h; omega; have := hN _ (hF _ h); omega)).trans h5⟩
      rcases (hO' k hk).1 with h | h
      · exact ⟨(h2o k h).1, (h2o k h).2.1, (hO' k hk).2⟩
      · exact ⟨Or.inl (by omega), fun hm => by have := (h2 k hm).2.2; omega, (hO' k hk).2⟩
    · rintro pre x Mi O W ⟨M, hMi, hM, hO, hi, hl, hk⟩ he
      have hMq : Mi = fun k => M k ∨ k = w.heap.size + 1 := funext fun k => propext (hMi k)
      have hlt : w.heap.size + 1 < W.heap.size := (Array.getElem?_eq_some_iff.1 hl).1
      have hy := run_yield (P := P) (args := encs x) hl (by rw [hrec]; exact hps x)
      rw [hrec] at hy
      have hnl : ¬ M (w.heap.size + 1) := fun h => (hM _ h).2.1 rfl
      refine ⟨fn, _, assign, body, hy, roundIn_of_wpIn hfn (wpIn_mono (hround (w.heap.size + 1) pre x M O W (by omega) hM hO ?_) ?_)⟩
      · rintro w₁ W2 hbw ⟨o, rfl⟩
        have hl1 := (hbw.block _ hlt).trans hl
        exact ⟨(hI pre).put hl1 rfl _ ((hI pre).below hi (fun k hk => ⟨(hO k hk).1, (hO k hk).2.1⟩) hbw) hnl, hE pre x _ O w₁ _ _ _ (hE2 pre x _ O W w₁ (hMq ▸ he) hbw) (Or.inr rfl) hl1 rfl, by simp⟩
      · intro e₁ a₁ w₁ hp₁
        cases e₁ with
        | normal =>
          obtain ⟨hbw, hbody⟩ := hp₁
          have hl1 : w₁.heap[w.heap.size + 1]? = some (.loop (rec .ready none)) := (hbw.block _ hlt).trans hl
          have hk1 : w₁.heap[w.heap.size]? = some (.deferred (some [])) := (hbw.block _ (by omega)).trans hk
          refine ⟨_, run_beginRound hl1 (by rw [hrec]), ?_⟩
          obtain ⟨W2, hW2⟩ : ∃ W2, w₁.putObj (w.heap.size + 1) (.loop { rec .ready none with state := .busy }) = W2 := ⟨_, rfl⟩
          have hl2 : W2.heap[w.heap.size + 1]? = some (.loop { rec .ready none with state := .busy }) := by rw [← hW2]; exact World.putObj_heap_same (by have := hbw.size; omega)
          have hk2 : W2.heap[w.heap.size]? = some (.deferred (some [])) := by rw [← hW2]; exact (World.putObj_heap_other (by omega)).trans hk1
          have hs2 : W2.heap.size = w₁.heap.size := by rw [← hW2]; simp
          have hs1 := hbw.size
          have hkb2 : Kb Mi W W2 := by rw [← hW2]; exact (Kb.of_below hbw).trans (Kb.put (M := Mi) _ ((hMi _).2 (Or.inr rfl))) (fun q hq => Or.inl hq)
          have hb2 := hbody W2 ⟨_, hW2.symm⟩
          have key : ∀ (jump : Option Code) (W3 : World) (M' : Nat → Prop), (∀ k, M' k → M k ∨ W.heap.size ≤ k) → Kb (fun k => M k ∨ W.heap.size ≤ k) W2 W3 →
              (Instr.endRound (w.heap.size + 1) jump).run P W3 = .ok (.bool jump.isNone) (W3.putObj (w.heap.size + 1) (.loop (rec (if jump.isNone then .ready else .done) jump))) ∧
              (W3.putObj (w.heap.size + 1) (.loop (rec (if jump.isNone then .ready else .done) jump))).heap[w.heap.size + 1]? = some (.loop (rec (if jump.isNone then .ready else .done) jump)) ∧
              (W3.putObj (w.heap.size + 1) (.loop (rec (if jump.isNone then .ready else .done) jump))).heap[w.heap.size]? = some (.deferred (some [])) ∧
              Kb Mi W (W3.putObj (w.heap.size + 1) (.loop (rec (if jump.isNone then .ready else .done) jump))) ∧ ¬ M' (w.heap.size + 1) ∧ ¬ M' w.heap.size ∧ W3.heap[w.heap.size + 1]? = some (.loop { rec .ready none with state := .busy }) := by
            intro jump W3 M' hM' hkb
            have hl3 : W3.heap[w.heap.size + 1]? = some (.loop { rec .ready none with state := .busy }) := (hkb.same _ (by omega) (fun h => by rcases h with h | h <;> first | exact hnl h | omega)).trans hl2
            have hk3 : W3.heap[w.heap.size]? = some (.deferred (some [])) := (hkb.same _ (by omega) (fun h => by rcases h with h | h <;> first | exact (hM _ h).1 rfl | omega)).trans hk2
            have hrun := run_endRound (P := P) jump hl3
            refine ⟨by rw [hrec] at hrun ⊢; exact hrun, World.putObj_heap_same (Array.getElem?_eq_some_iff.1 hl3).1, (World.putObj_heap_other (by omega)).trans hk3, ?_, fun h => ?_, fun h => ?_, hl3⟩
            · exact (hkb2.trans hkb (fun q hq => by rcases hq with hq | hq; exact Or.inl ((hMi q).2 (Or.inl hq)); exact Or.inr hq)).trans (Kb.put (M := Mi) _ ((hMi _).2 (Or.inr rfl))) (fun q hq => Or.inl hq)
            · rcases hM' _ h with h1 | h1
              · exact hnl h1
              · omega
            · rcases hM' _ h with h1 | h1
              · exact (hM _ h1).1 rfl
              · omega
          rw [hW2]
          refine wpIn_mono hb2 ?_
          have bnd : ∀ (M' : Nat → Prop) (W3 : World) (o o' : Obj), (∀ k, M' k → k < W3.heap.size) → W3.heap[w.heap.size + 1]? = some o → ∀ k, (M' k ∨ k = w.heap.size + 1) → k < (W3.putObj (w.heap.size + 1) o').heap.size := by
            rintro M' W3 o o' hM' ho k (hk | rfl)
            · simp; exact hM' k hk
            · simp; exact (Array.getElem?_eq_some_iff.1 ho).1
          have fresh : ∀ (M' : Nat → Prop), (∀ k, M' k → M k ∨ W.heap.size ≤ k) → ∀ k, (M' k ∨ k = w.heap.size + 1) → Mi k ∨ W.heap.size ≤ k := by
            rintro M' hM' k (h | rfl)
            · rcases hM' k h with h1 | h1
              · exact Or.inl ((hMi k).2 (Or.inl h1))
              · exact Or.inr (by omega)
            · exact Or.inl ((hMi _).2 (Or.inr rfl))
          have boO : ∀ (M' : Nat → Prop) (W3 : World) (o : Obj), (∀ k, M' k → (M k ∨ W.heap.size ≤ k) ∧ k < W3.heap.size) → Kb (fun k => M k ∨ W.heap.size ≤ k) W2 W3 → ∀ k, O k → (w.heap.size + 2 ≤ k ∨ F k) ∧ ¬ M' k ∧ k < (W3.putObj (w.heap.size + 1) o).heap.size := by
            intro M' W3 o hM' hkb k hk
            have h1 := hO k hk
            have h2 := hkb.size
            refine ⟨h1.1, fun h => ?_, by simp; omega⟩
            rcases (hM' k h).1 with h3 | h3
            · exact h1.2.1 h3
            · omega
          rintro e a3 W3 hp
          cases e with
          | normal =>
            obtain ⟨M', hM', hkb, hi3⟩ := hp
            obtain ⟨hr, hl4, hk4, hkb4, hn1, hn2, hl5⟩ := key none W3 M' (fun k hk => (hM' k hk).1) hkb
            refine ⟨_, _, hr, fun k => M' k ∨ k = w.heap.size + 1, fresh M' (fun k hk => (hM' k hk).1), bnd M' _ _ _ (fun k hk => (hM' k hk).2) hl5, hkb4, Or.inl ⟨rfl, M', fun _ => Iff.rfl, fun k hk => ⟨fun e => hn2 (e ▸ hk), fun e => hn1 (e ▸ hk), by simp; exact (hM' k hk).2, ?_⟩, boO M' W3 _ hM' hkb, (hI _).put hl5 rfl _ hi3 hn1, hl4, hk4⟩⟩
            rcases (hM' k hk).1 with h1 | h1
            · exact (hM k h1).2.2.2
            · exact fun h => by have := hN k h; omega
          | ret =>
            obtain ⟨M', hM', hkb, hi3⟩ := hp
            obtain ⟨hr, hl4, hk4, hkb4, hn1, hn2, hl5⟩ := key (some .ret) W3 M' (fun k hk => (hM' k hk).1) hkb
            exact ⟨_, _, hr, fun k => M' k ∨ k = w.heap.size + 1, fresh M' (fun k hk => (hM' k hk).1), bnd M' _ _ _ (fun k hk => (hM' k hk).2) hl5, hkb4, Or.inr ⟨rfl, .ret, M', fun k hk => ⟨fun e => hn2 (e ▸ hk), fun e => hn1 (e ▸ hk), by simp; exact (hM' k hk).2⟩, boO M' W3 _ hM' hkb, (hIx _ _).put hl5 rfl _ hi3 hn1, hl4, hk4⟩⟩
          | exit id =>
            obtain ⟨M', hM', hkb, hi3⟩ := hp
            obtain ⟨hr, hl4, hk4, hkb4, hn1, hn2, hl5⟩ := key (some (.exit id)) W3 M' (fun k hk => (hM' k hk).1) hkb
            exact ⟨_, _, hr, fun k => M' k ∨ k = w.heap.size + 1, fresh M' (fun k hk => (hM' k hk).1), bnd M' _ _ _ (fun k hk => (hM' k hk).2) hl5, hkb4, Or.inr ⟨rfl, .exit id, M', fun k hk => ⟨fun e => hn2 (e ▸ hk), fun e => hn1 (e ▸ hk), by simp; exact (hM' k hk).2⟩, boO M' W3 _ hM' hkb, (hIx _ _).put hl5 rfl _ hi3 hn1, hl4, hk4⟩⟩
          | goto t =>
            obtain ⟨M', hM', hkb, hi3⟩ := hp
            obtain ⟨hr, hl4, hk4, hkb4, hn1, hn2, hl5⟩ := key (some (.goto t)) W3 M' (fun k hk => (hM' k hk).1) hkb
            exact ⟨_, _, hr, fun k => M' k ∨ k = w.heap.size + 1, fresh M' (fun k hk => (hM' k hk).1), bnd M' _ _ _ (fun k hk => (hM' k hk).2) hl5, hkb4, Or.inr ⟨rfl, .goto t, M', fun k hk => ⟨fun e => hn2 (e ▸ hk), fun e => hn1 (e ▸ hk), by simp; exact (hM' k hk).2⟩, boO M' W3 _ hM' hkb, (hIx _ _).put hl5 rfl _ hi3 hn1, hl4, hk4⟩⟩
          | panic ch => exact hp.elim
          | outgrown => exact hp.elim
        | ret => exact hp₁.elim
        | exit id => exact hp₁.elim
        | goto t => exact hp₁.elim
        | panic ch => exact hp₁.elim
        | outgrown => exact hp₁.elim
    · intro k hk
      have := hM0 k hk
      exact ⟨by omega, by omega, by omega, this.1⟩
    · rintro e W2 ⟨⟨v, rfl⟩, (⟨xs, Mi, O, hS, M, hMi, hM, hO, hi, hl, hk⟩ | ⟨pre, Mi, O, c, M, hM, hO, hi, hl, hk⟩)⟩
      · refine ⟨none, _, by have := run_endLoop (P := P) hl (by rw [hrec]; simp); rw [hrec] at this; exact this, hdone xs M O _ hS ((hI xs).put hl rfl _ hi (fun h => (hM _ h).2.1 rfl)) ((World.putObj_heap_other (by omega)).trans hk) (fun k hk => (hM k hk).1)⟩
      · refine ⟨some c, _, by have := run_endLoop (P := P) hl (by rw [hrec]; simp); rw [hrec] at this; exact this, hstop c pre M O _ ((hIx c pre).put hl rfl _ hi (fun h => (hM _ h).2.1 rfl)) ((World.putObj_heap_other (by omega)).trans hk) (fun k hk => (hM k hk).1)⟩
end Go.Proofs.YtlbjbmpkaniojaaGreat
