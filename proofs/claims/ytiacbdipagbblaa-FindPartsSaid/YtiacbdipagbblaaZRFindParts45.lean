/-
  WHAT IT HOLDS: contracts of where, Where, Having of package lemmaryref05. Conditions: the arguments read as data; small signs and shelves.
-/
import Derived.Test.YtiacbdipagbblaaZRFindParts23
import Derived.Test.YtiacbdipagbblaaZRFindParts26
import Derived.Test.YtiacbdipagbblaaZRFindParts44
namespace Go.Proofs.Ytiacbdipagbblaa
open Go Go.RowKit Go.Maps
attribute [local go_sem] Oper.semAt_some
def whrF (s : Sg) (t q : List Int) (n : Nat) : List (List Int) := (((prs s [[]] t).take n).filter fun x => instB s q x.2).map Prod.fst
theorem whrF_all {s : Sg} {t q : List Int} {n : Nat} (h : (prs s [[]] t).length ≤ n) : whrF s t q n = whrL s t q := by unfold whrF whrL; rw [List.take_of_length_le h]
theorem prs_at {s : Sg} {t v r p : List Int} {n : Nat} (hT : IsT s 12 t) (hv : IsT s 12 v) (hd : t.drop n = v ++ r) (hp : (wayL s t)[n]? = some p) : (prs s [[]] t)[n]? = some (p, v) := by
  have h := (List.getElem?_eq_some_iff.1 hp).1
  have h2 := (List.getElem?_eq_some_iff.1 hp).2
  have hl : n < (prs s [[]] t).length := by unfold wayL at h; rwa [List.length_map] at h
  rw [List.getElem?_eq_getElem hl]
  have e2 := prs_get t [[]] n hl
  rw [hd, tk_one hv] at e2
  have e1 : (prs s [[]] t)[n].1 = p := by
    rw [← h2]; simp [wayL]
  rw [← e1, ← e2]
theorem whrF_succ {s : Sg} {t v p q : List Int} {n : Nat} (h : (prs s [[]] t)[n]? = some (p, v)) : whrF s t q (n + 1) = whrF s t q n ++ (if instB s q v then [p] else []) := by
  unfold whrF
  rw [List.take_add_one, h, List.filter_append, List.map_append]
  cases hi : instB s q v <;> simp [hi]
theorem whrF_len (s : Sg) (t q : List Int) (n : Nat) : (whrF s t q n).length ≤ n := by
  unfold whrF
  rw [List.length_map]
  exact Nat.le_trans (List.length_filter_le _ _) (List.length_take_le _ _)
theorem whrF_short {s : Sg} {t q : List Int} {n : Nat} : ∀ p ∈ whrF s t q n, p.length ≤ t.length := by
  intro p hp
  unfold whrF at hp
  obtain ⟨x, hx, rfl⟩ := List.mem_map.1 hp
  have := way_small t [[]] 0 (by simp) x (List.mem_of_mem_take (List.mem_filter.1 hx).1)
  omega
set_option maxHeartbeats 4000000 in
set_option maxRecDepth 100000 in
theorem ref5_where (vs vt vq : Value) (s : Sg) (t q : List Int) (w : World) (hs : SignAt w vs s) (ht : Ints w vt t) (hq : Ints w vq q) (hT : termB s t = true) (hs1 : s.length ≤ 1000) :
    Calls Try.prog 74 #[vs, vt, vq] w fun e w' => ∃ u, e = .returned u ∧ Terms w' u (whrL s t q) ∧ Below w.heap.size w w' := by
  obtain ⟨hsg, hs0, hs12, ht60⟩ := termB_facts hT
  have hIT := termB_T hT
  have hlt := fun x hx => T_lt hIT (by omega) x hx
  have HWY := hid (ref1_Ways vs vt s t w hs ht hIT ht60 hlt)
  have HS := hid hs
  have HT := hid ht
  have HQ := hid hq
  have HLT := hid hlt
  have hpl : (prs s [[]] t).length = t.length := prs_len hIT []
  have HPL := hid hpl
  have HWL := hid (way_len hIT)
  obtain ⟨ta, tc, rfl, -⟩ := ht.open
  clear hs ht hq hlt hpl
  go_enter Try.func74, Try.ntmps74
  go_wp2_with fail
  refine HWY.out.mono ?_
  rintro e w1 ⟨uw, rfl, hw1, hb1⟩
  have HW1 := hid hw1
  have HB1 := hid hb1
  obtain ⟨wa, wc, hwe, -⟩ := hw1.open
  subst hwe
  clear hw1 hb1
  go_wp2
  go_loopw [8, 9] (fun uo nv wr => ∃ (n : Nat) (vvs : List Value), n ≤ t.length ∧ nv = .int .i64 n ∧ NR wr w1.heap.size 25 3 uo vvs (whrF s t q n) ∧ Below w1.heap.size w1 wr) (fun _ nv _ => t.length - (intOf nv).toNat)
  case atStart => exact ⟨0, [], by omega, rfl, by unfold whrF; exact NR.nil _ _ _ _, Below.refl _ _⟩
  case round =>
    obtain ⟨n, vvs, hn, rfl, hnr, hb⟩ := hrel
    have hbs := hb.size
    have HNR := hid hnr
    have HB := hid hb
    have hbw := HB1.out.trans (hb.mono HB1.out.size)
    have hfl := whrF_len s t q n
    by_cases hlt : n < t.length
    · obtain ⟨v, r, hv, hd⟩ := part_at hIT n hlt
      have hwl : n < (wayL s t).length := by rw [HWL.out]; exact hlt
      obtain ⟨p, hp⟩ : ∃ p, (wayL s t)[n]? = some p := ⟨_, List.getElem?_eq_getElem hwl⟩
      have hpe : (wayL s t)[n] = p := (List.getElem?_eq_some_iff.1 hp).2
      have hvl : v.length ≤ 60 := by have := congrArg List.length hd; rw [List.length_drop, List.length_append] at this; omega
      have HSUC := hid (whrF_succ (q := q) (prs_at hIT hv hd hp))
      have hps := way_short hp
      obtain ⟨a9, c9, he9, -, -, -, HC⟩ := HW1.out.open
      obtain ⟨rfl, -, rfl⟩ := Value.slice.inj he9
      obtain ⟨bb, bo, pv, rfl, hc0, hpi0⟩ := HC n hwl
      rw [hpe] at hpi0
      have hc := (hb.cell (World.block_lt_of_cell? _ _ hc0)).trans hc0
      have hpi := hpi0.below hb
      obtain ⟨pa, pc, rfl, -⟩ := hpi.open
      have HPI := hid hpi
      have HPT := hid (ref1_Part vs (.slice ta t.length tc) s 12 t v r n wr (HS.out.below hbw) (HT.out.below hbw) hv hd HLT.out (by omega) hlt)
      have HBW := hid hbw
      have y0 : (0 : Int) ≤ (n : Int) := by omega
      have y1 : (n : Int) < (t.length : Int) := by omega
      have y2 : (n : Int) < ((wayL s t).length : Int) := by rw [HWL.out]; omega
      clear HC hc0 hpi0 hpi hpe hp hd hnr hb hbw
      go_wp2_with fail
      refine HPT.out.mono ?_
      rintro e w2 ⟨uv, rfl, hou, hb2⟩
      have HIN := hid (ref2_Instance vs vq uv s q v w2 (HS.out.below (HBW.out.trans (hb2.mono HBW.out.size))) (HQ.out.below (HBW.out.trans (hb2.mono HBW.out.size))) (Ints.of_owns hou (by omega)) hs1)
      have HB2 := hid hb2
      clear hou hb2
      cases hin : instB s q v
      · rw [hin] at HIN HSUC
        clear hin
        go_wp2_with fail
        refine HIN.out.mono ?_
        rintro e w3 ⟨rfl, hb3⟩
        have hb03 := HB2.out.trans (hb3.mono HB2.out.size)
        have HNR3 := hid (HNR.out.below hb03)
        have HB3 := hid (HB.out.trans (hb03.mono hbs))
        clear hb3 hb03
        go_wp2
        go_roundw
        case rel => exact ⟨n + 1, vvs, by omega, by go_num, by rw [HSUC.out]; simpa using HNR3.out, HB3.out⟩
        case measure => simp [intOf]; omega
      · rw [hin] at HIN HSUC
        clear hin
        go_wp2_with fail
        refine HIN.out.mono ?_
        rintro e w3 ⟨rfl, hb3⟩
        have hb03 := HB2.out.trans (hb3.mono HB2.out.size)
        have hc3 := (hb03.cell (World.block_lt_of_cell? _ _ hc)).trans hc
        have HNR3 := hid (HNR.out.below hb03)
        have HB3 := hid (HB.out.trans (hb03.mono hbs))
        have hs3 := hb03.size
        have HP3 := hid (HPI.out.below hb03)
        have HO0 := hid (World.ownsRow_lit (base := w3.heap.size) (e := 3) (size := 1) w3 #[] 0 (Nat.le_refl _) (by simp [maxLen]) rfl)
        have hbA : Below w3.heap.size w3 (w3.alloc (.cells #[] 3)) := (Below.refl _ _).alloc (Nat.le_refl _) _
        have HBA := hid hbA
        have HPA := hid (HP3.out.below hbA)
        have hlt3 := World.block_lt_of_cell? _ _ hc3
        have hcA := (hbA.cell (p := ⟨bb, bo + n, none⟩) hlt3).trans hc3
        have HTOP := hid (HNR3.out.top)
        clear hb3 hb03 hbA
        go_wp2_with (first
          | (at_builtin; refine wpList_append_row rfl _ _ 25 rfl w3.heap.size 3 el_int Try.underlying25 rfl (by decide) _ _ _ rfl HO0.out _ p.length (p.map (Value.int .i64)) rfl HPA.out (ints_one p) (by omega) (by omega) (by simp) ?_; intro v6 w6 hown6 hgrow6 _; simp only [Nat.zero_add, List.nil_append] at hown6; obtain ⟨a6, c6, rfl⟩ := ownsRow_slice' hown6; have hb6 : Below w3.heap.size w3 w6 := HBA.out.grown hgrow6 (by simp) (fun k hk => by cases hk; exact Nat.le_refl _); have hs6 := hb6.size; have htop6 := owns_below HTOP.out (hb6.alloc hs6 (.cells #[.slice a6 p.length c6] 25)))
          | (at_builtin; refine wpList_append_lie rfl _ _ 33 rfl w1.heap.size 25 el_ints Try.underlying33 rfl (by decide) _ _ _ rfl htop6 _ 1 [.slice a6 p.length c6] rfl (row_one_new _ _ _) (oneCell_one rfl) (by omega) (by omega) (by omega) (by simp; omega) _ rfl ?_; intro g7 c7 w7 hown7 hgrow7 hat7 hlt7))
        have hown6' : w6.ownsRow w3.heap.size 3 1 (.slice a6 p.length c6) p.length (p.map (Value.int .i64)) := by simpa using hown6
        have hb6A := hb6.alloc hs6 (.cells #[.slice a6 p.length c6] 25)
        have HN := hid (NR.pushNew (base' := w3.heap.size) HNR3.out (Nat.le_refl _) (by omega) hb6A (owns_below hown6' ((Below.refl _ _).alloc (Nat.le_refl _) (.cells #[.slice a6 p.length c6] 25))) rfl (by simpa using hown7) hgrow7 rfl hat7)
        have HB7 := hid ((HB3.out.trans (hb6A.mono (by omega))).grown hgrow7 (by simp; omega) (fun k hk => (htop6.lt k hk).1))
        clear hown6 hown7 hgrow7 hat7 hb6 hb6A htop6 hown6'
        go_wp2
        go_roundw
        case rel => exact ⟨n + 1, _, by omega, by go_num, by rw [HSUC.out]; exact HN.out, HB7.out⟩
        case measure => simp [intOf]; omega
    · have hnt : n = t.length := by omega
      have hF : whrF s t q n = whrL s t q := whrF_all (by rw [HPL.out]; omega)
      have h1 := HNR.out.terms (by omega) (fun g hg => by have := whrF_short g hg; omega)
      rw [hF] at h1
      have HTT := hid h1
      clear h1 hF
      have HBW := hid hbw
      clear hnr hb hbw
      go_wp2
      go_ret
      exact ⟨_, rfl, HTT.out, HBW.out⟩
def whereR (s : Sg) (t q : List Int) : List (List Int) × Int := if (termB s t && termB s q) = true then (whrL s t q, 0) else ([], 1)
theorem whereR_0 {s : Sg} {t q : List Int} (h1 : termB s t = true) (h2 : termB s q = true) : whereR s t q = (whrL s t q, 0) := by unfold whereR; rw [h1, h2]; rfl
theorem whereR_1 {s : Sg} {t q : List Int} (h : termB s t = false ∨ termB s q = false) : whereR s t q = ([], 1) := by unfold whereR; rcases h with h | h <;> simp [h]
theorem terms_nil (w : World) : Terms w (.slice none 0 0) [] := ⟨[], ⟨rfl, none, 0, rfl, Nat.le_refl _, by simp, fun _ => rfl, fun j u hj => by simp at hj⟩, rfl, fun i u t h => by simp at h⟩
set_option maxHeartbeats 1000000 in
theorem find_Where (vs vt vq : Value) (s : Sg) (t q : List Int) (w : World) (hs : SignAt w vs s) (ht : Ints w vt t) (hq : Ints w vq q) (hs1 : s.length ≤ 1000) :
    Calls Try.prog 24 #[vs, vt, vq] w fun e w' => ∃ u, e = .returned (.tuple #[u, .int .i64 (whereR s t q).2]) ∧ Terms w' u (whereR s t q).1 ∧ Below w.heap.size w w' := by
  have HV1 := hid (term_Valid' vs vt s t w hs ht hs1)
  have HV2 := hid (fun (X : World) (hX : Below w.heap.size w X) => term_Valid' vs vq s q X (hs.below hX) (hq.below hX) hs1)
  cases h1 : termB s t
  · have HR := hid (whereR_1 (Or.inl h1) : whereR s t q = ([], 1))
    rw [h1] at HV1
    go_enter Try.func24, Try.ntmps24
    go_wp2_with fail
    refine HV1.out.mono ?_
    rintro e w1 ⟨rfl, hb1⟩
    have HB1 := hid hb1
    clear hb1
    go_wp2
    go_ret2
    rw [HR.out]
    exact ⟨_, rfl, terms_nil _, HB1.out⟩
  · rw [h1] at HV1
    cases h2 : termB s q
    · have HR := hid (whereR_1 (Or.inr h2) : whereR s t q = ([], 1))
      simp only [h2] at HV2
      go_enter Try.func24, Try.ntmps24
      go_wp2_with fail
      refine HV1.out.mono ?_
      rintro e w1 ⟨rfl, hb1⟩
      have HB1 := hid hb1
      clear hb1
      go_wp2_with fail
      refine (HV2.out _ HB1.out).mono ?_
      rintro e w2 ⟨rfl, hb2⟩
      have HB2 := hid (HB1.out.trans (hb2.mono HB1.out.size))
      clear hb2
      go_wp2
      go_ret2
      rw [HR.out]
      exact ⟨_, rfl, terms_nil _, HB2.out⟩
    · have HR := hid (whereR_0 h1 h2)
      simp only [h2] at HV2
      have HW := hid (fun (X : World) (hX : Below w.heap.size w X) => find_where vs vt vq s t q X (hs.below hX) (ht.below hX) (hq.below hX) h1 hs1)
      go_enter Try.func24, Try.ntmps24
      go_wp2_with fail
      refine HV1.out.mono ?_
      rintro e w1 ⟨rfl, hb1⟩
      have HB1 := hid hb1
      clear hb1
      go_wp2_with fail
      refine (HV2.out _ HB1.out).mono ?_
      rintro e w2 ⟨rfl, hb2⟩
      have HB2 := hid (HB1.out.trans (hb2.mono HB1.out.size))
      clear hb2
      go_wp2_with fail
      refine (HW.out _ HB2.out).mono ?_
      rintro e w3 ⟨u, rfl, hu, hb3⟩
      have HU := hid hu
      have HB3 := hid (HB2.out.trans (hb3.mono HB2.out.size))
      clear hu hb3
      go_wp2
      go_ret2
      rw [HR.out]
      exact ⟨_, rfl, HU.out, HB3.out⟩
set_option maxHeartbeats 1000000 in
theorem ref5_Where (vs vt vq : Value) (s : Sg) (t q : List Int) (w : World) (hs : SignAt w vs s) (ht : Ints w vt t) (hq : Ints w vq q) (hs1 : s.length ≤ 1000) :
    Calls Try.prog 25 #[vs, vt, vq] w fun e w' => ∃ u, e = .returned (.tuple #[u, .int .i64 (whereR s t q).2]) ∧ Terms w' u (whereR s t q).1 ∧ Below w.heap.size w w' := by
  have HV1 := hid (ref1_Valid vs vt s t w hs ht)
  have HV2 := hid (fun (X : World) (hX : Below w.heap.size w X) => ref1_Valid vs vq s q X (hs.below hX) (hq.below hX))
  cases h1 : termB s t
  · have HR := hid (whereR_1 (Or.inl h1) : whereR s t q = ([], 1))
    rw [h1] at HV1
    go_enter Try.func25, Try.ntmps25
    go_wp2_with fail
    refine HV1.out.mono ?_
    rintro e w1 ⟨rfl, n1, rfl⟩
    go_wp2
    go_ret2
    rw [HR.out]
    exact ⟨_, rfl, terms_nil _, below_self_drewN _ _⟩
  · rw [h1] at HV1
    cases h2 : termB s q
    · have HR := hid (whereR_1 (Or.inr h2) : whereR s t q = ([], 1))
      simp only [h2] at HV2
      go_enter Try.func25, Try.ntmps25
      go_wp2_with fail
      refine HV1.out.mono ?_
      rintro e w1 ⟨rfl, n1, hw1⟩
      have HB1 := hid (show Below w.heap.size w w1 from hw1 ▸ below_self_drewN _ _)
      clear hw1
      go_wp2_with fail
      refine (HV2.out _ HB1.out).mono ?_
      rintro e w2 ⟨rfl, n2, hw2⟩
      have HB2 := hid (show Below w.heap.size w w2 from HB1.out.trans (hw2 ▸ (below_self_drewN _ _).mono HB1.out.size))
      clear hw2
      go_wp2
      go_ret2
      rw [HR.out]
      exact ⟨_, rfl, terms_nil _, HB2.out⟩
    · have HR := hid (whereR_0 h1 h2)
      simp only [h2] at HV2
      have HW := hid (fun (X : World) (hX : Below w.heap.size w X) => ref5_where vs vt vq s t q X (hs.below hX) (ht.below hX) (hq.below hX) h1 hs1)
      go_enter Try.func25, Try.ntmps25
      go_wp2_with fail
      refine HV1.out.mono ?_
      rintro e w1 ⟨rfl, n1, hw1⟩
      have HB1 := hid (show Below w.heap.size w w1 from hw1 ▸ below_self_drewN _ _)
      clear hw1
      go_wp2_with fail
      refine (HV2.out _ HB1.out).mono ?_
      rintro e w2 ⟨rfl, n2, hw2⟩
      have HB2 := hid (show Below w.heap.size w w2 from HB1.out.trans (hw2 ▸ (below_self_drewN _ _).mono HB1.out.size))
      clear hw2
      go_wp2_with fail
      refine (HW.out _ HB2.out).mono ?_
      rintro e w3 ⟨u, rfl, hu, hb3⟩
      have HU := hid hu
      have HB3 := hid (HB2.out.trans (hb3.mono HB2.out.size))
      clear hu hb3
      go_wp2
      go_ret2
      rw [HR.out]
      exact ⟨_, rfl, HU.out, HB3.out⟩
def hasB (s : Sg) (q t : List Int) : Bool := decide (0 < (whrL s t q).length)
set_option maxHeartbeats 1000000 in
theorem find_Having1 (vs vt vq : Value) (ps pq : Nat) (s : Sg) (t q : List Int) (w : World) (hs : SignAt w vs s) (ht : Ints w vt t) (hq : Ints w vq q) (hT : termB s t = true) (hs1 : s.length ≤ 1000) (c1 : w.cell? ⟨ps, 0, none⟩ = some vs) (c2 : w.cell? ⟨pq, 0, none⟩ = some vq) :
    Calls Try.prog 71 #[vt, .pointer (some ⟨ps, 0, none⟩), .pointer (some ⟨pq, 0, none⟩)] w fun e w' => e = .returned (.bool (hasB s q t)) ∧ Below w.heap.size w w' := by
  have HW := hid (find_where vs vt vq s t q w hs ht hq hT hs1)
  obtain ⟨sa, sc, rfl, -⟩ := hs.open
  obtain ⟨ta, tc, rfl, -⟩ := ht.open
  obtain ⟨qa, qc, rfl, -⟩ := hq.open
  clear hs ht hq
  go_enter Try.func71, Try.ntmps71
  go_wp2_with fail
  refine HW.out.mono ?_
  rintro e w1 ⟨u, rfl, hu, hb1⟩
  obtain ⟨ua, uc, rfl, -⟩ := hu.open
  have HB1 := hid hb1
  clear hu hb1
  go_wp2
  go_ret
  exact ⟨rfl, HB1.out⟩
set_option maxHeartbeats 1000000 in
theorem find_Having (v vl vq : Value) (s : Sg) (l : List (List Int)) (q : List Int) (w : World) (hs : SignAt w v s) (hv : Terms w vl l) (hq : Ints w vq q) (b1 : s.length ≤ 1000) (b2 : l.length ≤ 1000) :
    Calls Try.prog 21 #[v, vl, vq] w fun e w' => ∃ u, e = .returned (.tuple #[u, .int .i64 (searchB s l q (l.map (hasB s q))).2]) ∧ w'.ownsRow w.heap.size 3 1 u (searchB s l q (l.map (hasB s q))).1.length ((searchB s l q (l.map (hasB s q))).1.map (Value.int .i64)) ∧ Below w.heap.size w w' := by
  obtain ⟨sa, scap, rfl, _⟩ := hs.open
  obtain ⟨qa, qcap, rfl, _⟩ := hq.open
  obtain ⟨k1, k2, k3⟩ := boxes2 w (.slice sa s.length scap) (.slice qa q.length qcap) 23 37
  have KS := find_search 71 #[.pointer (some ⟨w.heap.size, 0, none⟩), .pointer (some ⟨w.heap.size + 1, 0, none⟩)] (enters_of Try.func71 (by kernel_rfl) rfl) (.slice sa s.length scap) vl (.slice qa q.length qcap) s l q (l.map (hasB s q)) _ (hs.below k3) (hv.below k3) (hq.below k3) b1 b2 (by simp) (by
    intro hsh _ i y W hi hi' hy hbW
    rw [List.getElem_map]
    refine find_Having1 _ _ _ w.heap.size (w.heap.size + 1) s l[i] q W ((hs.below k3).below hbW) hy ((hq.below k3).below hbW) (shelf_at hsh hi) b1 ?_ ?_
    · rw [hbW.cell (p := ⟨w.heap.size, 0, none⟩) (by simp; omega)]; exact k1
    · rw [hbW.cell (p := ⟨w.heap.size + 1, 0, none⟩) (by simp)]; exact k2)
  have KS' := hid KS
  have K3 := hid k3
  clear KS hs hv hq
  go_enter Try.func21, Try.ntmps21
  go_wp2_with fail
  refine KS'.out.mono ?_
  rintro e w1 ⟨u, rfl, hown, hb1⟩
  have HO := hid (owns_base hown (b' := w.heap.size) (by simp; omega))
  have HB := hid (K3.out.trans (hb1.mono (by simp; omega)))
  clear hown hb1
  go_wp2
  go_ret2
  exact ⟨_, rfl, HO.out, HB.out⟩
set_option maxHeartbeats 2000000 in
set_option maxRecDepth 100000 in
theorem ref5_Having (v vl vq : Value) (s : Sg) (l : List (List Int)) (q : List Int) (w : World) (hs : SignAt w v s) (hv : Terms w vl l) (hq : Ints w vq q) (b1 : s.length ≤ 1000) (b2 : l.length ≤ 1000) :
    Calls Try.prog 22 #[v, vl, vq] w fun e w' => ∃ u, e = .returned (.tuple #[u, .int .i64 (searchB s l q (l.map (hasB s q))).2]) ∧ w'.ownsRow w.heap.size 3 1 u (searchB s l q (l.map (hasB s q))).1.length ((searchB s l q (l.map (hasB s q))).1.map (Value.int .i64)) ∧ Below w.heap.size w w' := by
  have HASK := hid (ref5_asked v vl vq s l q w hs hv hq)
  obtain ⟨la, lcap, rfl, hl1, hl2, hl3, LC⟩ := hv.open
  have LC' := hid LC
  clear LC hl3
  cases hva : (shelfB s l && termB s q)
  · have HF := hid (searchB_1 (l.map (hasB s q)) hva)
    rw [hva] at HASK
    go_enter Try.func22, Try.ntmps22
    go_wp2_with fail
    refine HASK.out.mono ?_
    rintro e w1 ⟨rfl, n1, rfl⟩
    go_wp2
    go_ret2
    rw [HF.out]
    exact ⟨_, rfl, World.ownsRow_nil _ _ _ _, below_self_drewN _ _⟩
  · have HF := hid (searchB_0 (l.map (hasB s q)) hva)
    rw [hva] at HASK
    have hvv := hva
    rw [Bool.and_eq_true] at hvv
    have HQT := hid hvv.2
    have HLT : Hid (∀ (k : Nat) (h : k < l.length), termB s l[k] = true) := hid (fun k h => shelf_at hvv.1 h)
    have HQ := hid hq
    have HS := hid hs
    obtain ⟨p, hp⟩ : ∃ p : List Int → Bool, p = hasB s q := ⟨_, rfl⟩
    rw [← hp] at HF ⊢
    have HCALL := hid (fun (k : Nat) (h : k < l.length) (X : World) (hX : Below w.heap.size w X) (u : Value) (hu : Ints X u l[k]) => (show Calls Try.prog 74 #[v, u, vq] X fun e w' => ∃ (uo : Option Addr) (n c : Nat), e = .returned (.slice uo n c) ∧ decide (0 < n) = p l[k] ∧ Below X.heap.size X w' from by
      rw [hp]
      refine (ref5_where v u vq s l[k] q X (HS.out.below hX) hu (HQ.out.below hX) (HLT.out k h) b1).mono ?_
      rintro e w' ⟨x, rfl, hx, hb⟩
      obtain ⟨xa, xc, rfl, -⟩ := hx.open
      exact ⟨_, _, _, rfl, rfl, hb⟩))
    clear hva hvv hs hq hp hv
    go_enter Try.func22, Try.ntmps22
    go_wp2_with fail
    refine HASK.out.mono ?_
    rintro e w1 ⟨rfl, m0, rfl⟩
    go_wp2_with (at_make; refine wpList_make_row rfl _ _ 67 rfl w.heap.size 4 el_bool Try.underlying67 rfl l.length rfl rfl (by omega) (by omega) (by simp) ?_; intro g w1 hg0 hg1 hown1 hgrow1)
    have hb1 : Below w.heap.size w w1 := (below_self_drewN w m0).grown hgrow1 (by simp) (fun _ h => by cases h)
    rw [show List.replicate l.length (Value.bool false) = (rowP p l 0).map Value.bool by simp [rowP]] at hown1
    go_loopw [9] (fun i wr => ∃ k : Nat, k ≤ l.length ∧ i = .int .i64 k ∧ wr.ownsRow w.heap.size 4 1 (.slice (some ⟨g, 0, none⟩) l.length l.length) l.length ((rowP p l k).map Value.bool) ∧ Below w.heap.size w wr) (fun i _ => l.length - (intOf i).toNat)
    case atStart => exact ⟨0, by omega, rfl, hown1, hb1⟩
    case round =>
      clear hown1 hgrow1 hb1 hg1
      obtain ⟨k, hk, rfl, hown, hb⟩ := hrel
      have hbs := hb.size
      by_cases hlt : k < l.length
      · obtain ⟨b, o, u, rfl, hcell0, hu0⟩ := LC'.out k hlt
        have hcell : wr.cell? ⟨b, o + k, none⟩ = some u := (hb.cell (World.block_lt_of_cell? _ _ hcell0)).trans hcell0
        obtain ⟨ua, ucap, rfl, _⟩ := hu0.open
        have HC := hid (HCALL.out k hlt wr hb _ (hu0.below hb))
        have HNEXT := hid (rowQ_next p l k hlt)
        rw [rowP_at p l k hlt] at hown
        have HOWN := hid hown
        have HB := hid hb
        have HST := hid (fun c => rowQ_set p l k false c hlt)
        have HGET := hid (rowQ_get p l k false hlt)
        clear hown hb hcell0 hu0
        go_wp2_with fail
        refine HC.out.mono ?_
        rintro e w3 ⟨uo, un, uc, rfl, hpd, hb3⟩
        have hown3 := owns_below HOWN.out hb3
        have hc1 := hown3.cellAt k (by omega)
        rw [List.getElem?_map, HGET.out] at hc1
        simp only [Option.map_some] at hc1
        have hf1 := hown3.frozenAt k
        have hst := hown3.stored k (.bool (p l[k]))
        rw [HST.out, HNEXT.out, ← hpd] at hst
        have hb4 := HB.out.trans (hb3.mono hbs)
        have HB4 : Hid (Below w.heap.size w (w3.setCell ⟨g, k, none⟩ (.bool (decide (0 < un))))) := hid (hb4.setCell (p := ⟨g, k, none⟩) hg0 _)
        have HST4 := hid hst
        clear hpd hst hb4 hown3 hb3 HOWN HB HC
        go_wp2
        go_roundw
        case rel => exact ⟨k + 1, by omega, by go_num, HST4.out.1, HB4.out⟩
        case measure => simp [intOf]; omega
      · have hbo : Bools wr (.slice (some ⟨g, 0, none⟩) l.length l.length) (l.map p) := by
          have h := RowK.of_owns hown (by omega)
          rw [rowP_all p l k (by omega)] at h
          unfold Bools
          simpa using h
        have HCH := hid (ref5_chosen _ (l.map p) wr hbo (by simpa using b2))
        have HB := hid hb
        clear hown hb hbo
        go_wp2_with fail
        refine HCH.out.mono ?_
        rintro e w3 ⟨u, rfl, hown, hb3⟩
        have HO := hid (owns_base hown hbs)
        have HB3 := hid (HB.out.trans (hb3.mono hbs))
        clear hown hb3
        go_wp2
        go_ret2
        rw [HF.out]
        exact ⟨u, rfl, HO.out, HB3.out⟩
end Go.Proofs.Ytiacbdipagbblaa
