/-
  WHAT IT HOLDS: contract of Groups of package find. Conditions: the arguments read as data; the shelf and the sign are small.
  WHAT IT HOLDS: contracts of Sorted of package find and of package lemmaryref05, and of Compare and With of package lemmaryref01. Conditions: the arguments read as data; small shelves and signs.
-/
import Derived.Test.YtiacbdipagbblaaZRFindGroups32
import Derived.Test.YtiacbdipagbblaaZRFindGroups38
import Derived.Test.YtiacbdipagbblaaZRFindGroups31
import Derived.Test.YtiacbdipagbblaaZRFindGroups26
namespace Go.Proofs.Ytiacbdipagbblaa
open Go Go.RowKit Go.Maps
theorem nodup_bound : ∀ (n : Nat) (l : List Int), l.Nodup → (∀ x ∈ l, -(n : Int) ≤ x ∧ x < 0) → l.length ≤ n := by
  intro n
  induction n with
  | zero => intro l _ h; cases l with
    | nil => simp
    | cons a l => have := h a (by simp); omega
  | succ n ih =>
    intro l hd h
    have h1 := ih (l.erase (-((n + 1 : Nat) : Int))) (hd.erase _) fun x hx => by
      have h2 := (List.Nodup.mem_erase_iff hd).1 hx
      have := h x h2.2
      have := h2.1
      omega
    have h3 := List.length_erase (a := (-((n + 1 : Nat) : Int))) (l := l)
    split at h3 <;> omega
theorem vars_le {s : Sg} {t : List Int} (h : IsT s 12 t) : (varsF [] t).length ≤ 12 :=
  nodup_bound 12 _ (varsF_nodup t [] (by simp)) fun x hx => by
    rcases (varsF_mem t [] x).1 hx with h1 | h1
    · simp at h1
    · have := h.vars x h1.1 h1.2
      omega
set_option maxRecDepth 100000 in
theorem find_Groups (vs vl : Value) (s : Sg) (l : List (List Int)) (w : World) (hs : SignAt w vs s) (hv : Terms w vl l) (hs1 : s.length ≤ 1000) (hl1 : l.length ≤ 1000) :
    Calls Try.prog 18 #[vs, vl] w fun e w' => Below w.heap.size w w' ∧ ((shelfB s l = false ∧ e = .returned (.tuple #[.slice none 0 0, .int .i64 1])) ∨
      (shelfB s l = true ∧ ∃ u vs', e = .returned (.tuple #[u, .int .i64 0]) ∧ NR w' w.heap.size 25 3 u vs' (grpL (l.map canonL) l.length))) := by
  have key := find_grouped 70 #[] (enters_of Try.func70 (by kernel_rfl) rfl) canonL vs vl s l w hs hv hs1 hl1 (fun h t ht => by
    obtain ⟨g1, g2, g3, g4, g5, g6⟩ := shelfB_facts h
    have hb : termB s t = true := by unfold allB at g4; exact List.all_eq_true.1 g4 t ht
    have hT := termB_T hb
    have hr := T_small hT (by omega)
    refine ⟨fun z hz => ?_, by rw [canonL_len]; exact hT.ne, by rw [canonL_len]; have := termB_facts hb; omega⟩
    obtain ⟨x, hx, rfl⟩ := List.mem_map.1 hz
    have := hr x hx
    unfold numV
    split
    · rename_i hx0
      have h2 := List.idxOf_lt_length_of_mem ((varsF_mem t [] x).2 (Or.inr ⟨hx, hx0⟩))
      have h3 : (varsF [] t).length ≤ 12 := vars_le hT
      omega
    · omega) (fun h t ht x W ix hsW => by
    obtain ⟨g1, g2, g3, g4, g5, g6⟩ := shelfB_facts h
    have hb : termB s t = true := by unfold allB at g4; exact List.all_eq_true.1 g4 t ht
    exact find_form vs x s t W hsW ix hs1 hb)
  have KEY := hid key
  clear key
  go_enter Try.func18, Try.ntmps18
  go_wp2_with fail
  refine KEY.out.mono ?_
  rintro e w1 ⟨hb, ⟨h1, rfl⟩ | ⟨h1, u, vs', rfl, hN⟩⟩
  · go_wp2
    go_ret2
    exact ⟨hb, Or.inl ⟨h1, rfl⟩⟩
  · have HN := hid hN
    clear hN
    go_wp2
    go_ret2
    exact ⟨hb, Or.inr ⟨h1, _, vs', rfl, HN.out⟩⟩
end Go.Proofs.Ytiacbdipagbblaa
namespace Go.Proofs.Ytiacbdipagbblaa
open Go Go.RowKit Go.Maps
def sortR (s : Sg) (l : List (List Int)) : List (List Int) × Int := if shelfB s l = true then (sortedL (l.map canonL), 0) else ([], 1)
theorem sortR_0 {s : Sg} {l : List (List Int)} (h : shelfB s l = true) : sortR s l = (sortedL (l.map canonL), 0) := by unfold sortR; rw [if_pos h]
theorem sortR_1 {s : Sg} {l : List (List Int)} (h : shelfB s l = false) : sortR s l = ([], 1) := by unfold sortR; rw [h]; rfl
theorem terms_nilS (w : World) : Terms w (.slice none 0 0) [] := ⟨[], ⟨rfl, none, 0, rfl, Nat.le_refl _, by simp, fun _ => rfl, fun j u hj => by simp at hj⟩, rfl, fun i u t h => by simp at h⟩
theorem owns_frm2 {w w' : World} {b : Nat} {e : TypeId} {k : Nat} {v : Value} {n : Nat} {xs : List Value} (h : w.ownsRow b e k v n xs) (hs : ∀ q, v.ownBlock = some q → w'.heap[q]? = w.heap[q]?) : w'.ownsRow b e k v n xs := by
  obtain ⟨h1, h2⟩ := h
  refine ⟨h1, ?_⟩
  rcases h2 with h2 | ⟨g, cap, cur, r1, r2, r3, r4⟩
  · exact .inl h2
  · subst r1
    exact .inr ⟨g, cap, cur, rfl, r2, by rw [hs g rfl]; exact r3, r4⟩
theorem NR.elts {w : World} {base g n c : Nat} {E e : TypeId} {vs : List Value} {gs : List (List Int)} (h : NR w base E e (.slice (some ⟨g, 0, none⟩) n c) vs gs) (hl : ∀ q ∈ gs, q.length ≤ 1000) : Elts g vs gs w := by
  refine ⟨h.len, fun i v q h1 h2 W' hk => ?_⟩
  have hr := h.row i v q h1 h2
  refine Ints.of_owns (owns_frm2 hr fun x hx => hk.same x (hr.lt x hx).2 fun e => ?_) (by have := hl q (List.mem_of_getElem? h2); omega)
  have := h.apart v (List.mem_of_getElem? h1) (by rw [hx]; simp)
  rw [hx, e] at this
  exact this rfl
theorem find_Sorted1 (va vb : Value) (a b : List Int) (w : World) (ha : Ints w va a) (hb : Ints w vb b) :
    Calls Try.prog 116 #[va, vb] w fun e w' => e = .returned (.bool (decide (a = b))) ∧ ∃ n, w' = w.drewN n := by
  have HE := hid (sl_EqualT va vb a b w ha hb)
  go_enter Try.func116, Try.ntmps116
  go_wp2_with fail
  refine HE.out.mono ?_
  rintro e w1 ⟨rfl, n, hw⟩
  have HW := hid hw
  clear hw
  go_wp2
  go_ret
  exact ⟨rfl, n, HW.out⟩
set_option maxHeartbeats 2000000 in
set_option maxRecDepth 100000 in
theorem find_Sorted (vs vl : Value) (s : Sg) (l : List (List Int)) (w : World) (hs : SignAt w vs s) (hv : Terms w vl l) (hs1 : s.length ≤ 1000) :
    Calls Try.prog 52 #[vs, vl] w fun e w' => ∃ u, e = .returned (.tuple #[u, .int .i64 (sortR s l).2]) ∧ Terms w' u (sortR s l).1 ∧ Below w.heap.size w w' := by
  have HVA := hid (find_Valid vs vl s l w hs hv hs1)
  have HS := hid hs
  have HL := hid hv
  obtain ⟨la, lc, rfl, -⟩ := hv.open
  cases hsh : shelfB s l
  · rw [hsh] at HVA
    have HR := hid (sortR_1 hsh)
    clear hs hv hsh
    go_enter Try.func52, Try.ntmps52
    go_wp2_with fail
    refine HVA.out.mono ?_
    rintro e w1 ⟨rfl, hb1⟩
    have HB1 := hid hb1
    clear hb1
    go_wp2
    go_ret2
    rw [HR.out]
    exact ⟨_, rfl, terms_nilS _, HB1.out⟩
  · rw [hsh] at HVA
    have HR := hid (sortR_0 hsh)
    obtain ⟨g1, g2, g3, g4, g5, g6⟩ := shelfB_facts hsh
    have HT := hid (show ∀ k (h : k < l.length), termB s l[k] = true from fun k h => List.all_eq_true.1 g4 _ (List.getElem_mem h))
    have hl0 : 0 < l.length ∧ l.length ≤ 1000 := ⟨by omega, by omega⟩
    obtain ⟨hl0, hl1⟩ := hl0
    have HCL : Hid (∀ q ∈ l.map canonL, q.length ≤ 1000) := hid (by
      intro q hq
      obtain ⟨t, ht, rfl⟩ := List.mem_map.1 hq
      obtain ⟨k, hk, rfl⟩ := List.getElem_of_mem ht
      have := (termB_facts (HT.out k hk)).2.2.2
      rw [canonL_len]; omega)
    clear hs hv hsh g1 g2 g3 g4 g5 g6
    go_enter Try.func52, Try.ntmps52
    go_wp2_with fail
    refine HVA.out.mono ?_
    rintro e w1 ⟨rfl, hb1⟩
    have HB1 := hid hb1
    clear hb1
    go_wp2
    go_loopw [6, 15] (fun uo nv wr => ∃ (n : Nat) (vvs : List Value), n ≤ l.length ∧ nv = .int .i64 n ∧ NR wr w1.heap.size 37 3 uo vvs ((l.take n).map canonL) ∧ Below w1.heap.size w1 wr) (fun _ nv _ => l.length - (intOf nv).toNat)
    case atStart => exact ⟨0, [], by omega, rfl, NR.nil _ _ _ _, Below.refl _ _⟩
    case round =>
      obtain ⟨n, vvs, hn, rfl, hnr, hb⟩ := hrel
      have hbs := hb.size
      have HNR := hid hnr
      have HB := hid hb
      have hbw := HB1.out.trans (hb.mono HB1.out.size)
      have HBW := hid hbw
      by_cases hlt : n < l.length
      · obtain ⟨a9, c9, he9, -, -, -, HC⟩ := (HL.out.below hbw).open
        obtain ⟨rfl, -, rfl⟩ := Value.slice.inj he9
        obtain ⟨bb, bo, x, rfl, hcx, hix⟩ := HC n hlt
        obtain ⟨xa, xc, rfl, -⟩ := hix.open
        have HF := hid (find_form vs _ s l[n] wr (HS.out.below hbw) hix hs1 (HT.out n hlt))
        have hcl : (canonL l[n]).length ≤ 1000 := HCL.out _ (List.mem_map.2 ⟨_, List.getElem_mem hlt, rfl⟩)
        have HTK : Hid ((l.take (n + 1)).map canonL = (l.take n).map canonL ++ [canonL l[n]]) := hid (by rw [List.take_succ_eq_append_getElem hlt, List.map_append]; rfl)
        have hml : ((l.take n).map canonL).length = n := by rw [List.length_map, List.length_take]; omega
        have HML := hid hml
        clear HC hix he9 hnr hb hbw hml
        go_wp2_with fail
        refine HF.out.mono ?_
        rintro e w2 ⟨u2, rfl, hou, hb2⟩
        obtain ⟨a2, c2, rfl, -⟩ := (Ints.of_owns hou (by omega)).open
        have hb2A := hb2.alloc hb2.size (.cells #[.slice a2 (canonL l[n]).length c2] 37)
        have HTOP := hid (by have := owns_below HNR.out.top hb2A; rw [HML.out] at this; exact this)
        have HOU := hid (owns_below hou ((Below.refl w2.heap.size w2).alloc (Nat.le_refl _) (.cells #[.slice a2 (canonL l[n]).length c2] 37)))
        have HB2A := hid hb2A
        have hs2 := hb2.size
        clear hou hb2 hb2A hcx
        go_wp2_with (at_builtin; refine wpList_append_lie rfl _ _ 24 rfl w1.heap.size 37 el_term Try.underlying24 rfl (by decide) _ _ _ rfl HTOP.out _ 1 [.slice a2 (canonL l[n]).length c2] rfl (row_one_new _ _ _) (oneCell_one rfl) (by omega) (by omega) (by omega) (by simp; omega) _ rfl ?_; intro g7 c7 w7 hown7 hgrow7 hat7 hlt7)
        have HN := hid (NR.pushNew (base' := wr.heap.size) HNR.out (Nat.le_refl _) hbs HB2A.out HOU.out HML.out.symm (by simpa using hown7) hgrow7 rfl hat7)
        have HB7 := hid ((HB.out.trans (HB2A.out.mono hbs)).grown hgrow7 (by simp; omega) (fun k hk => (HTOP.out.lt k hk).1))
        clear hown7 hgrow7 hat7
        go_wp2
        go_roundw
        case rel => exact ⟨n + 1, _, by omega, by go_num, by rw [HTK.out]; exact HN.out, HB7.out⟩
        case measure => simp [intOf]; omega
      · have hnl : n = l.length := by omega
        subst hnl
        rw [List.take_of_length_le (Nat.le_refl _)] at hnr
        have hml : (l.map canonL).length = l.length := by rw [List.length_map]
        have htop := hnr.top
        rw [hml] at htop
        obtain ⟨gU, cU, he, hgb⟩ := owns_some htop hl0
        subst he
        have hel := hnr.elts HCL.out
        have HSO := hid (sort_terms w1.heap.size gU l.length cU vvs (l.map canonL) wr hl0 (by omega) hml htop hel)
        clear hnr htop hel hb hbw hml
        go_wp2_with fail
        refine HSO.out.mono ?_
        rintro e w2 ⟨vs', gs', rfl, hown2, hel2, hmem, has, hk2⟩
        have hgl2 : gs'.length = l.length := by
          have := hel2.1
          have h9 := hown2.1
          omega
        have HCM := hid (compact_terms 116 #[] (enters_of Try.func116 (by kernel_rfl) rfl) w1.heap.size gU l.length cU vs' gs' w2 (by omega) hgl2 hown2 hel2 (fun X v v' q q' _ h1 h2 => find_Sorted1 v v' q q' X h1 h2))
        have HBB := hid (HBW.out.trans (hk2.below (b := w.heap.size) HBW.out.size (fun k hk => by subst hk; exact Nat.le_trans HB1.out.size hgb.1)))
        have HCS := hid (comp_sorted hmem has)
        have hs2 := hk2.size
        clear hown2 hel2 hmem has hk2 hgl2
        go_wp2_with fail
        refine HCM.out.mono ?_
        rintro e w3 ⟨u3, rfl, ht3, hk3⟩
        rw [HCS.out] at ht3
        have HT3 := hid ht3
        have HB3 := hid (HBB.out.trans (hk3.below (b := w.heap.size) HBB.out.size (fun k hk => by subst hk; exact Nat.le_trans HB1.out.size hgb.1)))
        clear ht3 hk3
        go_wp2
        go_ret2
        rw [HR.out]
        exact ⟨_, rfl, HT3.out, HB3.out⟩
end Go.Proofs.Ytiacbdipagbblaa
