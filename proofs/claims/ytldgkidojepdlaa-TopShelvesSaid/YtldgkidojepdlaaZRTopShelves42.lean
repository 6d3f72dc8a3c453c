/-
  WHAT IT HOLDS: contract of Groups of package find. Conditions: the arguments read as data; the shelf and the sign are small.
  WHAT IT HOLDS: contract of firsts of package find. Conditions: the arguments read as data; the shelf and the sign are small.
-/
import Derived.Test.YtldgkidojepdlaaZRTopShelves41
namespace Go.Proofs.Ytldgkidojepdlaa
open Go Go.RowKit Go.Maps
theorem nodup_bound : ∀ (n : Nat) (l : List Int), l.Nodup → (∀ x ∈ l, -(n : Int) ≤ x ∧ x < 0) → l.length ≤ n := by
  intro n
  induction n with
  | zero => intro l _ h; cases l with
    | nil => simp
    | cons a l => have := h a (by simp); omega
  | succ n ih =>
    intro l hd h
    have h1 := ih (l.erase (-((n + 1 : Nat) : Int))) (hd.erase _) fun x hx => by
      have h2 := (List.Nodup.mem_erase_iff hd).1 hx
      have := h x h2.2
      have := h2.1
      omega
    have h3 := List.length_erase (a := (-((n + 1 : Nat) : Int))) (l := l)
    split at h3 <;> omega
theorem vars_le {s : Sg} {t : List Int} (h : IsT s 12 t) : (varsF [] t).length ≤ 12 :=
  nodup_bound 12 _ (varsF_nodup t [] (by simp)) fun x hx => by
    rcases (varsF_mem t [] x).1 hx with h1 | h1
    · simp at h1
    · have := h.vars x h1.1 h1.2
      omega
set_option maxRecDepth 100000 in
theorem find_Groups (vs vl : Value) (s : Sg) (l : List (List Int)) (w : World) (hs : SignAt w vs s) (hv : Terms w vl l) (hs1 : s.length ≤ 1000) (hl1 : l.length ≤ 1000) :
    Calls Try.prog 63 #[vs, vl] w fun e w' => Below w.heap.size w w' ∧ ((shelfB s l = false ∧ e = .returned (.tuple #[.slice none 0 0, .int .i64 1])) ∨
      (shelfB s l = true ∧ ∃ u vs', e = .returned (.tuple #[u, .int .i64 0]) ∧ NR w' w.heap.size 34 3 u vs' (grpL (l.map canonL) l.length))) := by
  have key := find_grouped 98 #[] (enters_of Try.func98 (by kernel_rfl) rfl) canonL vs vl s l w hs hv hs1 hl1 (fun h t ht => by
    obtain ⟨g1, g2, g3, g4, g5, g6⟩ := shelfB_facts h
    have hb : termB s t = true := by unfold allB at g4; exact List.all_eq_true.1 g4 t ht
    have hT := termB_T hb
    have hr := T_small hT (by omega)
    refine ⟨fun z hz => ?_, by rw [canonL_len]; exact hT.ne, by rw [canonL_len]; have := termB_facts hb; omega⟩
    obtain ⟨x, hx, rfl⟩ := List.mem_map.1 hz
    have := hr x hx
    unfold numV
    split
    · rename_i hx0
      have h2 := List.idxOf_lt_length_of_mem ((varsF_mem t [] x).2 (Or.inr ⟨hx, hx0⟩))
      have h3 : (varsF [] t).length ≤ 12 := vars_le hT
      omega
    · omega) (fun h t ht x W ix hsW => by
    obtain ⟨g1, g2, g3, g4, g5, g6⟩ := shelfB_facts h
    have hb : termB s t = true := by unfold allB at g4; exact List.all_eq_true.1 g4 t ht
    exact find_form vs x s t W hsW ix hs1 hb)
  have KEY := hid key
  clear key
  go_enter Try.func63, Try.ntmps63
  go_wp2_with fail
  refine KEY.out.mono ?_
  rintro e w1 ⟨hb, ⟨h1, rfl⟩ | ⟨h1, u, vs', rfl, hN⟩⟩
  · go_wp2
    go_ret2
    exact ⟨hb, Or.inl ⟨h1, rfl⟩⟩
  · have HN := hid hN
    clear hN
    go_wp2
    go_ret2
    exact ⟨hb, Or.inr ⟨h1, _, vs', rfl, HN.out⟩⟩
end Go.Proofs.Ytldgkidojepdlaa
namespace Go.Proofs.Ytldgkidojepdlaa
open Go Go.RowKit Go.Maps
def firstsL (l : List (List Int)) : List Int := (grpL (l.map canonL) l.length).map fun g => g.headD 0
theorem firstsL_len (l : List (List Int)) : (firstsL l).length ≤ l.length := by
  unfold firstsL
  rw [List.length_map, grpL_len]
  exact hdsL_len _ _
set_option maxHeartbeats 1000000 in
set_option maxRecDepth 100000 in
theorem find_firsts (vs vl : Value) (s : Sg) (l : List (List Int)) (w : World) (hs : SignAt w vs s) (hv : Terms w vl l) (hs1 : s.length ≤ 1000) (hl1 : l.length ≤ 1000) :
    Calls Try.prog 35 #[vs, vl] w fun e w' => Below w.heap.size w w' ∧ ((shelfB s l = false ∧ ∃ u, e = .returned (.tuple #[u, .int .i64 1])) ∨
      (shelfB s l = true ∧ ∃ u, e = .returned (.tuple #[u, .int .i64 0]) ∧ w'.ownsRow w.heap.size 3 1 u (firstsL l).length ((firstsL l).map (Value.int .i64)))) := by
  have HK := hid (find_Groups vs vl s l w hs hv hs1 hl1)
  clear hs hv
  go_enter Try.func35, Try.ntmps35
  go_wp2_with fail
  refine HK.out.mono ?_
  rintro e w1 ⟨hb, ⟨h1, rfl⟩ | ⟨h1, u, vs', rfl, hN⟩⟩
  · go_wp2
    go_loop [19] (fun i => i = .int .i64 0) (fun _ => 0)
    case atStart => rfl
    case round =>
      subst hrel
      go_wp2
      go_ret2
      exact ⟨hb, ⟨_, rfl⟩⟩
  · obtain ⟨gs, hgs⟩ : ∃ gs, grpL (l.map canonL) l.length = gs := ⟨_, rfl⟩
    have hfl : firstsL l = gs.map fun g => g.headD 0 := by unfold firstsL; rw [hgs]
    have hgl : gs.length ≤ l.length := by rw [← hgs, grpL_len]; exact hdsL_len _ _
    have hg0 : ∀ j (h : j < gs.length), 0 < gs[j].length := by
      intro j h
      subst hgs
      obtain ⟨_, k0, h2, _⟩ := grpL_first (by simp) h
      cases hq : (grpL (l.map canonL) l.length)[j] with
      | nil => rw [hq] at h2; simp at h2
      | cons => simp
    rw [hgs] at hN
    obtain ⟨L, hL⟩ : ∃ L, gs.length = L := ⟨_, rfl⟩
    have hushape : ∃ a' c', u = .slice a' L c' := by
      rcases hN.top.2 with ⟨z1, z2⟩ | ⟨g', c', cur, z1, _⟩
      · rw [hL] at z2; subst z2; exact ⟨none, 0, z1⟩
      · rw [hL] at z1; exact ⟨_, _, z1⟩
    obtain ⟨ua, uc, hue⟩ := hushape
    subst hue
    have HN := hid hN
    have HFL := hid hfl
    have HG0 := hid hg0
    have HL := hid hL
    rw [hL] at hgl
    have hsz1 := hb.size
    clear hN hfl hg0 hL hgs
    go_wp2
    go_loopw [8, 19] (fun v kv wr => ∃ k : Nat, k ≤ L ∧ kv = .int .i64 k ∧ wr.ownsRow w1.heap.size 3 1 v k (((gs.map fun g => g.headD 0).take k).map (Value.int .i64)) ∧ Below w1.heap.size w1 wr) (fun _ kv _ => L - (intOf kv).toNat)
    case atStart => exact ⟨0, by omega, rfl, World.ownsRow_nil _ _ _ _, Below.refl _ _⟩
    case round =>
      obtain ⟨k, hk, rfl, hown, hb2⟩ := hrel
      have hsz2 := hb2.size
      by_cases hlt : k < L
      · have hkg : k < gs.length := by have := HL.out; omega
        have hN2 := HN.out.below hb2
        obtain ⟨gU, hua⟩ : ∃ gU, ua = some ⟨gU, 0, none⟩ := by
          obtain ⟨g', c', h1, _⟩ := owns_some hN2.top (by omega)
          simp only [Value.slice.injEq] at h1
          exact ⟨g', h1.1⟩
        subst hua
        obtain ⟨gr, rc, hvj, -, hfst⟩ := hN2.rowAt hkg (HG0.out k hkg)
        have hct := (hN2.cellTop HL.out.symm hvj (World.grownBy.refl _ _)).1
        have hlen0 := HG0.out k hkg
        obtain ⟨m, hm⟩ : ∃ m, gs[k].length = m := ⟨_, rfl⟩
        have hx : ∃ x, gs[k][0]'hlen0 = x := ⟨_, rfl⟩
        obtain ⟨x, hx⟩ := hx
        rw [hx] at hfst
        rw [hm] at hct hlen0
        have HTK : Hid ((gs.map fun g => g.headD 0).take (k + 1) = (gs.map fun g => g.headD 0).take k ++ [x]) := hid (by
          rw [List.take_succ_eq_append_getElem (by simpa using hkg), List.getElem_map]
          congr 2
          rw [← hx, List.headD_eq_head?_getD, List.head?_eq_getElem?, List.getElem?_eq_getElem (by omega)]; rfl)
        have HOWN := hid hown
        clear hN2 hvj hm hx hown
        go_wp2_with (at_builtin; refine wpList_append_row rfl _ _ 34 rfl w1.heap.size 3 el_int Try.underlying34 rfl (by decide) _ _ _ rfl (HOWN.out.alloc _) _ 1 [.int .i64 x] rfl (row_one_new _ _ _) (oneCell_one rfl) (by omega) (by omega) (by simp; omega) ?_; intro v' w4 hown4 hgrow4 _)
        have hb4 : Below w1.heap.size w1 w4 := (hb2.alloc hsz2 _).grown hgrow4 (by simp; omega) (fun q hq => (HOWN.out.lt q hq).1)
        go_roundw
        case rel => exact ⟨k + 1, by omega, by go_num, by rw [HTK.out, List.map_append]; exact hown4, hb4⟩
        case measure => simp [intOf]; omega
      · have hkL : k = L := by omega
        have HT : Hid (wr.ownsRow w1.heap.size 3 1 u8 (firstsL l).length ((firstsL l).map (Value.int .i64))) := hid (by
          rw [HFL.out]
          have h9 := HL.out
          have e : (gs.map fun g => g.headD 0).take k = gs.map fun g => g.headD 0 := List.take_of_length_le (by simp; omega)
          rw [e] at hown
          rw [List.length_map, h9, ← hkL]
          exact hown)
        clear hown
        go_wp2
        go_ret2
        exact ⟨hb.trans (hb2.mono hsz1), Or.inr ⟨h1, _, rfl, owns_base HT.out hsz1⟩⟩
end Go.Proofs.Ytldgkidojepdlaa
