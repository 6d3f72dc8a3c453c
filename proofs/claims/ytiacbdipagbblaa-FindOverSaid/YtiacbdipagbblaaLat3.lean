/-
  WHAT IT HOLDS: contract of Lattice of package find. Conditions: the arguments read as data; the shelf and the sign are small.
-/
import Derived.Test.YtiacbdipagbblaaLat2
import Derived.Deep.RegionHeld3
namespace Go.Proofs.Ytiacbdipagbblaa
open Go Go.RowKit Go.Maps
def uAt (s : Sg) (l : List (List Int)) (i j : Int) : Bool := underB s (l.getD i.toNat []) (l.getD j.toNat [])
def latB (s : Sg) (l : List (List Int)) : List PP := latL (uAt s l) (firstsL l)
def ovL (s : Sg) (l : List (List Int)) (j : Int) : List Int := chosenL 0 (overL s l (l.getD j.toNat []))
theorem firstsL_range (l : List (List Int)) : ∀ x ∈ firstsL l, 0 ≤ x ∧ x < l.length := by
  intro x hx
  unfold firstsL at hx
  obtain ⟨g, hg, rfl⟩ := List.mem_map.1 hx
  obtain ⟨j, hj, rfl⟩ := List.getElem_of_mem hg
  obtain ⟨_, k0, h2, h3, _⟩ := grpL_first (by simp) hj
  rw [List.headD_eq_head?_getD, h2]
  simp
  exact h3
def rowP (U : Int → Int → Bool) (F : List Int) (i : Int) (js : List Int) : List PP := (js.filter fun j => nextB U F i j).map fun j => (i, j)
theorem rowP_snoc (U : Int → Int → Bool) (F : List Int) (i : Int) (js : List Int) (j : Int) : rowP U F i (js ++ [j]) = rowP U F i js ++ if nextB U F i j then [(i, j)] else [] := by
  unfold rowP
  rw [List.filter_append, List.map_append]
  congr 1
  cases h : nextB U F i j <;> simp [h]
theorem rowP_len (U : Int → Int → Bool) (F : List Int) (i : Int) (js : List Int) : (rowP U F i js).length ≤ js.length := by
  unfold rowP
  rw [List.length_map]
  exact List.length_filter_le _ _
def latP (U : Int → Int → Bool) (F : List Int) (i : Nat) : List PP := (F.take i).flatMap fun x => rowP U F x F
theorem latP_succ {U : Int → Int → Bool} {F : List Int} {i : Nat} (h : i < F.length) : latP U F (i + 1) = latP U F i ++ rowP U F F[i] F := by
  unfold latP
  rw [List.take_succ_eq_append_getElem h, List.flatMap_append]
  simp
theorem latP_len {U : Int → Int → Bool} {F : List Int} : ∀ {i : Nat}, i ≤ F.length → (latP U F i).length ≤ i * F.length
  | 0, _ => by simp [latP]
  | i + 1, h => by
    have ih := latP_len (U := U) (F := F) (i := i) (by omega)
    have := rowP_len U F (F[i]'(by omega)) F
    rw [latP_succ (by omega), List.length_append, Nat.add_mul]
    omega
theorem pCells_app (a b : List PP) : pCells (a ++ b) = pCells a ++ pCells b := by simp [pCells]
theorem cho_mem : ∀ (bs : List Bool) (i k : Nat), ((k : Int) ∈ chosenL i bs) ↔ (i ≤ k ∧ bs[k - i]? = some true)
  | [], i, k => by simp [chosenL]
  | b :: bs, i, k => by
    have ih := cho_mem bs (i + 1) k
    have hgt : i + 1 ≤ k → (b :: bs)[k - i]? = bs[k - (i + 1)]? := fun h => by
      have : k - i = (k - (i + 1)) + 1 := by omega
      rw [this]; rfl
    have heq : k = i → (b :: bs)[k - i]? = some b := fun h => by
      have : k - i = 0 := by omega
      rw [this]; rfl
    cases b
    · simp only [chosenL, Bool.false_eq_true, if_false, ih]
      constructor
      · rintro ⟨h1, h2⟩; exact ⟨by omega, by rw [hgt h1]; exact h2⟩
      · rintro ⟨h1, h2⟩
        by_cases e : k = i
        · rw [heq e] at h2; simp at h2
        · have h3 : i + 1 ≤ k := by omega
          exact ⟨h3, by rw [hgt h3] at h2; exact h2⟩
    · simp only [chosenL, if_true, List.mem_cons, ih]
      constructor
      · rintro (h1 | ⟨h1, h2⟩)
        · have e : k = i := by omega
          exact ⟨by omega, heq e⟩
        · exact ⟨by omega, by rw [hgt h1]; exact h2⟩
      · rintro ⟨h1, h2⟩
        by_cases e : k = i
        · left; omega
        · have h3 : i + 1 ≤ k := by omega
          exact Or.inr ⟨h3, by rw [hgt h3] at h2; exact h2⟩
theorem ovL_dec {s : Sg} {l : List (List Int)} {i : Int} (h0 : 0 ≤ i) (h1 : i < l.length) (j : Int) : decide (i ∈ ovL s l j) = uAt s l i j := by
  obtain ⟨k, rfl⟩ := Int.eq_ofNat_of_zero_le h0
  have hk : k < l.length := by omega
  rw [Bool.eq_iff_iff, decide_eq_true_eq]
  unfold ovL uAt overL
  rw [cho_mem]
  simp [List.getD, hk]
theorem any_getD {F : List Int} {f : Int → Bool} : (List.range F.length).any (fun i => f (F.getD i 0)) = F.any f := by
  rw [Bool.eq_iff_iff, List.any_eq_true, List.any_eq_true]
  constructor
  · rintro ⟨i, hi, h⟩
    have hi' := List.mem_range.1 hi
    refine ⟨F[i], List.getElem_mem hi', ?_⟩
    simpa [List.getD, hi'] using h
  · rintro ⟨x, hx, h⟩
    obtain ⟨i, hi, rfl⟩ := List.getElem_of_mem hx
    exact ⟨i, List.mem_range.2 hi, by simpa [List.getD, hi] using h⟩
theorem el_pair : ElemAt Try.prog 76 (.agg #[.int .i64 0, .int .i64 0]) 2 16 := by unfold ElemAt; kernel_rfl
set_option maxHeartbeats 4000000 in
set_option maxRecDepth 100000 in
theorem find_Lattice (vs vl : Value) (s : Sg) (l : List (List Int)) (w : World) (hs : SignAt w vs s) (hv : Terms w vl l) (hs1 : s.length ≤ 1000) (hl1 : l.length ≤ 1000) :
    Calls Try.prog 29 #[vs, vl] w fun e w' => Below w.heap.size w w' ∧ ((shelfB s l = false ∧ e = .returned (.tuple #[.slice none 0 0, .int .i64 1])) ∨
      (shelfB s l = true ∧ ∃ u, e = .returned (.tuple #[u, .int .i64 0]) ∧ w'.ownsRow w.heap.size 76 2 u (latB s l).length (pCells (latB s l)))) := by
  have HF := hid (find_firsts vs vl s l w hs hv hs1 hl1)
  have HS := hid hs
  have HV := hid hv
  have hmm := @run_makeMap Try.prog
  clear hs hv
  go_enter Try.func29, Try.ntmps29
  go_wp2_with fail
  refine HF.out.mono ?_
  rintro e w1 ⟨hb, ⟨h1, u, rfl⟩ | ⟨h1, u, rfl, o1⟩⟩
  · have H1 := hid h1
    clear hmm h1
    go_wp2
    go_ret2
    exact ⟨hb, Or.inl ⟨H1.out, rfl⟩⟩
  · have H1 := hid h1
    have hfr := firstsL_range l
    have hfl := firstsL_len l
    obtain ⟨F, hF⟩ : ∃ F, firstsL l = F := ⟨_, rfl⟩
    have HB : Hid (latB s l = latL (uAt s l) F) := hid (by unfold latB; rw [hF])
    rw [hF] at o1 hfr hfl
    have HFR := hid hfr
    have HIU := hid (Ints.of_owns o1 (by omega) : Ints w1 u F)
    clear h1 hfr hF o1
    obtain ⟨fa, fc, hue, -⟩ := HIU.out.open
    subst hue
    have hm0 := MapK.made Try.prog 3 eI eV w1
    have hbX : Below w1.heap.size w1 ((w1.alloc (.map #[] 0)).alloc (.cells #[.map (some w1.heap.size)] 75)) := ((Below.refl _ _).alloc (Nat.le_refl _) _).alloc (by simp) _
    have hcp := cell_new1 (w1.alloc (.map #[] 0)) (.map (some w1.heap.size)) 75
    rw [World.size_alloc] at hcp
    have HM0 := hid (hm0.alloc (.cells #[.map (some w1.heap.size)] 75))
    have HBX := hid hbX
    have HCP := hid hcp
    have hsz1 := hb.size
    clear hm0 hbX hcp
    go_wp2
    clear hmm
    go_loopw [28] (fun kv wr => ∃ (k n : Nat) (M : Int → Option VT), k ≤ F.length ∧ kv = .int .i64 k ∧ IMap wr w1.heap.size n M ∧ (∀ j v lj, M j = some (v, lj) → lj = ovL s l j ∧ Ints wr v lj) ∧ (∀ j ∈ F.take k, ∃ v, M j = some (v, ovL s l j)) ∧
      wr.cell? ⟨w1.heap.size + 1, 0, none⟩ = some (.map (some w1.heap.size)) ∧ Below w1.heap.size w1 wr) (fun kv _ => F.length - (intOf kv).toNat)
    case atStart => exact ⟨0, 0, _, by omega, rfl, HM0.out, (fun _ _ _ h => by cases h), by simp, HCP.out, HBX.out⟩
    case round =>
      clear HM0 HBX HCP
      obtain ⟨k, n, M, hk, rfl, hM, hMi, hMf, hcp, hb2⟩ := hrel
      have hsz2 := hb2.size
      by_cases hlt : k < F.length
      · obtain ⟨b, o, hae, hcell⟩ := (HIU.out.below hb2).at2 hlt
        subst hae
        have hjr := HFR.out F[k] (List.getElem_mem hlt)
        obtain ⟨q, hq⟩ := Int.eq_ofNat_of_zero_le hjr.1
        have hql : q < l.length := by omega
        have hbw : Below w.heap.size w wr := hb.trans (hb2.mono hsz1)
        rw [hq] at hcell
        have HOV := hid (find_over vs vl s l q (wr.drewN 1) ((HS.out.below hbw).drewN 1) ((HV.out.below hbw).drewN 1) hs1 hl1 hql)
        have HKEY := hid (int_key q (wf_small (by omega) (by omega)))
        have hMD : IMap wr.drew w1.heap.size n M := hM.drew
        have HM := hid hM
        have HMI := hid hMi
        have HMF := hid hMf
        clear hM hMi hMf
        go_wp2
        go_region_held3 (fun w' => w'.cell? ⟨w1.heap.size + 1, 0, none⟩ = some (.map (some w1.heap.size))) (first | assumption | go_keep) (first
          | (go_at_call 79; refine HOV.out.mono ?_; rintro e w4 ⟨uo, rfl, oo, hb4'⟩
             have hb4 : Below wr.heap.size wr w4 := (below_self_drewN wr 1).trans hb4'
             have hc4 := (hb4.cell (World.block_lt_of_cell? _ _ hcp)).trans hcp
             have hM4 := HM.out.belowS hb4
             obtain ⟨w5, hup', hM5, hg5⟩ := hM4.run_update (int_keyed Try.underlying3) eI_inj Try.underlying75 (q : Int) ((uo, ovL s l q) : VT) HKEY.out
             have hup : (Instr.mapUpdate 75 (.map (some w1.heap.size)) (.int .i64 q) uo).run Try.prog w4 = .ok () w5 := hup'
             have hc5 : w5.cell? ⟨w1.heap.size + 1, 0, none⟩ = some (.map (some w1.heap.size)) := hM4.cell rfl hg5 hc4))
        have hov : ovL s l q = chosenL 0 (overL s l l[q]) := by unfold ovL; simp [List.getD, hql]
        have hcl : (chosenL 0 (overL s l l[q])).length ≤ 140737488355328 := by
          have := chosenL_le (overL s l l[q]) 0
          have e : (overL s l l[q]).length = l.length := by simp [overL]
          omega
        have hio : Ints w5 uo (ovL s l q) := by rw [hov]; exact hM4.ints rfl hg5 (Ints.of_owns oo hcl)
        have hb5 : Below w1.heap.size w1 w5 := (hb2.trans (hb4.mono hsz2)).grown hg5 (hb2.trans (hb4.mono hsz2)).size (fun q hq => by cases hq; exact Nat.le_refl _)
        have HI5 : Hid (∀ j v lj, (fun y => if y = (q : Int) then some ((uo, ovL s l q) : VT) else M y) j = some (v, lj) → lj = ovL s l j ∧ Ints w5 v lj) := hid (by
          intro j v lj h
          by_cases e : j = (q : Int)
          · subst e
            simp at h
            obtain ⟨rfl, rfl⟩ := h
            exact ⟨rfl, hio⟩
          · simp only [if_neg e] at h
            obtain ⟨g1, g2⟩ := HMI.out j v lj h
            exact ⟨g1, hM4.ints rfl hg5 (g2.below hb4)⟩)
        have HF5 : Hid (∀ j ∈ F.take (k + 1), ∃ v, (fun y => if y = (q : Int) then some ((uo, ovL s l q) : VT) else M y) j = some (v, ovL s l j)) := hid (by
          intro j hj
          by_cases e : j = (q : Int)
          · subst e; exact ⟨uo, by simp⟩
          · rw [List.take_succ_eq_append_getElem hlt, List.mem_append, List.mem_singleton, hq] at hj
            rcases hj with hj | hj
            · obtain ⟨v, hv⟩ := HMF.out j hj
              exact ⟨v, by simp only [if_neg e]; exact hv⟩
            · exact absurd hj e)
        have HM5 := hid hM5
        clear hup hup' hM5 hio hov hcl oo hg5 hM4 hc4 hb4 hb4' hMD
        go_wp2
        go_roundw
        case rel => exact ⟨k + 1, _, _, by omega, by go_num, HM5.out, HI5.out, HF5.out, hc5, hb5⟩
        case measure => simp [intOf]; omega
      · have hkF : k = F.length := by omega
        rw [hkF, List.take_of_length_le (Nat.le_refl _)] at hMf
        have HM := hid hM
        have HMI := hid hMi
        have HMF := hid hMf
        clear hM hMi hMf hkF
        obtain ⟨w2, rfl⟩ : ∃ w2 : World, w2 = wr := ⟨_, rfl⟩
        have HCP2 := hid hcp
        have hbw2 : Below w.heap.size w w2 := hb.trans (hb2.mono hsz1)
        have HBW2 := hid hbw2
        have HIU2 := hid (HIU.out.below hb2)
        have hlt1 := HM.out.lt
        clear hcp hb hb2 hbw2
        go_wp2
        go_loopw [11, 41] (fun u kv wo => ∃ i : Nat, i ≤ F.length ∧ kv = .int .i64 i ∧ wo.ownsRow w2.heap.size 76 2 u (latP (uAt s l) F i).length (pCells (latP (uAt s l) F i)) ∧ Below w2.heap.size w2 wo) (fun _ kv _ => F.length - (intOf kv).toNat)
        case atStart => exact ⟨0, by omega, rfl, World.ownsRow_nil _ _ _ _, Below.refl _ _⟩
        case round =>
          obtain ⟨i, hi, rfl, hown, hbo⟩ := hrel
          have hszo := hbo.size
          by_cases hlti : i < F.length
          · obtain ⟨b, o, hae, hcell⟩ := (HIU2.out.below hbo).at2 hlti
            subst hae
            have hir := HFR.out F[i] (List.getElem_mem hlti)
            have HSUC := hid (latP_succ (U := uAt s l) hlti)
            have hLL := latP_len (U := uAt s l) (F := F) (i := i) hi
            have HOWN := hid hown
            have HBO := hid hbo
            obtain ⟨qi, hqi⟩ : ∃ qi, F[i] = qi := ⟨_, rfl⟩
            rw [hqi] at hcell hir HSUC
            have hFF : i * F.length ≤ 1000 * 1000 := Nat.mul_le_mul (by omega) (by omega)
            obtain ⟨wo, rfl⟩ : ∃ wo : World, wo = wr := ⟨_, rfl⟩
            have hci := cell_new1 wo (.int .i64 qi) 3
            have hbA : Below wo.heap.size wo (wo.alloc (.cells #[.int .i64 qi] 3)) := (Below.refl _ _).alloc (Nat.le_refl _) _
            have HBA := hid hbA
            have HCI := hid hci
            clear hown hbo hqi hci hbA
            go_wp2
            go_loopw [11, 47] (fun u kv wi => ∃ j : Nat, j ≤ F.length ∧ kv = .int .i64 j ∧ wi.ownsRow w2.heap.size 76 2 u (latP (uAt s l) F i ++ rowP (uAt s l) F qi (F.take j)).length (pCells (latP (uAt s l) F i ++ rowP (uAt s l) F qi (F.take j))) ∧ Below w2.heap.size w2 wi ∧
              wi.cell? ⟨wo.heap.size, 0, none⟩ = some (.int .i64 qi) ∧ u.ownBlock ≠ some wo.heap.size) (fun _ kv _ => F.length - (intOf kv).toNat)
            case atStart =>
              refine ⟨0, by omega, rfl, by simpa [rowP] using owns_below HOWN.out HBA.out, HBO.out.trans (HBA.out.mono hszo), HCI.out, fun h => ?_⟩
              have := (HOWN.out.lt _ h).2
              omega
            case round =>
              obtain ⟨j, hj, rfl, hown, hbi, hci, hno⟩ := hrel
              have hszi := hbi.size
              obtain ⟨wi, rfl⟩ : ∃ wi : World, wi = wr := ⟨_, rfl⟩
              have hLR := rowP_len (uAt s l) F qi (F.take j)
              have hLR : (rowP (uAt s l) F qi (F.take j)).length ≤ F.length := Nat.le_trans hLR (List.length_take_le' _ _)
              by_cases hltj : j < F.length
              · obtain ⟨b', o', hae, hcell⟩ := (HIU2.out.below hbi).at2 hltj
                obtain ⟨rfl, rfl⟩ : b = b' ∧ o = o' := by simpa using hae
                have hjr := HFR.out F[j] (List.getElem_mem hltj)
                obtain ⟨vj, hMj⟩ := HMF.out F[j] (List.getElem_mem hltj)
                have hij := (HMI.out _ _ _ hMj).2
                have hsn : latP (uAt s l) F i ++ rowP (uAt s l) F qi (F.take (j + 1)) = latP (uAt s l) F i ++ rowP (uAt s l) F qi (F.take j) ++ if nextB (uAt s l) F qi F[j] then [(qi, F[j])] else [] := by
                  rw [List.take_succ_eq_append_getElem hltj, rowP_snoc, List.append_assoc]
                obtain ⟨qj, hqj⟩ : ∃ qj, F[j] = qj := ⟨_, rfl⟩
                rw [hqj] at hcell hjr hMj hij hsn
                have hlen : (latP (uAt s l) F i ++ rowP (uAt s l) F qi (F.take j)).length ≤ 1002000 := by rw [List.length_append]; omega
                obtain ⟨L, hL⟩ : ∃ L, latP (uAt s l) F i ++ rowP (uAt s l) F qi (F.take j) = L := ⟨_, rfl⟩
                rw [hL] at hown hlen hsn
                clear hL hLR
                have hbA : Below wi.heap.size wi (wi.alloc (.cells #[.int .i64 qj] 3)) := (Below.refl _ _).alloc (Nat.le_refl _) _
                have cj := cell_new1 wi (.int .i64 qj) 3
                have ci := (hbA.cell (World.block_lt_of_cell? _ _ hci)).trans hci
                have hbiA := hbi.trans (hbA.mono hszi)
                have cm := (hbiA.cell (World.block_lt_of_cell? _ _ HCP2.out)).trans HCP2.out
                have hMW : IMap (wi.alloc (.cells #[.int .i64 qj] 3)) w1.heap.size n M := HM.out.belowS hbiA
                have hijW := hij.below hbiA
                have hkq := int_key qj (wf_small (by omega) (by omega))
                have hcon := sl_Contains_ints vj (ovL s l qj) qi _ hijW
                have hUd := ovL_dec (s := s) hir.1 hir.2 qj
                rw [hUd] at hcon
                have hHCF : ∀ X, Below (wi.alloc (.cells #[.int .i64 qj] 3)).heap.size (wi.alloc (.cells #[.int .i64 qj] 3)) X →
                    Calls Try.prog 60 #[.slice (some ⟨b, o, none⟩) F.length fc, .func (.func 83) #[] #[.pointer (some ⟨w1.heap.size + 1, 0, none⟩), .pointer (some ⟨wi.heap.size, 0, none⟩), .pointer (some ⟨wo.heap.size, 0, none⟩)]] X fun e w' => e = .returned (.bool (F.any fun k => uAt s l k qj && uAt s l qi k)) ∧ Below X.heap.size X w' := by
                  intro X hX
                  have := sl_ContainsFunc_ints 83 #[.pointer (some ⟨w1.heap.size + 1, 0, none⟩), .pointer (some ⟨wi.heap.size, 0, none⟩), .pointer (some ⟨wo.heap.size, 0, none⟩)] (enters_of Try.func83 (by kernel_rfl) rfl) (.slice (some ⟨b, o, none⟩) F.length fc) F.length _ X ((HIU2.out.below hbiA).below hX) (fun i => uAt s l (F.getD i 0) qj && uAt s l qi (F.getD i 0)) (by
                    intro i' x X2 hx hbX
                    have hil : i' < F.length := by simpa using (List.getElem?_eq_some_iff.1 hx).1
                    obtain rfl : x = .int .i64 (F.getD i' 0) := by
                      rw [List.getElem?_map, List.getElem?_eq_getElem hil] at hx
                      rw [List.getD_eq_getElem?_getD, List.getElem?_eq_getElem hil]
                      simpa using hx.symm
                    have hgd : F.getD i' 0 = F[i'] := by rw [List.getD_eq_getElem?_getD, List.getElem?_eq_getElem hil]; rfl
                    rw [hgd]
                    obtain ⟨vk, hMk⟩ := HMF.out F[i'] (List.getElem_mem hil)
                    have hik := (HMI.out _ _ _ hMk).2
                    have hkr := HFR.out F[i'] (List.getElem_mem hil)
                    have hX2 := hX.trans (hbX.mono hX.size)
                    have hc := find_Lattice1 F[i'] qi qj (w1.heap.size + 1) wi.heap.size wo.heap.size w1.heap.size n M vj vk (ovL s l qj) (ovL s l F[i']) X2
                      ((hX2.cell (World.block_lt_of_cell? _ _ cm)).trans cm) ((hX2.cell (World.block_lt_of_cell? _ _ cj)).trans cj) ((hX2.cell (World.block_lt_of_cell? _ _ ci)).trans ci)
                      (hMW.belowS hX2) hMj hMk (hijW.below hX2) ((hik.below hbiA).below hX2) (by omega) (by omega)
                    rw [ovL_dec (s := s) hkr.1 hkr.2 qj, ovL_dec (s := s) hir.1 hir.2 F[i']] at hc
                    exact hc.mono fun e w' ⟨h1, h2⟩ => ⟨h1, by rw [← h2]; exact Below.refl _ _⟩)
                  have ha := any_getD (F := F) (f := fun k => uAt s l k qj && uAt s l qi k)
                  rw [ha] at this
                  exact this
                have HCON := hid hcon
                have HCF := hid hHCF
                have HKQ := hid hkq
                have HMJ := hid hMj
                have HSN := hid hsn
                have HMW := hid hMW
                have HOWN := hid (owns_below hown hbA)
                have HBIA := hid hbiA
                have HCIA := hid ci
                have hszA : w2.heap.size ≤ (wi.alloc (.cells #[.int .i64 qj] 3)).heap.size := hbiA.size
                have hpo := World.block_lt_of_cell? _ _ hci
                clear hcon hHCF hkq hMj hsn hMW hown hbiA hij hijW hae hqj hUd hci hbi hbA
                cases hU : uAt s l qi qj
                · have HNX : Hid (nextB (uAt s l) F qi qj = false) := hid (by unfold nextB; rw [hU]; rfl)
                  simp only [hU] at HCON
                  clear hU
                  go_wp2_with (first
                    | (at_lookup; refine wpList_lookup_mapK rfl _ _ 75 false rfl (int_keyed Try.underlying3) eI_inj Try.underlying75 (zero_ints _) rfl HMW.out qj rfl HKQ.out vj (by rw [HMJ.out]; rfl) ?_)
                    | (go_at_call 82; refine HCON.out.mono ?_; rintro e w6 ⟨rfl, rfl⟩))
                  go_roundw
                  case rel => exact ⟨j + 1, by omega, by go_num, by rw [HSN.out, HNX.out]; simpa using HOWN.out, HBIA.out, HCIA.out, hno⟩
                  case measure => simp [intOf]; omega
                · simp only [hU] at HCON
                  have HUU := hid hU
                  clear hU
                  go_wp2_with (first
                    | (at_lookup; refine wpList_lookup_mapK rfl _ _ 75 false rfl (int_keyed Try.underlying3) eI_inj Try.underlying75 (zero_ints _) rfl HMW.out qj rfl HKQ.out vj (by rw [HMJ.out]; rfl) ?_)
                    | (go_at_call 82; refine HCON.out.mono ?_; rintro e w6 ⟨rfl, rfl⟩))
                  refine (HCF.out _ (Below.refl _ _)).mono ?_
                  rintro e w5 ⟨rfl, hb5⟩
                  have cj5 := (hb5.cell (World.block_lt_of_cell? _ _ cj)).trans cj
                  have ci5 := (hb5.cell (World.block_lt_of_cell? _ _ HCIA.out)).trans HCIA.out
                  have HO5 := hid (owns_below HOWN.out hb5)
                  have HB5 := hid (HBIA.out.trans (hb5.mono hszA))
                  have hsz5 := HB5.out.size
                  have hgt5 := hb5.size
                  clear cj ci hb5 cm
                  cases hA : (F.any fun k => uAt s l k qj && uAt s l qi k)
                  · have HNX : Hid (nextB (uAt s l) F qi qj = true) := hid (by unfold nextB; rw [HUU.out, hA]; rfl)
                    clear hA
                    have hbP : Below w5.heap.size w5 (w5.alloc (.cells #[.int .i64 qi, .int .i64 qj] 76)) := (Below.refl _ _).alloc (Nat.le_refl _) _
                    have HOP := hid (owns_below HO5.out hbP)
                    have HBP := hid (HB5.out.trans (hbP.mono hsz5))
                    have HCP5 := hid ((hbP.cell (World.block_lt_of_cell? _ _ ci5)).trans ci5)
                    have HSRC := hid (row_two_new w5 (.int .i64 qi) (.int .i64 qj) 76)
                    have hszP := HBP.out.size
                    clear hbP
                    go_wp2_with (at_builtin; refine wpList_append_lie rfl _ _ 44 rfl w2.heap.size 76 el_pair Try.underlying44 rfl (by decide) _ _ _ rfl HOP.out _ 1 [.int .i64 qi, .int .i64 qj] rfl HSRC.out (by simp; exact ⟨rfl, rfl⟩) (by decide) (by omega) (by omega) hszP _ rfl ?_; intro g1 c1 w7 hown7 hgrow7 hat7 hlt7)
                    have HB7 := hid (HBP.out.grown hgrow7 hszP (fun q hq => (HOP.out.lt q hq).1))
                    have hc7 := (hgrow7.cell_far ⟨wo.heap.size, 0, none⟩ (World.block_lt_of_cell? _ _ HCP5.out) (fun h => hno h.symm)).trans HCP5.out
                    have HO7 := hid hown7
                    have HNO : Hid ((Value.slice (some ⟨g1, 0, none⟩) (L.length + 1) c1).ownBlock ≠ some wo.heap.size) := hid (by
                      intro h
                      simp only [Value.ownBlock, Option.map_some, Option.some.injEq] at h
                      rcases hat7 with h7 | h7
                      · subst h; exact hno h7
                      · simp at h7 hgt5; omega)
                    clear hown7 hgrow7 hat7 hlt7
                    go_roundw
                    case rel => exact ⟨j + 1, by omega, by go_num, by rw [HSN.out, HNX.out, if_pos rfl, List.length_append, pCells_app]; exact HO7.out, HB7.out, hc7, HNO.out⟩
                    case measure => simp [intOf]; omega
                  · have HNX : Hid (nextB (uAt s l) F qi qj = false) := hid (by unfold nextB; rw [hA]; simp)
                    clear hA
                    go_wp2
                    go_roundw
                    case rel => exact ⟨j + 1, by omega, by go_num, by rw [HSN.out, HNX.out]; simpa using HO5.out, HB5.out, ci5, hno⟩
                    case measure => simp [intOf]; omega
              · have hjF : j = F.length := by omega
                subst hjF
                rw [List.take_length] at hown
                have HO := hid hown
                have HBI := hid hbi
                clear hown hbi hci hno
                go_wp2
                go_roundw
                case rel => exact ⟨i + 1, by omega, by go_num, by rw [HSUC.out]; exact HO.out, HBI.out⟩
                case measure => simp [intOf]; omega
          · have hiF : i = F.length := by omega
            subst hiF
            have HL : Hid (latB s l = latP (uAt s l) F F.length) := hid (by rw [HB.out]; unfold latP latL; rw [List.take_length]; rfl)
            have HO := hid (owns_base hown HBW2.out.size)
            have HBO := hid hbo
            clear hown hbo
            go_wp2
            go_ret2
            exact ⟨HBW2.out.trans (HBO.out.mono HBW2.out.size), Or.inr ⟨H1.out, _, rfl, by rw [HL.out]; exact HO.out⟩⟩
end Go.Proofs.Ytiacbdipagbblaa
