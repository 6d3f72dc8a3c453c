/-
  WHAT IT HOLDS: contracts of join and Common of package unify. Conditions: the arguments read as data; both are terms of at most 100 numbers.
  WHAT IT HOLDS: contracts of join and Common of package unify. Conditions: the arguments read as data; both are terms of at most 100 numbers; a sign of 1 to 12 symbols.
  WHAT IT HOLDS: contracts of Closeness of package find, and of the laws' own helpers Small, Few, awake. Conditions: the arguments read as data.
  WHAT IT HOLDS: how a proof's steps lie; contracts of within, right, valid, ValidGivens, asked of package kernel. Conditions: the arguments read as data; a small sign.
-/
import Derived.Deep.RegionLaw
import Derived.Test.YtldgkidojepdlaaGreatZRTopCarriedShelves11
import Derived.Test.YtldgkidojepdlaaGreatZRTopCarriedShelves9
namespace Go.Proofs.YtldgkidojepdlaaGreat
open Go Go.RowKit Go.Maps
def fnW (pn ps pw : Nat) : Value := .func (.func 70) #[] #[.pointer (some ⟨pn, 0, none⟩), .pointer (some ⟨ps, 0, none⟩), .pointer (some ⟨pw, 0, none⟩)]
theorem T_small {s : Sg} {t : List Int} (h : IsT s 12 t) (hs : s.length ≤ 100) : ∀ z ∈ t, -12 ≤ z ∧ z ≤ 200 := by
  intro z hz
  rcases h.range z hz with h | h <;> omega
theorem T_lt {s : Sg} {t : List Int} (h : IsT s 12 t) (h0 : 0 < s.length) : ∀ z ∈ t, z < s.length := by
  intro z hz
  rcases h.range z hz with h | h <;> omega

theorem drop_flat {c : Nat} {zs : List (List Int)} {k : Nat} (h : k < zs.length) : ((c : Int) :: zs.flatten).drop (1 + (zs.take k).flatten.length) = zs[k] ++ (zs.drop (k + 1)).flatten := by
  rw [Nat.add_comm, List.drop_succ_cons]
  have : zs.flatten = (zs.take k).flatten ++ (zs[k] ++ (zs.drop (k + 1)).flatten) := by
    conv => lhs; rw [← List.take_append_drop k zs, List.flatten_append, List.drop_eq_getElem_cons h, List.flatten_cons]
  rw [this, List.drop_left]
theorem flat_next (zs : List (List Int)) {k : Nat} (h : k < zs.length) : 1 + (zs.take (k + 1)).flatten.length = 1 + (zs.take k).flatten.length + zs[k].length := by
  rw [List.take_succ_eq_append_getElem h, List.flatten_append, List.length_append]
  simp only [List.flatten_cons, List.flatten_nil, List.append_nil]
  omega
theorem comW_step {s : Sg} {zs us : List (List Int)} {σ : List KK} {k : Nat} (hz : ∀ a ∈ zs, IsT s 12 a) (hu : ∀ a ∈ us, IsT s 12 a) (hl : zs.length = us.length) (h : k < zs.length) (h' : k < us.length) :
    comW s (zs.take (k + 1)).flatten (us.take (k + 1)).flatten σ = ((comW s (zs.take k).flatten (us.take k).flatten σ).1 ++ (comW s zs[k] us[k] (comW s (zs.take k).flatten (us.take k).flatten σ).2).1, (comW s zs[k] us[k] (comW s (zs.take k).flatten (us.take k).flatten σ).2).2) := by
  rw [List.take_succ_eq_append_getElem h, List.take_succ_eq_append_getElem h', List.flatten_append, List.flatten_append]
  simp only [List.flatten_cons, List.flatten_nil, List.append_nil]
  exact comW_flat _ _ (fun a ha => hz a (List.mem_of_mem_take ha)) (fun a ha => hu a (List.mem_of_mem_take ha)) (by simp; omega) _ _ _

set_option maxHeartbeats 2000000 in
set_option maxRecDepth 100000 in
theorem unify_join1 (s : Sg) (vs : Value) (pn ps pw bm : Nat) (hsl : 1 ≤ s.length) (hsl2 : s.length ≤ 12) {a : List Int} (hta : IsT s 12 a) : ∀ (b : List Int), IsT s 12 b → ∀ (va vb : Value) (σ : List KK) (w : World),
    SignAt w vs s → Ints w va a → Ints w vb b → w.cell? ⟨pn, 0, none⟩ = some (.map (some bm)) → w.cell? ⟨ps, 0, none⟩ = some vs → w.cell? ⟨pw, 0, none⟩ = some (fnW pn ps pw) →
    JMap w bm σ → a.length ≤ 100 → b.length ≤ 100 → σ.length + a.length ≤ 500 →
    Calls Tryz.prog 70 #[va, vb, .pointer (some ⟨pn, 0, none⟩), .pointer (some ⟨ps, 0, none⟩), .pointer (some ⟨pw, 0, none⟩)] w
      fun e w' => ∃ u, e = .returned u ∧ w'.ownsRow w.heap.size 3 1 u (comW s a b σ).1.length ((comW s a b σ).1.map (Value.int .i64)) ∧ JMap w' bm (comW s a b σ).2 ∧ w.grownBy w' (some bm) := by
  have miss : ∀ (a b : List Int) (x y : Int), IsT s 12 a → IsT s 12 b → a.head? = some x → b.head? = some y → ¬ (x = y ∧ 0 ≤ x) → ∀ (va vb : Value) (σ : List KK) (w : World),
      SignAt w vs s → Ints w va a → Ints w vb b → w.cell? ⟨pn, 0, none⟩ = some (.map (some bm)) → 
      JMap w bm σ → a.length ≤ 100 → b.length ≤ 100 → σ.length + a.length ≤ 500 →
      Calls Tryz.prog 70 #[va, vb, .pointer (some ⟨pn, 0, none⟩), .pointer (some ⟨ps, 0, none⟩), .pointer (some ⟨pw, 0, none⟩)] w
        fun e w' => ∃ u, e = .returned u ∧ w'.ownsRow w.heap.size 3 1 u (comW s a b σ).1.length ((comW s a b σ).1.map (Value.int .i64)) ∧ JMap w' bm (comW s a b σ).2 ∧ w.grownBy w' (some bm) := by
    intro a b x y ha hb hx hy hd va vb σ w hs ra rb cn hm hla hlb hσ
    have e := comW_diff (a := []) (b := []) (σ := σ) ha hb hx hy hd
    rw [comW_nil] at e
    simp only [List.append_nil] at e
    rw [e]
    refine (join1_miss s vs va vb pn ps pw bm a b x y σ w ra rb hx hy hd (T_small ha (by omega)) (T_small hb (by omega)) (by omega) (by omega) (by omega) cn hm).mono ?_
    rintro e w' ⟨u, h1, h2, h3, h4⟩
    exact ⟨u, h1, h2, h3, h4⟩
  induction hta with
  | var n h1 h2 =>
    intro b hb va vb σ w hs ra rb cn cs cw hm hla hlb hσ
    obtain ⟨y, hy⟩ : ∃ y, b.head? = some y := by cases hb <;> simp
    exact miss [n] b n y (.var n h1 h2) hb rfl hy (by omega) va vb σ w hs ra rb cn hm hla hlb hσ
  | app c zs h1 h2 h3 ih =>
    intro b hb va vb σ w hs ra rb cn cs cw hm hla hlb hσ
    have hA : IsT s 12 ((c : Int) :: zs.flatten) := .app c zs h1 h2 h3
    have hB := hb
    cases hb with
    | var n k1 k2 => exact miss _ _ _ _ hA hB rfl rfl (by omega) va vb σ w hs ra rb cn hm hla hlb hσ
    | app d us k1 k2 k3 =>
      by_cases hcd : c = d
      · subst hcd
        have hlen : zs.length = us.length := by have := h2.trans k2.symm; omega
        have IH := hid ih
        have MISS := hid miss
        have H3 := hid h3
        have K3 := hid k3
        have HA := hid hA
        have HB := hid hB
        have HLEN := hid hlen
        clear ih miss h3 k3 hA hB hlen
        have hcom : comW s ((c : Int) :: zs.flatten) ((c : Int) :: us.flatten) σ = ((c : Int) :: (comW s zs.flatten us.flatten σ).1, (comW s zs.flatten us.flatten σ).2) := comW_same ⟨rfl, by omega⟩
        have hA0 : ∀ h : 0 < ((c : Int) :: zs.flatten).length, ((c : Int) :: zs.flatten)[0] = c := fun _ => rfl
        have hB0 : ∀ h : 0 < ((c : Int) :: us.flatten).length, ((c : Int) :: us.flatten)[0] = c := fun _ => rfl
        have hA1 : 0 < ((c : Int) :: zs.flatten).length := by simp
        have hB1 : 0 < ((c : Int) :: us.flatten).length := by simp
        have hz12 : zs.length ≤ 100 := by have := terms_len H3.out; rw [List.length_cons] at hla; omega
        obtain ⟨A, hAe⟩ : ∃ A, (c : Int) :: zs.flatten = A := ⟨_, rfl⟩
        obtain ⟨B, hBe⟩ : ∃ B, (c : Int) :: us.flatten = B := ⟨_, rfl⟩
        rw [hAe] at ra hla hσ HA hcom hA0 hA1
        rw [hBe] at rb hlb HB hcom hB0 hB1
        rw [hAe, hBe]
        have HAE := hid hAe
        have HBE := hid hBe
        have HC := hid hcom
        clear hcom hAe hBe
        obtain ⟨aa, acap, hva, ha1, ha2, _, AC⟩ := ra.open
        subst hva
        obtain ⟨ba, bcap, hvb, hb1, hb2, _, BC⟩ := rb.open
        subst hvb
        obtain ⟨ab, ao, rfl, ca⟩ := AC 0 hA1
        obtain ⟨bb, bo, rfl, cb⟩ := BC 0 hB1
        rw [hA0] at ca
        rw [hB0] at cb
        simp only [Nat.add_zero] at ca cb
        obtain ⟨sa, scap, hvs, hs1, hs2, _, SC⟩ := hs.open
        subst hvs
        obtain ⟨sb, so, rfl, _, c2, _⟩ := SC c h1
        have har : arOf s c = s[c].2 := by rw [arOf, if_neg (by omega)]; simp [h1]
        rw [har] at h2 k2
        have hne : ((c : Int) != (c : Int)) = false := by simp
        have hdc : decide ((c : Int) < 0) = false := by simp
        have HAR := hid h2
        rw [← h2] at c2
        clear AC BC SC har h2 k2 hA0 hB0
        go_enter Tryz.func70, Tryz.ntmps70
        go_wp2
        go_quiet (fail)
        go_wp2
        obtain ⟨W, hW⟩ : ∃ W, W = (w.drewN nq).alloc (.cells #[.int .i64 c] 3) := ⟨_, rfl⟩
        have hbW : Below w.heap.size w W := by rw [hW]; exact (below_self_drewN w nq).alloc (Nat.le_refl _) _
        have hown : W.ownsRow w.heap.size 3 1 (.slice (some ⟨w.heap.size, 0, none⟩) 1 1) 1 [.int .i64 c] := by
          rw [hW]
          have := World.ownsRow_lit (base := w.heap.size) (e := 3) (size := 1) (w.drewN nq) #[.int .i64 c] 1 (Nat.le_refl _) (by simp [maxLen]) rfl
          simpa using this
        have caW := (hbW.cell (World.block_lt_of_cell? _ _ ca)).trans ca
        have csW := (hbW.cell (World.block_lt_of_cell? _ _ cs)).trans cs
        have c2W := (hbW.cell (World.block_lt_of_cell? _ _ c2)).trans c2
        have raW := ra.below hbW
        have rbW := rb.below hbW
        have hmW := hm.belowS hbW
        have hsW := hs.below hbW
        have cwW := (hbW.cell (World.block_lt_of_cell? _ _ cw)).trans cw
        have cnW := (hbW.cell (World.block_lt_of_cell? _ _ cn)).trans cn
        have hgW : w.grownBy W (some bm) := grown_of_below hbW
        have hbm : bm < w.heap.size := hm.lt
        have RA := hid ra
        have RB := hid rb
        have HM0 := hid hm
        have HS0 := hid hs
        have CW0 := hid cw
        have CN0 := hid cn
        have CS0 := hid cs
        rw [← hW]
        clear hW ca cb cs c2 ra rb hm hs cw cn hbW hdc hne raW rbW hsW cwW cnW
        go_quiet (fail)
        go_wp2
        clear caW c2W
        go_loopw [11, 12, 13, 62] (fun u i j q wr => ∃ k : Nat, k ≤ zs.length ∧ q = .int .i64 k ∧ i = .int .i64 ((1 + (zs.take k).flatten.length : Nat) : Int) ∧ j = .int .i64 ((1 + (us.take k).flatten.length : Nat) : Int) ∧
            wr.ownsRow w.heap.size 3 1 u (1 + (comW s (zs.take k).flatten (us.take k).flatten σ).1.length) ((.int .i64 c) :: (comW s (zs.take k).flatten (us.take k).flatten σ).1.map (Value.int .i64)) ∧
            JMap wr bm (comW s (zs.take k).flatten (us.take k).flatten σ).2 ∧ w.grownBy wr (some bm)) (fun _ _ _ q _ => zs.length - (intOf q).toNat)
        case atStart => exact ⟨0, by omega, rfl, rfl, rfl, by simpa [comW_nil] using owns_below hown (below_self_drewN _ _), by simpa [comW_nil] using hmW.belowS (below_self_drewN _ _), grown_trans hgW (grown_of_below (below_self_drewN _ _))⟩
        case round =>
          clear hown hgW hmW csW
          obtain ⟨k, hk, rfl, rfl, rfl, hown, hm, hg⟩ := hrel
          have hszr := hg.size
          by_cases hlt : k < zs.length
          · have hltu : k < us.length := by have := HLEN.out; omega
            have hdz := drop_flat (c := c) hlt
            rw [HAE.out] at hdz
            have hdu := drop_flat (c := c) hltu
            rw [HBE.out] at hdu
            have hIz := flat_next zs hlt
            have hIu := flat_next us hltu
            have hcs := comW_step (s := s) (σ := σ) H3.out K3.out HLEN.out hlt hltu
            have hcl1 := comW_len s (zs.take k).flatten (us.take k).flatten σ
            obtain ⟨σk, hσk⟩ : ∃ x, comW s (zs.take k).flatten (us.take k).flatten σ = x := ⟨_, rfl⟩
            rw [hσk] at hcs hcl1 hown hm
            clear hσk
            obtain ⟨I, hI⟩ : ∃ x, 1 + (zs.take k).flatten.length = x := ⟨_, rfl⟩
            obtain ⟨J, hJ⟩ : ∃ x, 1 + (us.take k).flatten.length = x := ⟨_, rfl⟩
            rw [hI] at hdz hIz
            rw [hJ] at hdu hIu
            have hzk := H3.out zs[k] (List.getElem_mem hlt)
            have huk := K3.out us[k] (List.getElem_mem hltu)
            have hzl := congrArg List.length hdz
            have hul := congrArg List.length hdu
            rw [List.length_drop, List.length_append] at hzl hul
            have hz0 := hzk.ne
            have hu0 := huk.ne
            have HZK := hid hzk
            have HUK := hid huk
            have HDZ := hid hdz
            have HDU := hid hdu
            have HIZ := hid hIz
            have HIU := hid hIu
            have HCS := hid hcs
            rw [hI, hJ]
            have HI := hid hI
            have HJ := hid hJ
            have ra := HM0.out.ints rfl hg RA.out
            have rb := HM0.out.ints rfl hg RB.out
            have hs := HM0.out.signAt rfl hg HS0.out
            have cs := HM0.out.cell rfl hg CS0.out
            have cw := HM0.out.cell rfl hg CW0.out
            have cn := HM0.out.cell rfl hg CN0.out
            have hAA : ∀ n, Calls Tryz.prog 73 #[.slice (some ⟨sb, so, none⟩) s.length scap, .slice (some ⟨ab, ao, none⟩) A.length acap, .int .i64 I] (wr.drewN n) fun e w' => e = .returned (.int .i64 ((I + zs[k].length : Nat) : Int)) ∧ w' = wr.drewN n :=
              fun n => (unify_after _ _ s 12 _ _ _ I _ (hs.drewN n) (ra.drewN n) HZK.out HDZ.out (T_lt HA.out (by omega)) (by omega) (by omega)).mono fun e w' h => ⟨h.1, h.2.symm⟩
            have hBB : ∀ n, Calls Tryz.prog 73 #[.slice (some ⟨sb, so, none⟩) s.length scap, .slice (some ⟨bb, bo, none⟩) B.length bcap, .int .i64 J] (wr.drewN n) fun e w' => e = .returned (.int .i64 ((J + us[k].length : Nat) : Int)) ∧ w' = wr.drewN n :=
              fun n => (unify_after _ _ s 12 _ _ _ J _ (hs.drewN n) (rb.drewN n) HUK.out HDU.out (T_lt HB.out (by omega)) (by omega) (by omega)).mono fun e w' h => ⟨h.1, h.2.symm⟩
            have HAA := hid hAA
            have HBB := hid hBB
            clear hAA hBB hzk huk hdz hdu hIz hIu hcs hI hJ
            go_wp2
            go_quiet ((first | (go_at_call 73; with_reducible exact Calls.quiet_of_same (HAA.out _)) | (go_at_call 73; with_reducible exact Calls.quiet_of_same (HBB.out _))))
            go_wp2
            have hb3 : Below wr.heap.size wr (wr.drewN (nq + 1)) := below_self_drewN wr (nq + 1)
            have cw3 : wr.cell? ⟨pw, 0, none⟩ = some (.func (.func 70) #[] #[.pointer (some ⟨pn, 0, none⟩), .pointer (some ⟨ps, 0, none⟩), .pointer (some ⟨pw, 0, none⟩)]) := cw
            have cw4 : (wr.drewN (nq + 1)).cell? ⟨pw, 0, none⟩ = some (fnW pn ps pw) := cw
            have cs3 := (hb3.cell (World.block_lt_of_cell? _ _ cs)).trans cs
            have cn3 := (hb3.cell (World.block_lt_of_cell? _ _ cn)).trans cn
            have ra3 := ra.below hb3
            have rb3 := rb.below hb3
            have hs3 := hs.below hb3
            have hm3 := hm.belowS hb3
            have hown3 := owns_below hown hb3
            have hg3 : w.grownBy (wr.drewN (nq + 1)) (some bm) := grown_trans hg (grown_of_below hb3)
            have ra3' := ra3.sub HDZ.out (cap' := acap - I) (by omega)
            have rb3' := rb3.sub HDU.out (cap' := bcap - J) (by omega)
            have hcall := IH.out zs[k] (List.getElem_mem hlt) us[k] HUK.out _ _ σk.2 _ hs3 ra3' rb3' cn3 cs3 cw4 hm3 (by omega) (by omega) (by have := HI.out; omega)
            have HCALL := hid hcall
            have hcl2 := comW_len s zs[k] us[k] σk.2
            have hszw : w.heap.size ≤ (wr.drewN (nq + 1)).heap.size := hg3.size
            have HOWN := hid hown3
            clear hcall ra rb hs cs cw cn hm hown hb3 ra3 rb3 hs3 ra3' rb3' cw4 cs3 cn3 hg HAA HBB hown3
            have hn1 : σk.1.length ≤ 100 := by have := HI.out; omega
            have hn2 : (comW s zs[k] us[k] σk.2).1.length ≤ 100 := by omega
            have f1 : 0 ≤ (I : Int) + (zs[k].length : Int) ∧ (I : Int) + (zs[k].length : Int) ≤ (acap : Int) := by omega
            have f2 : I ≤ ((I : Int) + (zs[k].length : Int)).toNat := by omega
            have f3 : ¬ acap = I := by omega
            have f4 : ((I : Int) + (zs[k].length : Int)).toNat - I = zs[k].length := by omega
            have g1 : 0 ≤ (J : Int) + (us[k].length : Int) ∧ (J : Int) + (us[k].length : Int) ≤ (bcap : Int) := by omega
            have g2 : J ≤ ((J : Int) + (us[k].length : Int)).toNat := by omega
            have g3 : ¬ bcap = J := by omega
            have g4 : ((J : Int) + (us[k].length : Int)).toNat - J = us[k].length := by omega
            go_region_law (first | (refine step_append_row rfl (.tmp 72) (.tmp 82) 29 rfl w.heap.size 3 el_int Tryz.underlying29 rfl (by decide) u11 _ _ rfl hown5 _ _ _ rfl (RowK.of_owns hown4 (by omega)) (ints_one _) (by omega) (by omega) (by omega) ?_; intro v6 w6 hown6 hg6) | (go_simp; go_at_call 70; refine HCALL.out.mono ?_; rintro e w5 ⟨u, rfl, hown4, hm4, hg4⟩; have hown5 := owns_grown HOWN.out hg4 (by intro q hq; cases hq; exact hbm); have hsz5 := hg4.size))
            have hob : ∀ q, u11.ownBlock = some q → w.heap.size ≤ q := fun q hq => (HOWN.out.lt q hq).1
            have hg7 : w.grownBy w6 (some bm) := grown_own (grown_trans hg3 hg4) hg6 hob
            have hm7 : JMap w6 bm (comW s zs[k] us[k] σk.2).2 := hm4.kept hg6 (fun e => by have := hob bm e.symm; omega)
            clear hown5 hown4 hm4 hg4 hg6
            go_wp2
            go_roundw
            case rel =>
              refine ⟨k + 1, by omega, by go_num, by rw [HIZ.out]; go_num, by rw [HIU.out]; go_num, ?_, ?_, hg7⟩
              · rw [HCS.out]
                simpa [Nat.add_assoc] using hown6
              · rw [HCS.out]; exact hm7
            case measure => simp [intOf]; omega
          · have hkz : k = zs.length := by omega
            have e1 : zs.take k = zs := List.take_of_length_le (by omega)
            have e2 : us.take k = us := List.take_of_length_le (by have := HLEN.out; omega)
            rw [e1, e2] at hown hm
            clear e1 e2 hkz
            go_wp2
            go_ret
            refine ⟨_, rfl, ?_, ?_, hg⟩
            · rw [HC.out]
              simpa [Nat.add_comm] using hown
            · rw [HC.out]; exact hm
      · exact miss _ _ _ _ hA hB rfl rfl (by omega) va vb σ w hs ra rb cn hm hla hlb hσ
end Go.Proofs.YtldgkidojepdlaaGreat
namespace Go.Proofs.YtldgkidojepdlaaGreat
open Go Go.RowKit Go.Maps
set_option maxHeartbeats 1000000 in
theorem unify_join (s : Sg) (vs va vb : Value) (a b : List Int) (w : World) (hsl : 1 ≤ s.length) (hsl2 : s.length ≤ 12) (ha : IsT s 12 a) (hb : IsT s 12 b) (hs : SignAt w vs s) (ra : Ints w va a) (rb : Ints w vb b) (hla : a.length ≤ 100) (hlb : b.length ≤ 100) :
    Calls Tryz.prog 53 #[vs, va, vb] w fun e w' => ∃ u, e = .returned u ∧ w'.ownsRow w.heap.size 3 1 u (comW s a b []).1.length ((comW s a b []).1.map (Value.int .i64)) ∧ Below w.heap.size w w' := by
  obtain ⟨sa, scap, hse, _⟩ := hs.open
  subst hse
  obtain ⟨aa, acap, hae, _⟩ := ra.open
  subst hae
  obtain ⟨ba, bcap, hbe, _⟩ := rb.open
  subst hbe
  have hmm := @run_makeMap Tryz.prog
  go_enter Tryz.func53, Tryz.ntmps53
  go_wp2_with fail
  clear hmm
  have k0 : ∀ o1 o2 o3, ((((w.alloc (.cells #[.slice sa s.length scap] 23)).alloc o1).alloc o2).alloc o3).cell? ⟨w.heap.size, 0, none⟩ = some (.slice sa s.length scap) := fun o1 o2 o3 => cell_alloc_keep _ (cell_alloc_keep _ (cell_alloc_keep _ (cell_new1 _ _ _)))
  have hbx : ∀ o0 o1 o2 o3, Below w.heap.size w ((((w.alloc o0).alloc o1).alloc o2).alloc o3) := fun o0 o1 o2 o3 => ((((Below.refl _ _).alloc (Nat.le_refl _) _).alloc (by simp) _).alloc (by simp; omega) _).alloc (by simp; omega) _
  have k1 := cell_new1 ((w.alloc (.cells #[.slice sa s.length scap] 23)).alloc (.map #[] 0)) (.map (some (w.heap.size + 1))) 104
  have k2 := cell_new1 (((w.alloc (.cells #[.slice sa s.length scap] 23)).alloc (.map #[] 0)).alloc (.cells #[.map (some (w.heap.size + 1))] 104)) (fnW (w.heap.size + 1 + 1) w.heap.size (w.heap.size + 1 + 1 + 1)) 105
  have km := MapK.made Tryz.prog 108 ek2 (Value.int .i64) (w.alloc (.cells #[.slice sa s.length scap] 23))
  simp only [World.size_alloc] at k1 k2 km
  have hj := unify_join1 s (.slice sa s.length scap) (w.heap.size + 1 + 1) w.heap.size (w.heap.size + 1 + 1 + 1) (w.heap.size + 1) hsl hsl2 ha b hb _ _ [] _ (hs.below (hbx _ _ _ _)) (ra.below (hbx _ _ _ _)) (rb.below (hbx _ _ _ _)) (cell_alloc_keep _ k1) (k0 _ _ _) k2 (by
    have h := (km.alloc (.cells #[.map (some (w.heap.size + 1))] 104)).alloc (.cells #[fnW (w.heap.size + 1 + 1) w.heap.size (w.heap.size + 1 + 1 + 1)] 105)
    unfold JMap
    rw [show mapK [] = fun _ => none from funext fun x => by simp [mapK]]
    exact h) hla hlb (by simp; omega)
  refine Calls.mono hj ?_
  rintro e w1 ⟨u, rfl, hown, _, hg⟩
  have hB := hbx (.cells #[.slice sa s.length scap] 23) (.map #[] 0) (.cells #[.map (some (w.heap.size + 1))] 104) (.cells #[fnW (w.heap.size + 1 + 1) w.heap.size (w.heap.size + 1 + 1 + 1)] 105)
  have hB2 : Below w.heap.size w w1 := hB.grown hg hB.size (fun q hq => by cases hq; omega)
  have hown2 := owns_base hown hB.size
  clear hj k0 hbx k1 k2 km hown hg hB
  go_wp2
  go_ret
  exact ⟨_, rfl, hown2, hB2⟩
def symN (l : List Int) : Nat := (l.filter fun x => decide (0 ≤ x)).length
theorem symN_le (l : List Int) : symN l ≤ l.length := List.length_filter_le _ _
theorem symN_snoc (l : List Int) (x : Int) : symN (l ++ [x]) = symN l + if 0 ≤ x then 1 else 0 := by
  unfold symN
  rw [List.filter_append]
  by_cases h : 0 ≤ x <;> simp [h]
set_option maxHeartbeats 400000 in
theorem unify_Common (s : Sg) (vs va vb : Value) (a b : List Int) (w : World) (hsl : 1 ≤ s.length) (hsl2 : s.length ≤ 12) (ha : IsT s 12 a) (hb : IsT s 12 b) (hs : SignAt w vs s) (ra : Ints w va a) (rb : Ints w vb b) (hla : a.length ≤ 100) (hlb : b.length ≤ 100) :
    Calls Tryz.prog 33 #[vs, va, vb] w fun e w' => e = .returned (.int .i64 (symN (comW s a b []).1)) ∧ Below w.heap.size w w' := by
  have hcl := (comW_len s a b []).1
  have hj := unify_join s vs va vb a b w hsl hsl2 ha hb hs ra rb hla hlb
  obtain ⟨L, hL⟩ : ∃ L, (comW s a b []).1 = L := ⟨_, rfl⟩
  rw [hL] at hj hcl ⊢
  have HJ := hid hj
  clear hj hL
  go_enter Tryz.func33, Tryz.ntmps33
  go_wp2_with fail
  refine HJ.out.mono ?_
  rintro e w1 ⟨u, rfl, hown, hb1⟩
  obtain ⟨ua, ucap, hue, _, _, _, UC⟩ := (Ints.of_owns hown (by omega)).open
  subst hue
  have UC' := hid UC
  clear UC hown
  go_wp2
  go_loop [7, 15] (fun c i => ∃ k : Nat, k ≤ L.length ∧ i = .int .i64 k ∧ c = .int .i64 (symN (L.take k))) (fun _ i => L.length - (intOf i).toNat)
  case atStart => exact ⟨0, by omega, rfl, rfl⟩
  case round =>
    obtain ⟨k, hk, rfl, rfl⟩ := hrel
    have hsn := symN_le (L.take k)
    have htl : (L.take k).length ≤ k := List.length_take_le _ _
    by_cases hlt : k < L.length
    · obtain ⟨b', o', rfl, hcell⟩ := UC'.out k hlt
      have hst : symN (L.take (k + 1)) = symN (L.take k) + if 0 ≤ L[k] then 1 else 0 := by rw [List.take_succ_eq_append_getElem hlt, symN_snoc]
      by_cases hx : 0 ≤ L[k]
      · rw [if_pos hx] at hst
        have HST := hid hst
        clear hst
        go_wp2
        go_round
        case rel => exact ⟨k + 1, by omega, by go_num, by rw [HST.out]; go_num⟩
        case measure => simp [intOf]; omega
      · rw [if_neg hx] at hst
        have HST := hid hst
        clear hst
        go_wp2
        go_round
        case rel => exact ⟨k + 1, by omega, by go_num, by rw [HST.out]; go_num⟩
        case measure => simp [intOf]; omega
    · have hkl : L.take k = L := List.take_of_length_le (by omega)
      have HKL := hid hkl
      clear hkl
      go_wp2
      go_ret
      exact ⟨ret_int (by rw [HKL.out]), hb1⟩
end Go.Proofs.YtldgkidojepdlaaGreat
namespace Go.Proofs.YtldgkidojepdlaaGreat
open Go Go.RowKit Go.Maps
theorem termB_facts {s : Sg} {t : List Int} (h : termB s t = true) : signB s = true ∧ 1 ≤ s.length ∧ s.length ≤ 12 ∧ t.length ≤ 60 := by
  have h' := h
  unfold termB at h'
  simp only [Bool.and_eq_true] at h'
  have h1 := signB_len h'.1.1
  have h2 := inB_true.1 h'.1.2
  exact ⟨h'.1.1, h1.1, h1.2, by omega⟩
def sCN : Sg := [(⟨#[67]⟩, 2), (⟨#[78]⟩, 1)]
theorem below_alloc3 (w : World) (a b c : Obj) : Below w.heap.size w (((w.alloc a).alloc b).alloc c) :=
  (((Below.refl _ _).alloc (Nat.le_refl _) _).alloc (by simp) _).alloc (by simp; omega) _
def closeB (s : Sg) (t q : List Int) : Int × Int := if termB s t && termB s q then ((symN (comW s t q []).1 : Int), 0) else (0, 1)
theorem law1_Small (vs vl : Value) (s : Sg) (l : List (List Int)) (w : World) (hs : SignAt w vs s) (hl : Terms w vl l) :
    Calls Tryz.prog 5 #[vs, vl] w fun e w' => e = .returned (.bool (smallB s l)) ∧ w = w' := by
  obtain ⟨sa, scap, rfl, _, hsl, _⟩ := hs.open
  obtain ⟨la, lcap, rfl, hl1, hl2, _, LC⟩ := hl.open
  have LC' := hid LC
  clear LC hs hl
  go_enter Tryz.func5, Tryz.ntmps5
  go_wp2
  go_loop [5] (fun i => ∃ k : Nat, k ≤ l.length ∧ i = .int .i64 k ∧ (l.take k).all (fun t => decide (t.length ≤ 200)) = true) (fun i => l.length - (intOf i).toNat)
  case atStart => exact ⟨0, by omega, rfl, by simp⟩
  case round =>
    obtain ⟨k, hk, rfl, hrel⟩ := hrel
    have HR := hid hrel
    clear hrel
    by_cases hlt : k < l.length
    · obtain ⟨b, o, u, rfl, hcell, hu⟩ := LC'.out k hlt
      obtain ⟨ua, ucap, rfl, _, hul, _⟩ := hu.open
      by_cases h2 : (200 : Int) < l[k].length
      · have HF : Hid (smallB s l = false) := hid (by
          unfold smallB
          have : l.all (fun t => decide (t.length ≤ 200)) = false := by
            rw [List.all_eq_false]; exact ⟨l[k], List.getElem_mem hlt, by simp; omega⟩
          rw [this]; rfl)
        go_wp2
        go_ret
        exact ⟨ret_bool HF.out.symm, rfl⟩
      · go_wp2
        go_round
        case rel =>
          refine ⟨k + 1, by omega, by go_num, ?_⟩
          rw [List.take_succ_eq_append_getElem hlt, List.all_append, HR.out]
          simp; omega
        case measure => simp [intOf]; omega
    · have HF : Hid (smallB s l = decide ((s.length : Int) ≤ 40)) := hid (by
        unfold smallB
        have := HR.out
        rw [List.take_of_length_le (by omega)] at this
        rw [this]
        simp; omega)
      go_wp2
      go_ret
      exact ⟨ret_bool HF.out.symm, rfl⟩
theorem awake_close : closeB sCN [0, 1, -1, -2] [0, 1, -1, 1, -1] = (2, 0) := by decide +kernel
end Go.Proofs.YtldgkidojepdlaaGreat
namespace Go.Proofs.YtldgkidojepdlaaGreat
open Go Go.RowKit Go.Maps
/-- a step of a proof: its kind and two indexes. -/
abbrev St := Int × Int × Int
def stV (x : St) : List Value := [.int .i64 x.1, .int .i64 x.2.1, .int .i64 x.2.2]
def stC (l : List St) : List Value := l.flatMap stV
theorem stC_len (l : List St) : (stC l).length = l.length * 3 := by
  induction l with
  | nil => rfl
  | cons x l ih => simp [stC, stV] at ih ⊢; omega
theorem stC_get (l : List St) : ∀ (j : Nat) (h : j < l.length), (stC l)[j * 3]? = some (.int .i64 l[j].1) ∧ (stC l)[j * 3 + 1]? = some (.int .i64 l[j].2.1) ∧ (stC l)[j * 3 + 2]? = some (.int .i64 l[j].2.2) := by
  induction l with
  | nil => intro j h; simp at h
  | cons x l ih =>
    intro j h
    cases j with
    | zero => simp [stC, stV]
    | succ j =>
      have := ih j (by simpa using h)
      simpa [stC, stV, Nat.add_mul, Nat.add_assoc] using this
def StepsAt (w : World) (v : Value) (l : List St) : Prop := RowK w v 3 l.length (stC l)
theorem StepsAt.below {w w' : World} {v : Value} {l : List St} (h : StepsAt w v l) (hb : Below w.heap.size w w') : StepsAt w' v l := RowK.below h hb
theorem StepsAt.open {w : World} {v : Value} {l : List St} (h : StepsAt w v l) :
    ∃ a cap, v = .slice a l.length cap ∧ l.length ≤ cap ∧ l.length ≤ 140737488355328 ∧ (a = none → cap = 0) ∧
      ∀ j (h : j < l.length), ∃ b o, a = some ⟨b, o, none⟩ ∧ w.cell? ⟨b, o + j * 3, none⟩ = some (.int .i64 l[j].1) ∧ w.cell? ⟨b, o + j * 3 + 1, none⟩ = some (.int .i64 l[j].2.1) ∧ w.cell? ⟨b, o + j * 3 + 2, none⟩ = some (.int .i64 l[j].2.2) := by
  obtain ⟨_, a, cap, h2, h3, h4, h5, h6⟩ := h
  refine ⟨a, cap, h2, h3, h4, h5, fun j hj => ?_⟩
  obtain ⟨g1, g2, g3⟩ := stC_get l j hj
  obtain ⟨b, o, e1, q1⟩ := h6 _ _ g1
  obtain ⟨b', o', e2, q2⟩ := h6 _ _ g2
  obtain ⟨b'', o'', e3, q3⟩ := h6 _ _ g3
  rw [e1] at e2 e3
  cases e2; cases e3
  exact ⟨b, o, e1, q1, by rw [Nat.add_assoc]; exact q2, by rw [Nat.add_assoc]; exact q3⟩
/-- whether a step is right in a proof behind others. -/
def rightB (g : Int) (k : Int) (x : St) : Bool := if x.1 = 1 then inB x.2.1 0 (g - 1) && decide (x.2.2 = 0) else if x.1 = 2 then inB x.2.1 0 (k - 1) && inB x.2.2 0 (k - 1) else false
def proofB (g : Int) (p : List St) : Bool := (List.range p.length).all (fun k => rightB g k (p.getD k (0, 0, 0))) && inB p.length 1 60
theorem proofB_at {g : Int} {p : List St} (h : proofB g p = true) {k : Nat} (hk : k < p.length) : rightB g k p[k] = true := by
  unfold proofB at h
  simp only [Bool.and_eq_true, List.all_eq_true, List.mem_range] at h
  have := h.1 k hk
  rwa [List.getD_eq_getElem?_getD, List.getElem?_eq_getElem hk] at this
theorem proofB_no {g : Int} {p : List St} {k : Nat} (hk : k < p.length) (h : rightB g k p[k] = false) : proofB g p = false := by
  rw [Bool.eq_false_iff]
  intro hh
  rw [proofB_at hh hk] at h
  cases h
theorem proofB_all {g : Int} {p : List St} (h : ∀ k (hk : k < p.length), rightB g k p[k] = true) : proofB g p = inB p.length 1 60 := by
  unfold proofB
  have : (List.range p.length).all (fun k => rightB g k (p.getD k (0, 0, 0))) = true := by
    rw [List.all_eq_true]
    intro k hk
    have hk' : k < p.length := by simpa using hk
    rw [List.getD_eq_getElem?_getD, List.getElem?_eq_getElem hk']
    exact h k hk'
  rw [this, Bool.true_and]
def givensB (s : Sg) (g : List (List Int)) : Bool := signB s && decide (g.length ≤ 60) && allB s g
def askedB (s : Sg) (g : List (List Int)) (p : List St) : Bool := givensB s g && proofB g.length p
end Go.Proofs.YtldgkidojepdlaaGreat
