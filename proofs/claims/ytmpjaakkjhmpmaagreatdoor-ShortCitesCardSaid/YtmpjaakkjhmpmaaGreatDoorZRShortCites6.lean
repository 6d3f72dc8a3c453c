/-
  WHAT IT HOLDS: contracts of the small functions of package unify: code, key, after. Conditions: the arguments read as data; at 'after' a whole term stands at the index.
  WHAT IT HOLDS: contracts of End, Part and Arguments of the reference of layer 1. Conditions: the arguments read as data; a whole term stands at the index.
  WHAT IT HOLDS: where package term finds the end of a part. No program. Condition: the part is a term.
-/
import Derived.Laws.IdiomStrings
import Derived.Test.YtmpjaakkjhmpmaaGreatDoorZRShortCites2
import Derived.Test.YtmpjaakkjhmpmaaGreatDoorZRShortCites1
import Derived.Test.YtmpjaakkjhmpmaaGreatDoorZRShortCites5
namespace Go.Proofs.YtmpjaakkjhmpmaaGreatDoor
open Go Go.RowKit Go.Maps
theorem unify_code (n : Int) (w : World) (h1 : -1000000 ≤ n) (h2 : n ≤ 1000000) :
    Calls Tryz.prog 216 #[.int .i64 n] w fun e w' => e = .returned (.int .i64 (-n - 1)) ∧ w = w' := by
  go_enter Tryz.func216, Tryz.ntmps216
  go_wp2
  go_ret
  exact ⟨rfl, rfl⟩
theorem terms_cut {s : Sg} {m : Int} {c0 : List Int} {cs : List (List Int)} {x : Int} {l r : List Int} (h0 : IsT s m c0) (hc : ∀ a ∈ cs, IsT s m a) (he : x :: l = c0 ++ (cs.flatten ++ r)) :
    ∃ ds : List (List Int), (∀ a ∈ ds, IsT s m a) ∧ l = ds.flatten ++ r ∧ (ds.length : Int) = arOf s x + cs.length := by
  cases h0 with
  | var n h1 h2 =>
    simp at he
    refine ⟨cs, hc, he.2, ?_⟩
    rw [he.1]; simp [arOf, h2]
  | app c zs h1 h2 h3 =>
    simp at he
    refine ⟨zs ++ cs, ?_, ?_, ?_⟩
    · intro a ha
      rcases List.mem_append.1 ha with ha | ha
      · exact h3 a ha
      · exact hc a ha
    · rw [he.2]; simp
    · rw [he.1]; simp; omega
theorem terms_len {s : Sg} {m : Int} {cs : List (List Int)} (hc : ∀ a ∈ cs, IsT s m a) : cs.length ≤ cs.flatten.length := by
  induction cs with
  | nil => simp
  | cons a cs ih =>
    have := (hc a (by simp)).ne
    have := ih (fun x hx => hc x (by simp [hx]))
    simp only [List.flatten_cons, List.length_append, List.length_cons]; omega

set_option maxHeartbeats 400000 in
theorem unify_after (vs vt : Value) (s : Sg) (m : Int) (t p r : List Int) (i : Nat) (w : World) (hs : SignAt w vs s) (ht : Ints w vt t) (hp : IsT s m p) (hd : t.drop i = p ++ r) (hsg : ∀ x ∈ t, x < s.length) (hl : t.length ≤ 1000) (hi : i < t.length) :
    Calls Tryz.prog 178 #[vs, vt, .int .i64 i] w fun e w' => e = .returned (.int .i64 ((i + p.length : Nat) : Int)) ∧ w = w' := by
  obtain ⟨ta, tcap, rfl, ht1, ht2, _, TC⟩ := ht.open
  have TC' := hid TC
  obtain ⟨sa, scap, rfl, hs1, hs2, _, SC⟩ := hs.open
  have SC' := hid SC
  have HD := hid hd
  have HSG := hid hsg
  clear TC SC hs ht hd hsg
  go_enter Tryz.func178, Tryz.ntmps178
  go_wp2
  go_loop [2, 7] (fun at_ op => ∃ (j : Nat) (cs : List (List Int)), at_ = .int .i64 j ∧ op = .int .i64 cs.length ∧ (∀ a ∈ cs, IsT s m a) ∧ t.drop j = cs.flatten ++ r ∧ i ≤ j ∧ j ≤ t.length) (fun at_ _ => t.length - (intOf at_).toNat)
  case atStart => exact ⟨i, [p], rfl, rfl, by simpa using hp, by simpa using HD.out, Nat.le_refl _, by omega⟩
  case round =>
    obtain ⟨j, cs, rfl, rfl, hcs, hdr, hij, hjt⟩ := hrel
    have HCS := hid hcs
    have HDR := hid hdr
    clear hcs hdr
    cases cs with
    | nil =>
      have hfin : j = i + p.length := by
        have h1 := congrArg List.length HDR.out
        have h2 := congrArg List.length HD.out
        simp only [List.length_drop, List.length_append, List.flatten_nil, List.length_nil] at h1 h2
        omega
      have HF := hid hfin
      clear hfin
      go_wp2
      go_ret
      exact ⟨ret_int (by have := HF.out; omega), rfl⟩
    | cons c0 cs =>
      have hc0 := HCS.out c0 (by simp)
      have hjl : j < t.length := by
        have h1 := congrArg List.length HDR.out
        have := hc0.ne
        simp only [List.length_drop, List.length_append, List.flatten_cons] at h1
        omega
      obtain ⟨b, o, rfl, hcell⟩ := TC'.out j hjl
      have hcut : t[j] :: t.drop (j + 1) = c0 ++ (cs.flatten ++ r) := by
        rw [← List.drop_eq_getElem_cons hjl, HDR.out]; simp
      obtain ⟨ds, hds, hdl, hdn⟩ := terms_cut hc0 (fun a ha => HCS.out a (by simp [ha])) hcut
      have hdlen := terms_len hds
      have hdl2 := congrArg List.length hdl
      rw [List.length_drop, List.length_append] at hdl2
      have hx := HSG.out t[j] (List.getElem_mem hjl)
      have HDS := hid hds
      have HDL := hid hdl
      clear hds hdl hcut hc0
      have hcs3 : cs.length ≤ 1000 := by
        have h1 := congrArg List.length HDR.out
        have h2 := terms_len (fun a ha => HCS.out a (List.mem_cons_of_mem c0 ha))
        simp only [List.length_drop, List.length_append, List.flatten_cons] at h1; omega
      have hlc : ((c0 :: cs).length : Int) = (cs.length : Int) + 1 := by simp
      rw [hlc]
      clear hlc
      by_cases hneg : t[j] < 0
      · have har : arOf s t[j] = 0 := by simp [arOf, hneg]
        rw [har] at hdn
        have HDN := hid hdn
        clear hdn har
        go_wp2
        go_round
        case rel => exact ⟨j + 1, ds, by go_num, by rw [HDN.out]; go_num, HDS.out, HDL.out, by omega, by omega⟩
        case measure => simp [intOf]; omega
      · obtain ⟨c, hc⟩ := Int.eq_ofNat_of_zero_le (show 0 ≤ t[j] by omega)
        have hcl : c < s.length := by omega
        obtain ⟨sb, so, rfl, _, c2, _⟩ := SC'.out c hcl
        have har : arOf s t[j] = s[c].2 := by rw [hc, arOf, if_neg (by omega)]; simp [hcl]
        rw [har] at hdn
        rw [hc] at hcell
        have hdn1 : 0 ≤ s[c].2 + cs.length := by omega
        have hdn2 : s[c].2 + cs.length ≤ 1000 := by omega
        have HDN := hid hdn
        clear hdn har hc hdlen hdl2
        go_wp2
        go_round
        case rel => exact ⟨j + 1, ds, by go_num, by rw [HDN.out]; go_num, HDS.out, HDL.out, by omega, by omega⟩
        case measure => simp [intOf]; omega
end Go.Proofs.YtmpjaakkjhmpmaaGreatDoor
namespace Go.Proofs.YtmpjaakkjhmpmaaGreatDoor
open Go Go.RowKit Go.Maps
set_option maxHeartbeats 400000 in
theorem ref1_End (vs vt : Value) (s : Sg) (m : Int) (t p r : List Int) (i : Nat) (w : World) (hs : SignAt w vs s) (ht : Ints w vt t) (hp : IsT s m p) (hd : t.drop i = p ++ r) (hsg : ∀ x ∈ t, x < s.length) (hl : t.length ≤ 1000) (hi : i < t.length) :
    Calls Tryz.prog 199 #[vs, vt, .int .i64 i] w fun e w' => e = .returned (.int .i64 ((i + p.length : Nat) : Int)) ∧ w = w' := by
  obtain ⟨ta, tcap, rfl, ht1, ht2, -, TC⟩ := ht.open
  have TC' := hid TC
  obtain ⟨sa, scap, rfl, -⟩ := hs.open
  have HD := hid hd
  have HSG := hid hsg
  have HS := hid hs
  clear TC hs ht hd hsg
  go_enter Tryz.func199, Tryz.ntmps199
  go_wp2
  go_loop [2, 7] (fun at_ op => ∃ (j : Nat) (cs : List (List Int)), at_ = .int .i64 j ∧ op = .int .i64 cs.length ∧ (∀ a ∈ cs, IsT s m a) ∧ t.drop j = cs.flatten ++ r ∧ i ≤ j ∧ j ≤ t.length) (fun at_ _ => t.length - (intOf at_).toNat)
  case atStart => exact ⟨i, [p], rfl, rfl, by simpa using hp, by simpa using HD.out, Nat.le_refl _, by omega⟩
  case round =>
    obtain ⟨j, cs, rfl, rfl, hcs, hdr, hij, hjt⟩ := hrel
    have HCS := hid hcs
    have HDR := hid hdr
    clear hcs hdr
    cases cs with
    | nil =>
      have hfin : j = i + p.length := by
        have h1 := congrArg List.length HDR.out
        have h2 := congrArg List.length HD.out
        simp only [List.length_drop, List.length_append, List.flatten_nil, List.length_nil] at h1 h2
        omega
      have HF := hid hfin
      clear hfin
      go_wp2
      go_ret
      exact ⟨ret_int (by have := HF.out; omega), rfl⟩
    | cons c0 cs =>
      have hc0 := HCS.out c0 (by simp)
      have hjl : j < t.length := by
        have h1 := congrArg List.length HDR.out
        have := hc0.ne
        simp only [List.length_drop, List.length_append, List.flatten_cons] at h1
        omega
      obtain ⟨b, o, rfl, hcell⟩ := TC'.out j hjl
      have hcut : t[j] :: t.drop (j + 1) = c0 ++ (cs.flatten ++ r) := by
        rw [← List.drop_eq_getElem_cons hjl, HDR.out]; simp
      obtain ⟨ds, hds, hdl, hdn⟩ := terms_cut hc0 (fun a ha => HCS.out a (by simp [ha])) hcut
      have hdlen := terms_len hds
      have hdl2 := congrArg List.length hdl
      rw [List.length_drop, List.length_append] at hdl2
      have hx := HSG.out t[j] (List.getElem_mem hjl)
      have HDS := hid hds
      have HDL := hid hdl
      clear hds hdl hcut hc0
      have hcs3 : cs.length ≤ 1000 := by
        have h1 := congrArg List.length HDR.out
        have h2 := terms_len (fun a ha => HCS.out a (List.mem_cons_of_mem c0 ha))
        simp only [List.length_drop, List.length_append, List.flatten_cons] at h1; omega
      have hlc : ((c0 :: cs).length : Int) = (cs.length : Int) + 1 := by simp
      rw [hlc]
      clear hlc
      obtain ⟨ar, har⟩ : ∃ x, arOf s t[j] = x := ⟨_, rfl⟩
      have hA := ref1_Arity (.slice sa s.length scap) s t[j] w HS.out hx
      rw [har] at hdn hA
      have HAR := hid hA
      have hb1 : 0 ≤ ar + cs.length := by omega
      have hb2 : ar + cs.length ≤ 1000 := by omega
      have HDN := hid hdn
      clear hdn har hA hdlen hdl2
      go_wp2_with (go_at_call 163; refine HAR.out.mono ?_; rintro e w1 ⟨rfl, rfl⟩)
      go_round
      case rel => exact ⟨j + 1, ds, by go_num, by rw [HDN.out]; go_num, HDS.out, HDL.out, by omega, by omega⟩
      case measure => simp [intOf]; omega
theorem owns_some {w : World} {base : Nat} {e : TypeId} {k : Nat} {v : Value} {n : Nat} {xs : List Value} (h : w.ownsRow base e k v n xs) (h0 : 0 < n) : ∃ g cap, v = .slice (some ⟨g, 0, none⟩) n cap ∧ base ≤ g ∧ n ≤ cap := by
  obtain ⟨h1, h2⟩ := h
  rcases h2 with ⟨_, rfl⟩ | ⟨g, cap, cur, rfl, hb, hg, hnc, _⟩
  · simp at h1; omega
  · exact ⟨g, cap, rfl, hb, hnc⟩
theorem ref1_Part (vs vt : Value) (s : Sg) (m : Int) (t p r : List Int) (i : Nat) (w : World) (hs : SignAt w vs s) (ht : Ints w vt t) (hp : IsT s m p) (hd : t.drop i = p ++ r) (hsg : ∀ x ∈ t, x < s.length) (hl : t.length ≤ 1000) (hi : i < t.length) :
    Calls Tryz.prog 164 #[vs, vt, .int .i64 i] w fun e w' => ∃ u, e = .returned u ∧ w'.ownsRow w.heap.size 3 1 u p.length (p.map (Value.int .i64)) ∧ Below w.heap.size w w' := by
  obtain ⟨ta, tcap, rfl, ht1, ht2, -, TC⟩ := ht.open
  obtain ⟨sa, scap, rfl, -⟩ := hs.open
  obtain ⟨tb, to, rfl, -⟩ := TC i hi
  have hpl := congrArg List.length hd
  rw [List.length_drop, List.length_append] at hpl
  have hb0 : Below w.heap.size w (w.alloc (.cells #[] 3)) := (Below.refl _ _).alloc (Nat.le_refl _) _
  have hend := ref1_End _ _ s m t p r i (w.alloc (.cells #[] 3)) (hs.below hb0) (ht.below hb0) hp hd hsg hl hi
  have hsub := (ht.below hb0).sub hd (cap' := tcap - i) (by omega)
  have e1 : (0 : Int) ≤ (i : Int) + (p.length : Int) ∧ (i : Int) + (p.length : Int) ≤ (tcap : Int) := by omega
  have e2 : i ≤ ((i : Int) + (p.length : Int)).toNat := by omega
  have e3 : ((i : Int) + (p.length : Int)).toNat - i = p.length := by omega
  have hown := World.ownsRow_lit (base := w.heap.size) (e := 3) (size := 1) w #[] 0 (Nat.le_refl _) (by simp [maxLen]) rfl
  have HEND := hid hend
  have HSUB := hid hsub
  have HOWN := hid hown
  have HB0 := hid hb0
  clear TC hs ht hd hsg hp hend hsub hown hb0
  go_enter Tryz.func164, Tryz.ntmps164
  go_wp2_with (first
    | (go_at_call 199; refine HEND.out.mono ?_; rintro e w1 ⟨rfl, rfl⟩)
    | (at_builtin; refine wpList_append_row rfl _ _ 34 rfl w.heap.size 3 el_int Tryz.underlying34 rfl (by decide) _ _ _ rfl HOWN.out _ p.length (p.map (Value.int .i64)) rfl HSUB.out (ints_one p) (by omega) (by omega) (by simp) ?_; intro v' w4 hown4 hgrow4 _))
  go_ret
  exact ⟨_, rfl, by simpa using hown4, HB0.out.grown hgrow4 (by simp) (fun q hq => by cases hq; exact Nat.le_refl _)⟩
/-- where the arguments of a part begin that stands at index i. -/
def startL (i : Nat) (zs : List (List Int)) (k : Nat) : List Int := (List.range k).map fun j => ((i + 1 + (zs.take j).flatten.length : Nat) : Int)
theorem startL_succ (i : Nat) (zs : List (List Int)) (k : Nat) : startL i zs (k + 1) = startL i zs k ++ [((i + 1 + (zs.take k).flatten.length : Nat) : Int)] := by
  unfold startL
  rw [List.range_succ, List.map_append]; rfl
theorem startL_len (i : Nat) (zs : List (List Int)) (k : Nat) : (startL i zs k).length = k := by simp [startL]
theorem startL_get (i : Nat) (zs : List (List Int)) {k n : Nat} (h : k < n) (h' : k < (startL i zs n).length) : (startL i zs n)[k] = ((i + 1 + (zs.take k).flatten.length : Nat) : Int) := by simp [startL]
theorem drop_part {t r : List Int} {i c : Nat} {zs : List (List Int)} (hd : t.drop i = (c : Int) :: zs.flatten ++ r) {k : Nat} (hk : k < zs.length) :
    t.drop (i + 1 + (zs.take k).flatten.length) = zs[k] ++ ((zs.drop (k + 1)).flatten ++ r) := by
  have h1 : t.drop (i + 1) = zs.flatten ++ r := by rw [← List.drop_drop, hd]; rfl
  have h2 : zs.flatten = (zs.take k).flatten ++ (zs[k] ++ (zs.drop (k + 1)).flatten) := by
    conv => lhs; rw [← List.take_append_drop k zs, List.flatten_append, List.drop_eq_getElem_cons hk, List.flatten_cons]
  rw [← List.drop_drop, h1, h2, List.append_assoc, List.drop_left, List.append_assoc]
theorem start_next (zs : List (List Int)) {k : Nat} (h : k < zs.length) : (zs.take (k + 1)).flatten.length = (zs.take k).flatten.length + zs[k].length := by
  rw [List.take_succ_eq_append_getElem h, List.flatten_append, List.length_append]
  simp
set_option maxHeartbeats 1000000 in
set_option maxRecDepth 100000 in
theorem ref1_Arguments (vs vt : Value) (s : Sg) (m : Int) (t r : List Int) (c : Nat) (zs : List (List Int)) (i : Nat) (w : World) (hs : SignAt w vs s) (ht : Ints w vt t) (hc : c < s.length) (hz : (zs.length : Int) = arOf s c) (hzt : ∀ a ∈ zs, IsT s m a)
    (hd : t.drop i = (c : Int) :: zs.flatten ++ r) (hsg : ∀ x ∈ t, x < s.length) (hl : t.length ≤ 1000) :
    Calls Tryz.prog 165 #[vs, vt, .int .i64 i] w fun e w' => ∃ u, e = .returned u ∧ w'.ownsRow w.heap.size 3 1 u (startL i zs zs.length).length ((startL i zs zs.length).map (Value.int .i64)) ∧ Below w.heap.size w w' := by
  have hdl := congrArg List.length hd
  rw [List.length_drop, List.length_append, List.length_cons] at hdl
  have hi : i < t.length := by omega
  have hti : t[i] = c := by
    have := List.drop_eq_getElem_cons hi
    rw [hd] at this
    exact (List.cons.inj this).1.symm
  have hzl := terms_len hzt
  have hpart := fun (k : Nat) (hk : k < zs.length) => drop_part hd hk
  have hnext := fun (k : Nat) (hk : k < zs.length) => start_next zs hk
  have hbnd : ∀ k, k < zs.length → i + 1 + (zs.take k).flatten.length < t.length := by
    intro k hk
    have h1 := congrArg List.length (hpart k hk)
    rw [List.length_drop, List.length_append] at h1
    have := (hzt zs[k] (List.getElem_mem hk)).ne
    omega
  obtain ⟨ta, tcap, rfl, ht1, ht2, -, TC⟩ := ht.open
  obtain ⟨sa, scap, rfl, -⟩ := hs.open
  obtain ⟨tb, to, rfl, hcell0⟩ := TC i hi
  rw [hti] at hcell0
  have HS := hid hs
  have HT := hid ht
  have HZT := hid hzt
  have HSG := hid hsg
  have HPART := hid hpart
  have HNEXT := hid hnext
  have HBND := hid hbnd
  have HAR := hid hz
  have hcl : (c : Int) < s.length := by omega
  have hz100 : zs.length ≤ 1000 := by omega
  clear TC hs ht hzt hsg hd hpart hnext hbnd hti hdl hzl hz
  go_enter Tryz.func165, Tryz.ntmps165
  go_wp2
  go_loopw [7, 8, 9] (fun u kv jv wr => ∃ j : Nat, j ≤ zs.length ∧ jv = .int .i64 j ∧ kv = .int .i64 ((i + 1 + (zs.take j).flatten.length : Nat) : Int) ∧ wr.ownsRow w.heap.size 3 1 u j ((startL i zs j).map (Value.int .i64)) ∧ Below w.heap.size w wr) (fun _ _ jv _ => zs.length - (intOf jv).toNat)
  case atStart => exact ⟨0, by omega, rfl, by simp, World.ownsRow_nil _ _ _ _, Below.refl _ _⟩
  case round =>
    obtain ⟨j, hj, rfl, rfl, hown, hb⟩ := hrel
    have hbs := hb.size
    have hcell := (hb.cell (World.block_lt_of_cell? _ _ hcell0)).trans hcell0
    have HA := hid (ref1_Arity (.slice sa s.length scap) s c wr (HS.out.below hb) hcl)
    rw [← HAR.out] at HA
    by_cases hlt : j < zs.length
    · obtain ⟨S, hS⟩ : ∃ S, i + 1 + (zs.take j).flatten.length = S := ⟨_, rfl⟩
      have hSb := HBND.out j hlt
      have hz0 := congrArg List.length (HPART.out j hlt)
      rw [List.length_drop, List.length_append] at hz0
      rw [hS] at hSb hz0
      have hSb2 : S + zs[j].length ≤ 1000 := by omega
      have HDR : Hid (t.drop S = zs[j] ++ ((zs.drop (j + 1)).flatten ++ r)) := hid (by rw [← hS]; exact HPART.out j hlt)
      rw [hS]
      have HSE := hid hS
      have HOWN := hid hown
      have HHS := hid (HS.out.below hb)
      have HHT := hid (HT.out.below hb)
      have HZJ := hid (HZT.out _ (List.getElem_mem hlt))
      clear hz0 hown hS
      go_wp2_with (first
        | (go_at_call 163; refine HA.out.mono ?_; rintro e w1 ⟨rfl, rfl⟩)
        | (at_builtin; refine wpList_append_row rfl _ _ 33 rfl w.heap.size 3 el_int Tryz.underlying33 rfl (by decide) _ _ _ rfl (HOWN.out.alloc _) _ 1 [.int .i64 S] rfl (row_one_new _ _ _) (oneCell_one rfl) (by omega) (by omega) (by simp; omega) ?_; intro v' w4 hown4 hgrow4 _))
      have hb4 : Below w.heap.size w w4 := (hb.alloc hbs _).grown hgrow4 (by simp; omega) (fun q hq => (HOWN.out.lt q hq).1)
      clear hgrow4
      refine (ref1_End _ _ s m t zs[j] _ S w4 (HS.out.below hb4) (HT.out.below hb4) HZJ.out HDR.out HSG.out hl hSb).mono ?_
      rintro e w5 ⟨rfl, rfl⟩
      have HNX := hid (HNEXT.out j hlt)
      go_wp2
      go_roundw
      case rel => exact ⟨j + 1, by omega, by go_num, by rw [HNX.out, ← Nat.add_assoc, HSE.out]; rfl, by rw [startL_succ, List.map_append, HSE.out]; exact hown4, hb4⟩
      case measure => simp [intOf]; omega
    · have hjz : j = zs.length := by omega
      subst hjz
      have HOWN := hid hown
      have HL := startL_len i zs zs.length
      clear hown
      go_wp2_with (first | (go_at_call 163; refine HA.out.mono ?_; rintro e w1 ⟨rfl, rfl⟩))
      go_ret
      exact ⟨_, rfl, by rw [HL]; exact HOWN.out, hb⟩
end Go.Proofs.YtmpjaakkjhmpmaaGreatDoor
namespace Go.Proofs.YtmpjaakkjhmpmaaGreatDoor
theorem nx_iter {s : Sg} {t r : List Int} {i c : Nat} {zs : List (List Int)} {f : Nat} (hd : t.drop i = (c : Int) :: zs.flatten ++ r) (h : ∀ a ∈ zs, ∀ (i : Nat) (r : List Int), t.drop i = a ++ r → t.length - i < f → nx s t f i = ((i + a.length : Nat) : Int)) (hf : t.length - (i + 1) < f) :
    ∀ k, k ≤ zs.length → itI (nx s t f) k ((i : Int) + 1) = ((i + 1 + (zs.take k).flatten.length : Nat) : Int) := by
  intro k
  induction k with
  | zero => intro _; simp [itI]
  | succ k ih =>
    intro hk
    have hk' : k < zs.length := by omega
    simp only [itI]
    rw [ih (by omega), h zs[k] (List.getElem_mem hk') _ _ (drop_part hd hk') (by omega), start_next zs hk']
    congr 1
    omega
theorem nx_part {s : Sg} {t p : List Int} (h : IsT s 12 p) : ∀ (i : Nat) (r : List Int) (f : Nat), t.drop i = p ++ r → t.length - i < f → nx s t f i = ((i + p.length : Nat) : Int) := by
  induction h with
  | var x h1 h2 =>
    intro i r f hd hf
    have hi : i < t.length := by
      have := congrArg List.length hd
      rw [List.length_drop] at this
      simp at this; omega
    have hx : t[i] = x := by
      have h3 := List.drop_eq_getElem_cons hi
      rw [hd] at h3
      simpa using (List.cons.inj h3).1.symm
    obtain ⟨f', rfl⟩ : ∃ f', f = f' + 1 := ⟨f - 1, by omega⟩
    rw [nx_in hi, hx]
    have : arP s x = 0 := by unfold arP; rw [inB_true.2 (by omega)]; rfl
    rw [this]
    simp [itI]
  | app c zs h1 h2 h3 ih =>
    intro i r f hd hf
    have hi : i < t.length := by
      have := congrArg List.length hd
      rw [List.length_drop] at this
      simp at this; omega
    have hx : t[i] = (c : Int) := by
      have h4 := List.drop_eq_getElem_cons hi
      rw [hd] at h4
      exact (List.cons.inj h4).1.symm
    obtain ⟨f', rfl⟩ : ∃ f', f = f' + 1 := ⟨f - 1, by omega⟩
    have har : arP s (c : Int) = (zs.length : Int) := by
      unfold arP
      rw [inB_false.2 (by omega), inB_true.2 (by omega), ← h2]
      simp
    rw [nx_in hi, hx, har, if_neg (by omega), Int.toNat_natCast, nx_iter hd (fun a ha i r h5 h6 => ih a ha i r f' h5 h6) (by omega) zs.length (Nat.le_refl _), List.take_of_length_le (Nat.le_refl _), List.length_cons]
    congr 1
    omega
end Go.Proofs.YtmpjaakkjhmpmaaGreatDoor
