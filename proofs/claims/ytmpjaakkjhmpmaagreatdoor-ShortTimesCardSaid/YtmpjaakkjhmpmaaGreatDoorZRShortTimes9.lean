/-
  WHAT IT HOLDS: contracts of the small functions of package unify: code, key, after. Conditions: the arguments read as data; at 'after' a whole term stands at the index.
  WHAT IT HOLDS: contracts of End, Part and Arguments of the reference of layer 1. Conditions: the arguments read as data; a whole term stands at the index.
  WHAT IT HOLDS: where package term finds the end of a part. No program. Condition: the part is a term.
-/
import Derived.Laws.IdiomStrings
import Derived.Test.YtmpjaakkjhmpmaaGreatDoorZRShortTimes2
import Derived.Test.YtmpjaakkjhmpmaaGreatDoorZRShortTimes1
import Derived.Test.YtmpjaakkjhmpmaaGreatDoorZRShortTimes8
namespace Go.Proofs.YtmpjaakkjhmpmaaGreatDoor
open Go Go.RowKit Go.Maps
theorem unify_code (n : Int) (w : World) (h1 : -1000000 ≤ n) (h2 : n ≤ 1000000) :
    Calls Tryz.prog 216 #[.int .i64 n] w fun e w' => e = .returned (.int .i64 (-n - 1)) ∧ w = w' := by
  go_enter Tryz.func216, Tryz.ntmps216
  go_wp2
  go_ret
  exact ⟨rfl, rfl⟩
theorem terms_cut {s : Sg} {m : Int} {c0 : List Int} {cs : List (List Int)} {x : Int} {l r : List Int} (h0 : IsT s m c0) (hc : ∀ a ∈ cs, IsT s m a) (he : x :: l = c0 ++ (cs.flatten ++ r)) :
    ∃ ds : List (List Int), (∀ a ∈ ds, IsT s m a) ∧ l = ds.flatten ++ r ∧ (ds.length : Int) = arOf s x + cs.length := by
  cases h0 with
  | var n h1 h2 =>
    simp at he
    refine ⟨cs, hc, he.2, ?_⟩
    rw [he.1]; simp [arOf, h2]
  | app c zs h1 h2 h3 =>
    simp at he
    refine ⟨zs ++ cs, ?_, ?_, ?_⟩
    · intro a ha
      rcases List.mem_append.1 ha with ha | ha
      · exact h3 a ha
      · exact hc a ha
    · rw [he.2]; simp
    · rw [he.1]; simp; omega
theorem terms_len {s : Sg} {m : Int} {cs : List (List Int)} (hc : ∀ a ∈ cs, IsT s m a) : cs.length ≤ cs.flatten.length := by
  induction cs with
  | nil => simp
  | cons a cs ih =>
    have := (hc a (by simp)).ne
    have := ih (fun x hx => hc x (by simp [hx]))
    simp only [List.flatten_cons, List.length_append, List.length_cons]; omega

set_option maxHeartbeats 400000 in
theorem unify_after (vs vt : Value) (s : Sg) (m : Int) (t p r : List Int) (i : Nat) (w : World) (hs : SignAt w vs s) (ht : Ints w vt t) (hp : IsT s m p) (hd : t.drop i = p ++ r) (hsg : ∀ x ∈ t, x < s.length) (hl : t.length ≤ 1000) (hi : i < t.length) :
    Calls Tryz.prog 178 #[vs, vt, .int .i64 i] w fun e w' => e = .returned (.int .i64 ((i + p.length : Nat) : Int)) ∧ w = w' := by
  obtain ⟨ta, tcap, rfl, ht1, ht2, _, TC⟩ := ht.open
  have TC' := hid TC
  obtain ⟨sa, scap, rfl, hs1, hs2, _, SC⟩ := hs.open
  have SC' := hid SC
  have HD := hid hd
  have HSG := hid hsg
  clear TC SC hs ht hd hsg
  go_enter Tryz.func178, Tryz.ntmps178
  go_wp2
  go_loop [2, 7] (fun at_ op => ∃ (j : Nat) (cs : List (List Int)), at_ = .int .i64 j ∧ op = .int .i64 cs.length ∧ (∀ a ∈ cs, IsT s m a) ∧ t.drop j = cs.flatten ++ r ∧ i ≤ j ∧ j ≤ t.length) (fun at_ _ => t.length - (intOf at_).toNat)
  case atStart => exact ⟨i, [p], rfl, rfl, by simpa using hp, by simpa using HD.out, Nat.le_refl _, by omega⟩
  case round =>
    obtain ⟨j, cs, rfl, rfl, hcs, hdr, hij, hjt⟩ := hrel
    have HCS := hid hcs
    have HDR := hid hdr
    clear hcs hdr
    cases cs with
    | nil =>
      have hfin : j = i + p.length := by
        have h1 := congrArg List.length HDR.out
        have h2 := congrArg List.length HD.out
        simp only [List.length_drop, List.length_append, List.flatten_nil, List.length_nil] at h1 h2
        omega
      have HF := hid hfin
      clear hfin
      go_wp2
      go_ret
      exact ⟨ret_int (by have := HF.out; omega), rfl⟩
    | cons c0 cs =>
      have hc0 := HCS.out c0 (by simp)
      have hjl : j < t.length := by
        have h1 := congrArg List.length HDR.out
        have := hc0.ne
        simp only [List.length_drop, List.length_append, List.flatten_cons] at h1
        omega
      obtain ⟨b, o, rfl, hcell⟩ := TC'.out j hjl
      have hcut : t[j] :: t.drop (j + 1) = c0 ++ (cs.flatten ++ r) := by
        rw [← List.drop_eq_getElem_cons hjl, HDR.out]; simp
      obtain ⟨ds, hds, hdl, hdn⟩ := terms_cut hc0 (fun a ha => HCS.out a (by simp [ha])) hcut
      have hdlen := terms_len hds
      have hdl2 := congrArg List.length hdl
      rw [List.length_drop, List.length_append] at hdl2
      have hx := HSG.out t[j] (List.getElem_mem hjl)
      have HDS := hid hds
      have HDL := hid hdl
      clear hds hdl hcut hc0
      have hcs3 : cs.length ≤ 1000 := by
        have h1 := congrArg List.length HDR.out
        have h2 := terms_len (fun a ha => HCS.out a (List.mem_cons_of_mem c0 ha))
        simp only [List.length_drop, List.length_append, List.flatten_cons] at h1; omega
      have hlc : ((c0 :: cs).length : Int) = (cs.length : Int) + 1 := by simp
      rw [hlc]
      clear hlc
      by_cases hneg : t[j] < 0
      · have har : arOf s t[j] = 0 := by simp [arOf, hneg]
        rw [har] at hdn
        have HDN := hid hdn
        clear hdn har
        go_wp2
        go_round
        case rel => exact ⟨j + 1, ds, by go_num, by rw [HDN.out]; go_num, HDS.out, HDL.out, by omega, by omega⟩
        case measure => simp [intOf]; omega
      · obtain ⟨c, hc⟩ := Int.eq_ofNat_of_zero_le (show 0 ≤ t[j] by omega)
        have hcl : c < s.length := by omega
        obtain ⟨sb, so, rfl, _, c2, _⟩ := SC'.out c hcl
        have har : arOf s t[j] = s[c].2 := by rw [hc, arOf, if_neg (by omega)]; simp [hcl]
        rw [har] at hdn
        rw [hc] at hcell
        have hdn1 : 0 ≤ s[c].2 + cs.length := by omega
        have hdn2 : s[c].2 + cs.length ≤ 1000 := by omega
        have HDN := hid hdn
        clear hdn har hc hdlen hdl2
        go_wp2
        go_round
        case rel => exact ⟨j + 1, ds, by go_num, by rw [HDN.out]; go_num, HDS.out, HDL.out, by omega, by omega⟩
        case measure => simp [intOf]; omega
end Go.Proofs.YtmpjaakkjhmpmaaGreatDoor
namespace Go.Proofs.YtmpjaakkjhmpmaaGreatDoor
open Go Go.RowKit Go.Maps
theorem owns_some {w : World} {base : Nat} {e : TypeId} {k : Nat} {v : Value} {n : Nat} {xs : List Value} (h : w.ownsRow base e k v n xs) (h0 : 0 < n) : ∃ g cap, v = .slice (some ⟨g, 0, none⟩) n cap ∧ base ≤ g ∧ n ≤ cap := by
  obtain ⟨h1, h2⟩ := h
  rcases h2 with ⟨_, rfl⟩ | ⟨g, cap, cur, rfl, hb, hg, hnc, _⟩
  · simp at h1; omega
  · exact ⟨g, cap, rfl, hb, hnc⟩
theorem drop_part {t r : List Int} {i c : Nat} {zs : List (List Int)} (hd : t.drop i = (c : Int) :: zs.flatten ++ r) {k : Nat} (hk : k < zs.length) :
    t.drop (i + 1 + (zs.take k).flatten.length) = zs[k] ++ ((zs.drop (k + 1)).flatten ++ r) := by
  have h1 : t.drop (i + 1) = zs.flatten ++ r := by rw [← List.drop_drop, hd]; rfl
  have h2 : zs.flatten = (zs.take k).flatten ++ (zs[k] ++ (zs.drop (k + 1)).flatten) := by
    conv => lhs; rw [← List.take_append_drop k zs, List.flatten_append, List.drop_eq_getElem_cons hk, List.flatten_cons]
  rw [← List.drop_drop, h1, h2, List.append_assoc, List.drop_left, List.append_assoc]
theorem start_next (zs : List (List Int)) {k : Nat} (h : k < zs.length) : (zs.take (k + 1)).flatten.length = (zs.take k).flatten.length + zs[k].length := by
  rw [List.take_succ_eq_append_getElem h, List.flatten_append, List.length_append]
  simp
end Go.Proofs.YtmpjaakkjhmpmaaGreatDoor
namespace Go.Proofs.YtmpjaakkjhmpmaaGreatDoor
theorem nx_iter {s : Sg} {t r : List Int} {i c : Nat} {zs : List (List Int)} {f : Nat} (hd : t.drop i = (c : Int) :: zs.flatten ++ r) (h : ∀ a ∈ zs, ∀ (i : Nat) (r : List Int), t.drop i = a ++ r → t.length - i < f → nx s t f i = ((i + a.length : Nat) : Int)) (hf : t.length - (i + 1) < f) :
    ∀ k, k ≤ zs.length → itI (nx s t f) k ((i : Int) + 1) = ((i + 1 + (zs.take k).flatten.length : Nat) : Int) := by
  intro k
  induction k with
  | zero => intro _; simp [itI]
  | succ k ih =>
    intro hk
    have hk' : k < zs.length := by omega
    simp only [itI]
    rw [ih (by omega), h zs[k] (List.getElem_mem hk') _ _ (drop_part hd hk') (by omega), start_next zs hk']
    congr 1
    omega
theorem nx_part {s : Sg} {t p : List Int} (h : IsT s 12 p) : ∀ (i : Nat) (r : List Int) (f : Nat), t.drop i = p ++ r → t.length - i < f → nx s t f i = ((i + p.length : Nat) : Int) := by
  induction h with
  | var x h1 h2 =>
    intro i r f hd hf
    have hi : i < t.length := by
      have := congrArg List.length hd
      rw [List.length_drop] at this
      simp at this; omega
    have hx : t[i] = x := by
      have h3 := List.drop_eq_getElem_cons hi
      rw [hd] at h3
      simpa using (List.cons.inj h3).1.symm
    obtain ⟨f', rfl⟩ : ∃ f', f = f' + 1 := ⟨f - 1, by omega⟩
    rw [nx_in hi, hx]
    have : arP s x = 0 := by unfold arP; rw [inB_true.2 (by omega)]; rfl
    rw [this]
    simp [itI]
  | app c zs h1 h2 h3 ih =>
    intro i r f hd hf
    have hi : i < t.length := by
      have := congrArg List.length hd
      rw [List.length_drop] at this
      simp at this; omega
    have hx : t[i] = (c : Int) := by
      have h4 := List.drop_eq_getElem_cons hi
      rw [hd] at h4
      exact (List.cons.inj h4).1.symm
    obtain ⟨f', rfl⟩ : ∃ f', f = f' + 1 := ⟨f - 1, by omega⟩
    have har : arP s (c : Int) = (zs.length : Int) := by
      unfold arP
      rw [inB_false.2 (by omega), inB_true.2 (by omega), ← h2]
      simp
    rw [nx_in hi, hx, har, if_neg (by omega), Int.toNat_natCast, nx_iter hd (fun a ha i r h5 h6 => ih a ha i r f' h5 h6) (by omega) zs.length (Nat.le_refl _), List.take_of_length_le (Nat.le_refl _), List.length_cons]
    congr 1
    omega
end Go.Proofs.YtmpjaakkjhmpmaaGreatDoor
