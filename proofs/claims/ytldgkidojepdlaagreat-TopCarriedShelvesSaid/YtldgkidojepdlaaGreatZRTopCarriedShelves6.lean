/-
  WHAT IT HOLDS: contracts of the small functions of package unify: code, key, after. Conditions: the arguments read as data; at 'after' a whole term stands at the index.
  WHAT IT HOLDS: contracts of the functions of package lemmaryref01 that the laws reach: each returns what the plain function says and changes no memory. Conditions: the arguments read as data.
  WHAT IT HOLDS: contracts of End, Part and Arguments of the reference of layer 1. Conditions: the arguments read as data; a whole term stands at the index.
  WHAT IT HOLDS: where package term finds the end of a part. No program. Condition: the part is a term.
  WHAT IT HOLDS: contracts of the small loops of package lemmaryref01 (Has, SameInts, Same, AllValid): each returns what the plain function says and changes no memory. Conditions: the arguments read as data.
  WHAT IT HOLDS: contracts of functions of package lemmaryref05 that the law of With reaches. Conditions: the arguments read as data.
  WHAT IT HOLDS: contracts of cmp.Compare, cmp.Or, slices.Compare at int, and of Compare of package term. Conditions: the arguments read as data.
-/
import Derived.Laws.IdiomStrings
import Derived.Test.YtldgkidojepdlaaGreatProg
import Derived.Test.YtldgkidojepdlaaGreatZRTopCarriedShelves5
import Derived.Test.YtldgkidojepdlaaGreatZRTopCarriedShelves0
import Derived.Test.YtldgkidojepdlaaGreatZRTopCarriedShelves4
import Derived.Test.YtldgkidojepdlaaGreatZRTopCarriedShelves1
namespace Go.Proofs.YtldgkidojepdlaaGreat
open Go Go.RowKit Go.Maps
theorem unify_code (n : Int) (w : World) (h1 : -1000000 ≤ n) (h2 : n ≤ 1000000) :
    Calls Tryz.prog 72 #[.int .i64 n] w fun e w' => e = .returned (.int .i64 (-n - 1)) ∧ w = w' := by
  go_enter Tryz.func72, Tryz.ntmps72
  go_wp2
  go_ret
  exact ⟨rfl, rfl⟩
theorem terms_cut {s : Sg} {m : Int} {c0 : List Int} {cs : List (List Int)} {x : Int} {l r : List Int} (h0 : IsT s m c0) (hc : ∀ a ∈ cs, IsT s m a) (he : x :: l = c0 ++ (cs.flatten ++ r)) :
    ∃ ds : List (List Int), (∀ a ∈ ds, IsT s m a) ∧ l = ds.flatten ++ r ∧ (ds.length : Int) = arOf s x + cs.length := by
  cases h0 with
  | var n h1 h2 =>
    simp at he
    refine ⟨cs, hc, he.2, ?_⟩
    rw [he.1]; simp [arOf, h2]
  | app c zs h1 h2 h3 =>
    simp at he
    refine ⟨zs ++ cs, ?_, ?_, ?_⟩
    · intro a ha
      rcases List.mem_append.1 ha with ha | ha
      · exact h3 a ha
      · exact hc a ha
    · rw [he.2]; simp
    · rw [he.1]; simp; omega
theorem terms_len {s : Sg} {m : Int} {cs : List (List Int)} (hc : ∀ a ∈ cs, IsT s m a) : cs.length ≤ cs.flatten.length := by
  induction cs with
  | nil => simp
  | cons a cs ih =>
    have := (hc a (by simp)).ne
    have := ih (fun x hx => hc x (by simp [hx]))
    simp only [List.flatten_cons, List.length_append, List.length_cons]; omega

set_option maxHeartbeats 400000 in
theorem unify_after (vs vt : Value) (s : Sg) (m : Int) (t p r : List Int) (i : Nat) (w : World) (hs : SignAt w vs s) (ht : Ints w vt t) (hp : IsT s m p) (hd : t.drop i = p ++ r) (hsg : ∀ x ∈ t, x < s.length) (hl : t.length ≤ 1000) (hi : i < t.length) :
    Calls Tryz.prog 73 #[vs, vt, .int .i64 i] w fun e w' => e = .returned (.int .i64 ((i + p.length : Nat) : Int)) ∧ w = w' := by
  obtain ⟨ta, tcap, rfl, ht1, ht2, _, TC⟩ := ht.open
  have TC' := hid TC
  obtain ⟨sa, scap, rfl, hs1, hs2, _, SC⟩ := hs.open
  have SC' := hid SC
  have HD := hid hd
  have HSG := hid hsg
  clear TC SC hs ht hd hsg
  go_enter Tryz.func73, Tryz.ntmps73
  go_wp2
  go_loop [2, 7] (fun at_ op => ∃ (j : Nat) (cs : List (List Int)), at_ = .int .i64 j ∧ op = .int .i64 cs.length ∧ (∀ a ∈ cs, IsT s m a) ∧ t.drop j = cs.flatten ++ r ∧ i ≤ j ∧ j ≤ t.length) (fun at_ _ => t.length - (intOf at_).toNat)
  case atStart => exact ⟨i, [p], rfl, rfl, by simpa using hp, by simpa using HD.out, Nat.le_refl _, by omega⟩
  case round =>
    obtain ⟨j, cs, rfl, rfl, hcs, hdr, hij, hjt⟩ := hrel
    have HCS := hid hcs
    have HDR := hid hdr
    clear hcs hdr
    cases cs with
    | nil =>
      have hfin : j = i + p.length := by
        have h1 := congrArg List.length HDR.out
        have h2 := congrArg List.length HD.out
        simp only [List.length_drop, List.length_append, List.flatten_nil, List.length_nil] at h1 h2
        omega
      have HF := hid hfin
      clear hfin
      go_wp2
      go_ret
      exact ⟨ret_int (by have := HF.out; omega), rfl⟩
    | cons c0 cs =>
      have hc0 := HCS.out c0 (by simp)
      have hjl : j < t.length := by
        have h1 := congrArg List.length HDR.out
        have := hc0.ne
        simp only [List.length_drop, List.length_append, List.flatten_cons] at h1
        omega
      obtain ⟨b, o, rfl, hcell⟩ := TC'.out j hjl
      have hcut : t[j] :: t.drop (j + 1) = c0 ++ (cs.flatten ++ r) := by
        rw [← List.drop_eq_getElem_cons hjl, HDR.out]; simp
      obtain ⟨ds, hds, hdl, hdn⟩ := terms_cut hc0 (fun a ha => HCS.out a (by simp [ha])) hcut
      have hdlen := terms_len hds
      have hdl2 := congrArg List.length hdl
      rw [List.length_drop, List.length_append] at hdl2
      have hx := HSG.out t[j] (List.getElem_mem hjl)
      have HDS := hid hds
      have HDL := hid hdl
      clear hds hdl hcut hc0
      have hcs3 : cs.length ≤ 1000 := by
        have h1 := congrArg List.length HDR.out
        have h2 := terms_len (fun a ha => HCS.out a (List.mem_cons_of_mem c0 ha))
        simp only [List.length_drop, List.length_append, List.flatten_cons] at h1; omega
      have hlc : ((c0 :: cs).length : Int) = (cs.length : Int) + 1 := by simp
      rw [hlc]
      clear hlc
      by_cases hneg : t[j] < 0
      · have har : arOf s t[j] = 0 := by simp [arOf, hneg]
        rw [har] at hdn
        have HDN := hid hdn
        clear hdn har
        go_wp2
        go_round
        case rel => exact ⟨j + 1, ds, by go_num, by rw [HDN.out]; go_num, HDS.out, HDL.out, by omega, by omega⟩
        case measure => simp [intOf]; omega
      · obtain ⟨c, hc⟩ := Int.eq_ofNat_of_zero_le (show 0 ≤ t[j] by omega)
        have hcl : c < s.length := by omega
        obtain ⟨sb, so, rfl, _, c2, _⟩ := SC'.out c hcl
        have har : arOf s t[j] = s[c].2 := by rw [hc, arOf, if_neg (by omega)]; simp [hcl]
        rw [har] at hdn
        rw [hc] at hcell
        have hdn1 : 0 ≤ s[c].2 + cs.length := by omega
        have hdn2 : s[c].2 + cs.length ≤ 1000 := by omega
        have HDN := hid hdn
        clear hdn har hc hdlen hdl2
        go_wp2
        go_round
        case rel => exact ⟨j + 1, ds, by go_num, by rw [HDN.out]; go_num, HDS.out, HDL.out, by omega, by omega⟩
        case measure => simp [intOf]; omega
end Go.Proofs.YtldgkidojepdlaaGreat
namespace Go.Proofs.YtldgkidojepdlaaGreat
open Go Go.RowKit Go.Maps
theorem signB_of {s : Sg} (h1 : inB s.length 1 12 = true) (h : 0 < s.length) (h2 : (s[0].2 == 2) = true) : signB s = (List.range s.length).all (symB s) := by
  unfold signB
  simp [h1, List.getElem?_eq_getElem h, h2]
theorem symB_at {s : Sg} {k : Nat} (h : k < s.length) : symB s k = (nameB s[k].1 && inB s[k].2 0 3 && (s.take k).all (fun y => decide (y.1 ≠ s[k].1))) := by
  unfold symB
  rw [List.getElem?_eq_getElem h]
theorem all_range_false {s : Sg} {k : Nat} (h : k < s.length) (h2 : symB s k = false) : (List.range s.length).all (symB s) = false := by
  rw [List.all_eq_false]
  exact ⟨k, by simp [h], by simp [h2]⟩
theorem bytes_eq (a b : ByteArray) : (a.toList == b.toList) = decide (a = b) := by
  rw [ByteArray.toList_eq, ByteArray.toList_eq, Bool.eq_iff_iff]
  simp only [beq_iff_eq, decide_eq_true_eq]
  exact ⟨WideShapes.bytes_inj, fun h => by rw [h]⟩

theorem termB_false1 {s : Sg} {t : List Int} (h : signB s = false) : termB s t = false := by unfold termB; rw [h]; rfl
theorem termB_false2 {s : Sg} {t : List Int} (h : inB t.length 1 60 = false) : termB s t = false := by unfold termB; rw [h]; simp
theorem termB_of {s : Sg} {t : List Int} (h1 : signB s = true) (h2 : inB t.length 1 60 = true) : termB s t = needB s t 1 := by unfold termB; rw [h1, h2]; rfl
theorem signB_ar {s : Sg} (h : signB s = true) (n : Int) : 0 ≤ arOf s n ∧ arOf s n ≤ 3 := by
  unfold signB at h
  simp only [Bool.and_eq_true] at h
  have h3 := h.2
  rw [List.all_eq_true] at h3
  unfold arOf
  split
  · omega
  · split
    · rename_i x hx
      have hlt : n.toNat < s.length := (List.getElem?_eq_some_iff.1 hx).1
      have := h3 n.toNat (by simpa using hlt)
      unfold symB at this
      rw [hx] at this
      simp only [Bool.and_eq_true] at this
      exact inB_true.1 this.1.2
    · omega
theorem signB_len {s : Sg} (h : signB s = true) : 1 ≤ s.length ∧ s.length ≤ 12 := by
  unfold signB at h
  simp only [Bool.and_eq_true] at h
  have := inB_true.1 h.1.1
  omega

end Go.Proofs.YtldgkidojepdlaaGreat
namespace Go.Proofs.YtldgkidojepdlaaGreat
open Go Go.RowKit Go.Maps
theorem owns_some {w : World} {base : Nat} {e : TypeId} {k : Nat} {v : Value} {n : Nat} {xs : List Value} (h : w.ownsRow base e k v n xs) (h0 : 0 < n) : ∃ g cap, v = .slice (some ⟨g, 0, none⟩) n cap ∧ base ≤ g ∧ n ≤ cap := by
  obtain ⟨h1, h2⟩ := h
  rcases h2 with ⟨_, rfl⟩ | ⟨g, cap, cur, rfl, hb, hg, hnc, _⟩
  · simp at h1; omega
  · exact ⟨g, cap, rfl, hb, hnc⟩
/-- where the arguments of a part begin that stands at index i. -/
def startL (i : Nat) (zs : List (List Int)) (k : Nat) : List Int := (List.range k).map fun j => ((i + 1 + (zs.take j).flatten.length : Nat) : Int)
theorem startL_succ (i : Nat) (zs : List (List Int)) (k : Nat) : startL i zs (k + 1) = startL i zs k ++ [((i + 1 + (zs.take k).flatten.length : Nat) : Int)] := by
  unfold startL
  rw [List.range_succ, List.map_append]; rfl
theorem startL_len (i : Nat) (zs : List (List Int)) (k : Nat) : (startL i zs k).length = k := by simp [startL]
theorem startL_get (i : Nat) (zs : List (List Int)) {k n : Nat} (h : k < n) (h' : k < (startL i zs n).length) : (startL i zs n)[k] = ((i + 1 + (zs.take k).flatten.length : Nat) : Int) := by simp [startL]
theorem drop_part {t r : List Int} {i c : Nat} {zs : List (List Int)} (hd : t.drop i = (c : Int) :: zs.flatten ++ r) {k : Nat} (hk : k < zs.length) :
    t.drop (i + 1 + (zs.take k).flatten.length) = zs[k] ++ ((zs.drop (k + 1)).flatten ++ r) := by
  have h1 : t.drop (i + 1) = zs.flatten ++ r := by rw [← List.drop_drop, hd]; rfl
  have h2 : zs.flatten = (zs.take k).flatten ++ (zs[k] ++ (zs.drop (k + 1)).flatten) := by
    conv => lhs; rw [← List.take_append_drop k zs, List.flatten_append, List.drop_eq_getElem_cons hk, List.flatten_cons]
  rw [← List.drop_drop, h1, h2, List.append_assoc, List.drop_left, List.append_assoc]
theorem start_next (zs : List (List Int)) {k : Nat} (h : k < zs.length) : (zs.take (k + 1)).flatten.length = (zs.take k).flatten.length + zs[k].length := by
  rw [List.take_succ_eq_append_getElem h, List.flatten_append, List.length_append]
  simp
end Go.Proofs.YtldgkidojepdlaaGreat
namespace Go.Proofs.YtldgkidojepdlaaGreat
theorem nx_iter {s : Sg} {t r : List Int} {i c : Nat} {zs : List (List Int)} {f : Nat} (hd : t.drop i = (c : Int) :: zs.flatten ++ r) (h : ∀ a ∈ zs, ∀ (i : Nat) (r : List Int), t.drop i = a ++ r → t.length - i < f → nx s t f i = ((i + a.length : Nat) : Int)) (hf : t.length - (i + 1) < f) :
    ∀ k, k ≤ zs.length → itI (nx s t f) k ((i : Int) + 1) = ((i + 1 + (zs.take k).flatten.length : Nat) : Int) := by
  intro k
  induction k with
  | zero => intro _; simp [itI]
  | succ k ih =>
    intro hk
    have hk' : k < zs.length := by omega
    simp only [itI]
    rw [ih (by omega), h zs[k] (List.getElem_mem hk') _ _ (drop_part hd hk') (by omega), start_next zs hk']
    congr 1
    omega
theorem nx_part {s : Sg} {t p : List Int} (h : IsT s 12 p) : ∀ (i : Nat) (r : List Int) (f : Nat), t.drop i = p ++ r → t.length - i < f → nx s t f i = ((i + p.length : Nat) : Int) := by
  induction h with
  | var x h1 h2 =>
    intro i r f hd hf
    have hi : i < t.length := by
      have := congrArg List.length hd
      rw [List.length_drop] at this
      simp at this; omega
    have hx : t[i] = x := by
      have h3 := List.drop_eq_getElem_cons hi
      rw [hd] at h3
      simpa using (List.cons.inj h3).1.symm
    obtain ⟨f', rfl⟩ : ∃ f', f = f' + 1 := ⟨f - 1, by omega⟩
    rw [nx_in hi, hx]
    have : arP s x = 0 := by unfold arP; rw [inB_true.2 (by omega)]; rfl
    rw [this]
    simp [itI]
  | app c zs h1 h2 h3 ih =>
    intro i r f hd hf
    have hi : i < t.length := by
      have := congrArg List.length hd
      rw [List.length_drop] at this
      simp at this; omega
    have hx : t[i] = (c : Int) := by
      have h4 := List.drop_eq_getElem_cons hi
      rw [hd] at h4
      exact (List.cons.inj h4).1.symm
    obtain ⟨f', rfl⟩ : ∃ f', f = f' + 1 := ⟨f - 1, by omega⟩
    have har : arP s (c : Int) = (zs.length : Int) := by
      unfold arP
      rw [inB_false.2 (by omega), inB_true.2 (by omega), ← h2]
      simp
    rw [nx_in hi, hx, har, if_neg (by omega), Int.toNat_natCast, nx_iter hd (fun a ha i r h5 h6 => ih a ha i r f' h5 h6) (by omega) zs.length (Nat.le_refl _), List.take_of_length_le (Nat.le_refl _), List.length_cons]
    congr 1
    omega
end Go.Proofs.YtldgkidojepdlaaGreat
namespace Go.Proofs.YtldgkidojepdlaaGreat
open Go Go.RowKit Go.Maps
set_option maxHeartbeats 400000 in
theorem ref1_SameInts (v u : Value) (l m : List Int) (w : World) (hv : Ints w v l) (hu : Ints w u m) :
    Calls Tryz.prog 10 #[v, u] w fun e w' => e = .returned (.bool (decide (l = m))) ∧ ∃ n, w' = w.drewN n := by
  obtain ⟨a, cap, rfl, h1, hl, h3, HC⟩ := hv.open
  obtain ⟨a', cap', rfl, h1', hl', h3', HD⟩ := hu.open
  have HC' := hid HC
  have HD' := hid HD
  clear HC hv h3 HD hu h3'
  by_cases hlen : l.length = m.length
  · have hne : (((l.length : Nat) : Int) != (m.length : Int)) = false := by simp [hlen]
    have HL := hid hlen
    clear hlen
    go_enter Tryz.func10, Tryz.ntmps10
    go_wp2
    go_loopw [5] (fun i wr => ∃ k q : Nat, k ≤ l.length ∧ i = .int .i64 k ∧ wr = w.drewN q ∧ l.take k = m.take k) (fun i _ => l.length - (intOf i).toNat)
    case atStart => exact ⟨0, 0, by omega, rfl, rfl, by simp⟩
    case round =>
      obtain ⟨k, q, hk, rfl, rfl, hrel⟩ := hrel
      have HR := hid hrel
      clear hrel
      by_cases hlt : k < l.length
      · obtain ⟨b, o, rfl, hcell⟩ := HC'.out k hlt
        have hlt' : k < m.length := by have := HL.out; omega
        obtain ⟨b', o', rfl, hcell'⟩ := HD'.out k hlt'
        cases h2 : (l[k] != m[k])
        · go_wp2
          go_quiet (fail)
          go_wp2
          go_roundw
          case rel =>
            refine ⟨k + 1, _, by omega, by go_num, (by first | rfl | exact World.drewN_drewN _ _ _), ?_⟩
            rw [List.take_succ_eq_append_getElem hlt, List.take_succ_eq_append_getElem hlt', HR.out]
            have : l[k] = m[k] := by simpa [bne] using h2
            rw [this]
          case measure => simp [intOf]; omega
        · have HM : Hid (l ≠ m) := hid (by intro e; subst e; simp at h2)
          go_wp2
          go_quiet (fail)
          go_wp2
          go_ret
          exact ⟨ret_bool (decide_eq_false HM.out).symm, _, (by first | rfl | exact World.drewN_drewN _ _ _)⟩
      · have HM : Hid (l = m) := hid (by have := HR.out; have h9 := HL.out; rw [List.take_of_length_le (by omega), List.take_of_length_le (by omega)] at this; exact this)
        go_wp2
        go_ret
        exact ⟨ret_bool (decide_eq_true HM.out).symm, q, rfl⟩
  · have hne : (((l.length : Nat) : Int) != (m.length : Int)) = true := by simp [bne]; omega
    have HM : Hid (l ≠ m) := hid (by intro e; subst e; exact hlen rfl)
    clear hlen
    go_enter Tryz.func10, Tryz.ntmps10
    go_wp2
    go_ret
    exact ⟨ret_bool (decide_eq_false HM.out).symm, 0, rfl⟩

end Go.Proofs.YtldgkidojepdlaaGreat
namespace Go.Proofs.YtldgkidojepdlaaGreat
open Go Go.RowKit Go.Maps
theorem chosenL_snoc (b : Bool) : ∀ (l : List Bool) (i : Nat), chosenL i (l ++ [b]) = chosenL i l ++ if b then [((i + l.length : Nat) : Int)] else [] := by
  intro l
  induction l with
  | nil => intro i; cases b <;> simp [chosenL]
  | cons x r ih =>
    intro i
    simp only [List.cons_append, chosenL, ih (i + 1), List.length_cons]
    cases x <;> simp <;> cases b <;> simp <;> omega
theorem chosenL_len : ∀ (l : List Bool) (i : Nat), (chosenL i l).length ≤ l.length := by
  intro l
  induction l with
  | nil => intro i; simp [chosenL]
  | cons x r ih => intro i; have := ih (i + 1); cases x <;> simp [chosenL] <;> omega

end Go.Proofs.YtldgkidojepdlaaGreat
namespace Go.Proofs.YtldgkidojepdlaaGreat
open Go Go.RowKit Go.Maps
def cpI (x y : Int) : Int := if x < y then -1 else if y < x then 1 else 0
theorem cmp_isNaN (x : Int) (w : World) : Calls Tryz.prog 52 #[.int .i64 x] w fun e w' => e = .returned (.bool false) ∧ w = w' := by
  go_enter Tryz.func52, Tryz.ntmps52
  go_wp2
  go_ret
  exact ⟨by simp, rfl⟩
theorem cmp_Compare (x y : Int) (w : World) : Calls Tryz.prog 32 #[.int .i64 x, .int .i64 y] w fun e w' => e = .returned (.int .i64 (cpI x y)) ∧ w = w' := by
  have HX := hid (cmp_isNaN x w)
  have HY := hid (cmp_isNaN y w)
  by_cases h1 : x < y
  · have HC : Hid (cpI x y = -1) := hid (by unfold cpI; rw [if_pos h1])
    go_enter Tryz.func32, Tryz.ntmps32
    go_wp2_with fail
    refine HX.out.mono ?_
    rintro e w1 ⟨rfl, rfl⟩
    go_wp2_with fail
    refine HY.out.mono ?_
    rintro e w1 ⟨rfl, rfl⟩
    go_wp2
    go_ret
    exact ⟨by rw [HC.out]; rfl, rfl⟩
  · by_cases h2 : y < x
    · have HC : Hid (cpI x y = 1) := hid (by unfold cpI; rw [if_neg h1, if_pos h2])
      go_enter Tryz.func32, Tryz.ntmps32
      go_wp2_with fail
      refine HX.out.mono ?_
      rintro e w1 ⟨rfl, rfl⟩
      go_wp2_with fail
      refine HY.out.mono ?_
      rintro e w1 ⟨rfl, rfl⟩
      go_wp2
      go_ret
      exact ⟨by rw [HC.out]; rfl, rfl⟩
    · have HC : Hid (cpI x y = 0) := hid (by unfold cpI; rw [if_neg h1, if_neg h2])
      go_enter Tryz.func32, Tryz.ntmps32
      go_wp2_with fail
      refine HX.out.mono ?_
      rintro e w1 ⟨rfl, rfl⟩
      go_wp2_with fail
      refine HY.out.mono ?_
      rintro e w1 ⟨rfl, rfl⟩
      go_wp2
      go_ret
      exact ⟨by rw [HC.out]; rfl, rfl⟩
def orI (a b : Int) : Int := if a ≠ 0 then a else b
theorem cmp_Or (a b : Int) (bk of c : Nat) (w : World) (h0 : w.cell? ⟨bk, of, none⟩ = some (.int .i64 a)) (h1 : w.cell? ⟨bk, of + 1, none⟩ = some (.int .i64 b)) :
    Calls Tryz.prog 31 #[.slice (some ⟨bk, of, none⟩) 2 c] w fun e w' => e = .returned (.int .i64 (orI a b)) ∧ w = w' := by
  have HC : Hid (∀ k : Nat, k < 2 → w.cell? ⟨bk, of + k, none⟩ = some (.int .i64 (if k = 0 then a else b))) := hid (fun k hk => by
    match k, hk with
    | 0, _ => simpa using h0
    | 1, _ => simpa using h1)
  clear h0 h1
  go_enter Tryz.func31, Tryz.ntmps31
  go_wp2
  go_loop [8] (fun i => ∃ k : Nat, k ≤ 2 ∧ i = .int .i64 k ∧ ∀ j, j < k → (if j = 0 then a else b) = 0) (fun i => 2 - (intOf i).toNat)
  case atStart => exact ⟨0, by omega, rfl, by simp⟩
  case round =>
    obtain ⟨k, hk, rfl, hrel⟩ := hrel
    have HR := hid hrel
    clear hrel
    by_cases hlt : k < 2
    · have hc := HC.out k hlt
      obtain ⟨z, hz⟩ : ∃ z, (if k = 0 then a else b) = z := ⟨_, rfl⟩
      rw [hz] at hc
      have HZ := hid hz
      have y1 : (k : Int) < 2 := by omega
      clear hz
      cases h2 : (z != 0)
      · have HZ0 : Hid (z = 0) := hid (by simpa using h2)
        go_wp2
        go_round
        case rel =>
          refine ⟨k + 1, by omega, by go_num, fun j hj => ?_⟩
          by_cases e : j = k
          · rw [e, HZ.out, HZ0.out]
          · exact HR.out j (by omega)
        case measure => simp [intOf]; omega
      · have HA : Hid (orI a b = z) := hid (by
          unfold orI
          have hz0 : z ≠ 0 := by simpa using h2
          have := HZ.out
          by_cases e : k = 0
          · rw [if_pos e] at this
            rw [this, if_pos hz0]
          · rw [if_neg e] at this
            have h3 := HR.out 0 (by omega)
            rw [if_pos rfl] at h3
            rw [h3, if_neg (by simp), this])
        go_wp2
        go_ret
        exact ⟨by rw [HA.out]; rfl, rfl⟩
    · have HA : Hid (orI a b = 0) := hid (by
        unfold orI
        have h3 := HR.out 0 (by omega)
        have h4 := HR.out 1 (by omega)
        rw [if_pos rfl] at h3
        rw [if_neg (by omega)] at h4
        rw [h3, if_neg (by simp), h4])
      go_wp2
      go_ret
      exact ⟨by rw [HA.out]; rfl, rfl⟩
theorem lexL_drop {a b : List Int} : ∀ {k : Nat}, a.take k = b.take k → k ≤ a.length → k ≤ b.length → lexL (a.drop k) (b.drop k) = lexL a b
  | 0, _, _, _ => rfl
  | k + 1, h, h1, h2 => by
    have hk1 : k < a.length := by omega
    have hk2 : k < b.length := by omega
    rw [List.take_succ_eq_append_getElem hk1, List.take_succ_eq_append_getElem hk2] at h
    have h3 := List.append_inj h (by simp; omega)
    have e : a[k] = b[k] := by simpa using h3.2
    rw [← lexL_drop h3.1 (by omega) (by omega), List.drop_eq_getElem_cons hk1, List.drop_eq_getElem_cons hk2, lexL, e, if_neg (by omega), if_neg (by omega)]
theorem lexL_at {a b : List Int} {k : Nat} (h : a.take k = b.take k) (h1 : k < a.length) (h2 : k < b.length) (hc : cpI a[k] b[k] ≠ 0) : lexL a b = cpI a[k] b[k] := by
  rw [← lexL_drop h (by omega) (by omega), List.drop_eq_getElem_cons h1, List.drop_eq_getElem_cons h2, lexL]
  unfold cpI at hc ⊢
  split
  · rfl
  · split
    · rfl
    · rename_i h3 h4; rw [if_neg h3, if_neg h4] at hc; exact absurd rfl hc
theorem cpI_zero {x y : Int} (h : cpI x y = 0) : x = y := by
  unfold cpI at h
  split at h
  · simp at h
  · split at h
    · simp at h
    · omega
theorem cmpL_or (a b : List Int) : orI (cpI a.length b.length) (lexL a b) = cmpL a b := by
  unfold cmpL cpI orI
  by_cases h1 : a.length < b.length
  · rw [if_pos h1, if_pos (show (a.length : Int) < b.length by omega)]; rfl
  · by_cases h2 : b.length < a.length
    · rw [if_neg h1, if_pos h2, if_neg (show ¬ (a.length : Int) < b.length by omega), if_pos (show (b.length : Int) < a.length by omega)]; rfl
    · rw [if_neg h1, if_neg h2, if_neg (show ¬ (a.length : Int) < b.length by omega), if_neg (show ¬ (b.length : Int) < a.length by omega)]; rfl
end Go.Proofs.YtldgkidojepdlaaGreat
