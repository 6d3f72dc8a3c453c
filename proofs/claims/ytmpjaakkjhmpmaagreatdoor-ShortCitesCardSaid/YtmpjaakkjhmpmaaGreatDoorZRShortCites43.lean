/-
  WHAT IT HOLDS: contract of key of package short: the text that tells a statement. Conditions: the term reads as data; it is short and not empty; the library's table of powers of ten stands as it is written.
  WHAT IT HOLDS: contract of firsts of package short: for each step the first one that says the same. Conditions: the terms read as data; they are few, short and not empty; the library's table of powers of ten stands as it is written.
  WHAT IT HOLDS: contracts of merged and Merged of package short. Conditions: the arguments read as data; a small sign; the library's table of powers of ten stands as it is written.
  WHAT IT HOLDS: contracts of slices.Clone at steps and of Cut of package short. Conditions: the arguments read as data.
  WHAT IT HOLDS: plain facts behind the helper awake of the laws of layer 7: what the steps of its proof say, how it is merged, how often its steps come, how it is cut. No program in sight.
  WHAT IT HOLDS: contract of Inlined of package short. Conditions: the arguments read as data.
-/
import Derived.Lib.AppendIntMem
import Derived.Test.YtmpjaakkjhmpmaaGreatDoorZRShortCites42
import Derived.Test.YtmpjaakkjhmpmaaGreatDoorZRShortCites25
import Derived.Test.YtmpjaakkjhmpmaaGreatDoorZRShortCites20
import Derived.Test.YtmpjaakkjhmpmaaGreatDoorZRShortCites13
import Derived.Test.YtmpjaakkjhmpmaaGreatDoorZRShortCites41
import Derived.Test.YtmpjaakkjhmpmaaGreatDoorZRShortCites30
import Derived.Test.YtmpjaakkjhmpmaaGreatDoorZRShortCites26
import Derived.Test.YtmpjaakkjhmpmaaGreatDoorZRShortCites34
import Derived.Test.YtmpjaakkjhmpmaaGreatDoorZRShortCites35
import Derived.Test.YtmpjaakkjhmpmaaGreatDoorZRShortCites39
import Derived.Test.YtmpjaakkjhmpmaaGreatDoorZRShortCites0
namespace Go.Proofs.YtmpjaakkjhmpmaaGreatDoor
open Go Go.RowKit Go.Maps
def Tab (w : World) : Prop := Lib.TabIs Tryz.prog w "internal/strconv.uint64pow10" .u64 Lib.pow10Tab
theorem Tab.below {w w' : World} (h : Tab w) (hb : Below w.heap.size w w') : Tab w' := Lib.tabBelow_of_tabIs h w' hb
def itB (n : Int) : ByteArray := ⟨(Lib.itoa n).toArray⟩
def i64R (n : Int) : Prop := -9223372036854775808 ≤ n ∧ n ≤ 9223372036854775807
theorem jt_len : ∀ {r : List Int}, (∀ n ∈ r, i64R n) → (Lib.joinTail [32] (r.map Lib.itoa)).length ≤ 22 * r.length
  | [], _ => by simp [Lib.joinTail]
  | n :: r, h => by
    have h1 := h n List.mem_cons_self
    have h2 := Lib.itoa_length_le n h1.1 h1.2
    have h3 := jt_len (fun m hm => h m (List.mem_cons_of_mem _ hm))
    rw [List.map_cons, jt_cons, List.length_cons, List.length_append, List.length_cons]
    omega
theorem shkL_len {t : List Int} (h : ∀ n ∈ t, i64R n) : (shkL t).length ≤ 22 * t.length := by
  unfold shkL
  cases t with
  | nil => simp [Lib.join_nil]
  | cons n r =>
    have h1 := h n List.mem_cons_self
    have h2 := Lib.itoa_length_le n h1.1 h1.2
    have h3 := jt_len (fun m hm => h m (List.mem_cons_of_mem _ hm))
    rw [List.map_cons, Lib.join_cons, List.length_append, List.length_cons]
    omega
theorem itB_map (t : List Int) : (t.map itB).map (·.data.toList) = t.map Lib.itoa := by
  rw [List.map_map]
  refine List.map_congr_left fun n _ => ?_
  simp [itB]
theorem itoa_walk (n : Int) (h : i64R n) (X : World) (ht : Tab X) : Calls Tryz.prog 77 #[.int .i64 n] X fun e w' => e = .returned (.string (itB n)) ∧ Below X.heap.size X w' :=
  (Tryz.strconv_Itoa n h.1 h.2 X ht).mono fun e w' ⟨h1, k, os, h2⟩ => ⟨h1, h2 ▸ Lib.below_grow _ X (Nat.le_refl _) k os⟩
set_option maxHeartbeats 4000000 in
set_option maxRecDepth 100000 in
theorem short_key (v : Value) (t : List Int) (w : World) (hv : Ints w v t) (h0 : 1 ≤ t.length) (ht : t.length ≤ 60) (hr : ∀ n ∈ t, i64R n) (htab : Tab w) :
    Calls Tryz.prog 95 #[v] w fun e w' => e = .returned (.string (shkB t)) ∧ Below w.heap.size w w' := by
  have HV := hid hv
  have HR := hid hr
  have HT := hid htab
  obtain ⟨ta, tc, rfl, -, tl, -, HC⟩ := hv.open
  have HC' := hid HC
  have h00 := hid (World.ownsRow_nil w w.heap.size 9 1)
  clear hv hr htab HC
  go_enter Tryz.func95, Tryz.ntmps95
  go_wp2
  go_loopw [3, 8] (fun uo kv wr => ∃ k : Nat, k ≤ t.length ∧ kv = .int .i64 k ∧ wr.ownsRow w.heap.size 9 1 uo k ((t.take k).map (fun n => Value.string (itB n))) ∧ Below w.heap.size w wr) (fun _ kv _ => t.length - (intOf kv).toNat)
  case atStart => exact ⟨0, by omega, rfl, h00.out, Below.refl _ _⟩
  case round =>
    clear h00
    obtain ⟨k, hk, rfl, hown, hb⟩ := hrel
    have hwz := hb.size
    by_cases hlt : k < t.length
    · obtain ⟨b, o, rfl, c0⟩ := HC'.out k hlt
      have c1 := (hb.cell (World.block_lt_of_cell? _ _ c0)).trans c0
      have HRN := hid (HR.out t[k] (List.getElem_mem hlt))
      have HST := hid (show (t.take (k + 1)).map (fun n => Value.string (itB n)) = (t.take k).map (fun n => Value.string (itB n)) ++ [.string (itB t[k])] by rw [List.take_succ_eq_append_getElem hlt, List.map_append]; rfl)
      obtain ⟨n, hn⟩ : ∃ n, t[k] = n := ⟨_, rfl⟩
      rw [hn] at c1 HRN HST
      obtain ⟨N, hN⟩ : ∃ N, (t.take k).map (fun n => Value.string (itB n)) = N := ⟨_, rfl⟩
      rw [hN] at HST hown
      have hNl : N.length = k := by rw [← hN]; simp; omega
      obtain ⟨ua, uc, rfl⟩ := owns_slice hown
      have HOWN := hid hown
      have HBW := hid hb
      have HI := hid (itoa_walk n HRN.out wr (HT.out.below hb))
      clear hn hN hown hb c0
      go_wp2_with fail
      refine HI.out.mono ?_
      rintro e w2 ⟨rfl, hb2⟩
      have hRA := (owns_below HOWN.out hb2).alloc (.cells #[.string (itB n)] 9)
      have HB2 := hid (HBW.out.trans (hb2.mono hwz))
      have hz2 := HB2.out.size
      have HBL := hid (show Below w2.heap.size w2 (w2.alloc (.cells #[.string (itB n)] 9)) from (Below.refl _ _).alloc (Nat.le_refl _) _)
      have HBF := hid (HB2.out.trans (HBL.out.mono hz2))
      clear hb2 HI
      go_wp2_with (at_builtin; refine wpList_append_lie rfl _ _ 145 rfl w.heap.size 9 el_str Tryz.underlying145 rfl (by decide) _ k N rfl hRA _ 1 [.string (itB n)] rfl (row_one_new _ _ _) (oneCell_one rfl) (by omega) (by omega) (by omega) (by simp; omega) _ rfl ?_; intro g8 cap8 w8 hown8 hgrow8 hat8 hlt8)
      go_roundw
      case rel =>
        refine ⟨k + 1, by omega, by go_num, by rw [HST.out]; simpa using hown8, HBF.out.grown hgrow8 (by have := HBF.out.size; omega) (fun q hq => (HOWN.out.lt q hq).1)⟩
      case measure => simp [intOf]; omega
    · obtain rfl : k = t.length := by omega
      rw [List.take_of_length_le (Nat.le_refl _)] at hown
      obtain ⟨g, cap, rfl, hg0, -⟩ := owns_some hown (by omega)
      have hcap : t.length ≤ cap := by
        rcases hown.2 with ⟨h, -⟩ | ⟨g', c', cur, h, -, -, hn, -⟩
        · cases h
        · simp only [Value.slice.injEq] at h; omega
      have HJ := hid (Tryz.strings_Join g 0 cap (t.map itB) ⟨#[32]⟩ wr (fun j x hj => by
        have hjl : j < t.length := by have := (List.getElem?_eq_some_iff.1 hj).1; simpa using this
        have h1 := hown.cellAt j (by omega)
        rw [Nat.zero_add, h1, List.getElem?_map, List.getElem?_eq_getElem hjl]
        rw [List.getElem?_map, List.getElem?_eq_getElem hjl] at hj
        have hj' := Option.some.inj hj
        rw [← hj']; rfl) (hown.lt g rfl).2 (by rw [List.length_map]; omega) (by rw [List.length_map]; exact hcap) (by
        rw [itB_map]
        have := shkL_len HR.out
        show (shkL t).length ≤ _
        omega))
      rw [itB_map, List.length_map] at HJ
      have HBW := hid hb
      clear hown hb hcap
      go_wp2_with fail
      refine HJ.out.mono ?_
      rintro e w2 ⟨rfl, hb2⟩
      go_wp2
      go_ret
      exact ⟨rfl, HBW.out.trans (hb2.mono hwz)⟩
end Go.Proofs.YtmpjaakkjhmpmaaGreatDoor
namespace Go.Proofs.YtmpjaakkjhmpmaaGreatDoor
open Go Go.RowKit Go.Maps
theorem shkB_size {t : List Int} (h : ∀ n ∈ t, i64R n) (h60 : t.length ≤ 60) : (shkB t).size ≤ 140737488355328 := by
  have h1 := shkL_len h
  have h2 : (shkB t).size = (shkL t).length := by unfold shkB; simp [ByteArray.size]
  omega
/-- statements that are short, not empty, and of numbers that an int holds. -/
def smallT (l : List (List Int)) : Prop := ∀ t ∈ l, 1 ≤ t.length ∧ t.length ≤ 60 ∧ ∀ n ∈ t, i64R n
set_option maxHeartbeats 4000000 in
set_option maxRecDepth 100000 in
theorem short_firsts (v : Value) (l : List (List Int)) (w : World) (hv : Terms w v l) (h60 : l.length ≤ 60) (hsm : smallT l) (htab : Tab w) :
    Calls Tryz.prog 92 #[v] w fun e w' => ∃ u, e = .returned u ∧ Ints w' u ((frL l).map fun i : Nat => (i : Int)) ∧ Below w.heap.size w w' := by
  have HT := hid htab
  have HSM := hid hsm
  obtain ⟨la, lc, rfl, -, ll, -, HC⟩ := hv.open
  have HC' := hid HC
  have hmm := @run_makeMap Tryz.prog
  have HM0 := hid (MapK.made Tryz.prog 9 Value.string (Value.int .i64) w)
  have HB0 := hid (show Below w.heap.size w (w.alloc (.map #[] 0)) from (Below.refl _ _).alloc (Nat.le_refl _) _)
  have h00 := hid (World.ownsRow_nil (w.alloc (.map #[] 0)) (w.heap.size + 1) 3 1)
  clear hv htab hsm HC
  go_enter Tryz.func92, Tryz.ntmps92
  go_wp2
  clear hmm
  go_loopw [4, 13] (fun uo kv wr => ∃ k n : Nat, k ≤ l.length ∧ kv = .int .i64 k ∧ wr.ownsRow (w.heap.size + 1) 3 1 uo k (((frL l).take k).map fun i : Nat => Value.int .i64 (i : Int)) ∧ MapK Tryz.prog 9 Value.string (Value.int .i64) wr w.heap.size n (fM (l.take k)) ∧ Below w.heap.size w wr) (fun _ kv _ => l.length - (intOf kv).toNat)
  case atStart => exact ⟨0, 0, by omega, rfl, h00.out, HM0.out, HB0.out⟩
  case round =>
    clear h00 HM0 HB0
    obtain ⟨k, n, hk, rfl, hown, hM, hb⟩ := hrel
    have hwz := hb.size
    have hml := hM.lt
    by_cases hlt : k < l.length
    · obtain ⟨b, o, u, rfl, c0, hu⟩ := HC'.out k hlt
      have c1 := (hb.cell (World.block_lt_of_cell? _ _ c0)).trans c0
      obtain ⟨s1, s2, s3⟩ := HSM.out l[k] (List.getElem_mem hlt)
      have HST := hid (show ((frL l).take (k + 1)).map (fun i : Nat => Value.int .i64 (i : Int)) = ((frL l).take k).map (fun i : Nat => Value.int .i64 (i : Int)) ++ [.int .i64 (frN l k : Int)] by rw [frL_take hlt, List.map_append]; rfl)
      have HAT := hid (fM_at hlt)
      have HTK := hid (List.take_succ_eq_append_getElem hlt)
      have HTL : Hid ((l.take k).length = k) := hid (by rw [List.length_take]; omega)
      have hkey := shkB_size s3 s2
      have HI := hid (short_key u l[k] wr (hu.below hb) s1 s2 s3 (HT.out.below hb))
      obtain ⟨t, ht⟩ : ∃ t, l[k] = t := ⟨_, rfl⟩
      rw [ht] at HI HAT HTK hkey hu
      obtain ⟨ta, tc, rfl, -⟩ := hu.open
      obtain ⟨N, hN⟩ : ∃ N, ((frL l).take k).map (fun i : Nat => Value.int .i64 (i : Int)) = N := ⟨_, rfl⟩
      rw [hN] at HST hown
      obtain ⟨F, hF⟩ : ∃ F, frN l k = F := ⟨_, rfl⟩
      rw [hF] at HST HAT
      obtain ⟨sk, hsk⟩ : ∃ sk, shkB t = sk := ⟨_, rfl⟩
      rw [hsk] at HI HAT hkey
      have HSK := hid hsk
      obtain ⟨ua, uc, rfl⟩ := owns_slice hown
      have HOWN := hid hown
      have HBW := hid hb
      have HMM := hid hM
      clear ht hN hF hsk hown hb hM c0 hu s1 s2 s3
      go_wp2_with fail
      refine HI.out.mono ?_
      rintro e w2 ⟨rfl, hb2⟩
      have HB2 := hid (HBW.out.trans (hb2.mono hwz))
      have hz2 := HB2.out.size
      have hml2 : w.heap.size + 1 ≤ w2.heap.size := Nat.le_trans hml hb2.size
      have hM2 := HMM.out.belowS hb2
      have hown2 := owns_below HOWN.out hb2
      have hl1 := hM2.run_lookup (string_keyed Tryz.underlying9) ek_string_inj Tryz.underlying143 (zero_intD w2) sk (str_key hkey) true
      cases hf : fM (l.take k) sk with
      | some i =>
        have HF1 : Hid (fM (l.take (k + 1)) = fM (l.take k)) := hid (by rw [HTK.out]; exact fM_old (by rw [HSK.out]; exact hf))
        have hiF : (i : Int) = F := by
          have h := HAT.out
          rw [HF1.out, hf] at h
          exact Option.some.inj h
        subst hiF
        have hl2 := hM2.run_lookup (string_keyed Tryz.underlying9) ek_string_inj Tryz.underlying143 (zero_intD w2) sk (str_key hkey) false
        rw [hf] at hl1 hl2
        have hl1' : (Instr.lookup 143 (.map (some w.heap.size)) (.string sk) true).run Tryz.prog w2 = .ok (.tuple #[.int .i64 (F : Int), .bool true]) w2 := hl1
        have hl2' : (Instr.lookup 143 (.map (some w.heap.size)) (.string sk) false).run Tryz.prog w2 = .ok (.int .i64 (F : Int)) w2 := hl2
        have HBL := hid (show Below w2.heap.size w2 (w2.alloc (.cells #[.int .i64 (F : Int)] 3)) from (Below.refl _ _).alloc (Nat.le_refl _) _)
        have hRA := hown2.alloc (.cells #[.int .i64 (F : Int)] 3)
        have HM2 := hid hM2
        clear hl1 hl2 hb2 hM2 hown2 hf
        go_wp2_with (at_builtin; refine wpList_append_lie rfl _ _ 33 rfl (w.heap.size + 1) 3 el_int Tryz.underlying33 rfl (by decide) _ k N rfl hRA _ 1 [.int .i64 (F : Int)] rfl (row_one_new _ _ _) (oneCell_one rfl) (by omega) (by omega) (by omega) (by simp; omega) _ rfl ?_; intro g8 cap8 w8 hown8 hgrow8 hat8 hlt8)
        go_roundw
        case rel =>
          have hor := fun q hq => (HOWN.out.lt q hq).1
          refine ⟨k + 1, n, by omega, by go_num, by rw [HST.out]; simpa using hown8, by rw [HF1.out]; exact (HM2.out.alloc _).kept hgrow8 (fun e => by have := hor _ e.symm; omega), (HB2.out.trans (HBL.out.mono hz2)).grown hgrow8 (by have := HBL.out.size; omega) (fun q hq => by have := hor q hq; omega)⟩
        case measure => simp [intOf]; omega
      | none =>
        obtain ⟨w3, hup0, hM3, hg3⟩ := hM2.run_update (string_keyed Tryz.underlying9) ek_string_inj Tryz.underlying143 sk (k : Int) (str_key hkey)
        have HF1 : (fun y => if y = sk then some (k : Int) else fM (l.take k) y) = fM (l.take (k + 1)) := by
          have h := fM_new (L := l.take k) (t := t) (by rw [HSK.out]; exact hf)
          rw [HTL.out, HSK.out] at h
          rw [h, HTK.out]
        rw [HF1] at hM3
        have hl2 := hM3.run_lookup (string_keyed Tryz.underlying9) ek_string_inj Tryz.underlying143 (zero_intD w3) sk (str_key hkey) false
        rw [HAT.out] at hl2
        rw [hf] at hl1
        have hl1' : (Instr.lookup 143 (.map (some w.heap.size)) (.string sk) true).run Tryz.prog w2 = .ok (.tuple #[.int .i64 0, .bool false]) w2 := hl1
        have hup : (Instr.mapUpdate 143 (.map (some w.heap.size)) (.string sk) (.int .i64 k)).run Tryz.prog w2 = .ok () w3 := hup0
        have hl2' : (Instr.lookup 143 (.map (some w.heap.size)) (.string sk) false).run Tryz.prog w3 = .ok (.int .i64 (F : Int)) w3 := hl2
        have hown3 := owns_grown hown2 hg3 (fun q hq => by cases hq; omega)
        have HB3 := hid (HB2.out.grown hg3 hz2 (fun q hq => by cases hq; exact Nat.le_refl _))
        have hz3 := HB3.out.size
        have hml3 : w.heap.size + 1 ≤ w3.heap.size := Nat.le_trans hml2 hg3.size
        have HBL := hid (show Below w3.heap.size w3 (w3.alloc (.cells #[.int .i64 (F : Int)] 3)) from (Below.refl _ _).alloc (Nat.le_refl _) _)
        have hRA := hown3.alloc (.cells #[.int .i64 (F : Int)] 3)
        have HM3 := hid hM3
        clear hl1 hl2 hup0 hb2 hM2 hM3 hown2 hown3 hf HF1 hg3
        go_wp2_with (at_builtin; refine wpList_append_lie rfl _ _ 33 rfl (w.heap.size + 1) 3 el_int Tryz.underlying33 rfl (by decide) _ k N rfl hRA _ 1 [.int .i64 (F : Int)] rfl (row_one_new _ _ _) (oneCell_one rfl) (by omega) (by omega) (by omega) (by simp; omega) _ rfl ?_; intro g8 cap8 w8 hown8 hgrow8 hat8 hlt8)
        go_roundw
        case rel =>
          have hor := fun q hq => (HOWN.out.lt q hq).1
          refine ⟨k + 1, _, by omega, by go_num, by rw [HST.out]; simpa using hown8, (HM3.out.alloc _).kept hgrow8 (fun e => by have := hor _ e.symm; omega), (HB3.out.trans (HBL.out.mono hz3)).grown hgrow8 (by have := HBL.out.size; omega) (fun q hq => by have := hor q hq; omega)⟩
        case measure => simp [intOf]; omega
    · obtain rfl : k = l.length := by omega
      have hfl := frL_len l
      rw [List.take_of_length_le (by omega)] at hown
      have HI : Hid (Ints wr _ ((frL l).map fun i : Nat => (i : Int))) := hid (Ints.of_owns (by rw [List.length_map, hfl, List.map_map]; exact hown) (by rw [List.length_map]; omega))
      obtain ⟨ua, uc, rfl⟩ := owns_slice hown
      have HB := hid hb
      clear hown hM hb
      go_wp2
      go_ret
      exact ⟨_, rfl, HI.out, HB.out⟩
end Go.Proofs.YtmpjaakkjhmpmaaGreatDoor
namespace Go.Proofs.YtmpjaakkjhmpmaaGreatDoor
open Go Go.RowKit Go.Maps
theorem frI_at {l : List (List Int)} {i : Nat} (h : i < l.length) : ((frL l).map fun i : Nat => (i : Int))[i]? = some (frN l i : Int) := by
  unfold frN
  rw [List.getElem?_map, List.getD_eq_getElem?_getD, List.getElem?_eq_getElem (by rw [frL_len]; exact h)]; rfl
theorem short_merged1 (bq n i z : Nat) (c o cap : Nat) (X : World) (hn : n ≤ 1000) (hz : z ≤ 1000) (hc : X.cell? ⟨bq, 0, none⟩ = some (.slice (some ⟨c, o, none⟩) n cap)) (hi : i < n) (hv : X.cell? ⟨c, o + i, none⟩ = some (.int .i64 (z : Int))) :
    Calls Tryz.prog 110 #[.int .i64 i, .pointer (some ⟨bq, 0, none⟩)] X fun e X' => e = .returned (.int .i64 (z : Int)) ∧ X = X' := by
  go_enter Tryz.func110, Tryz.ntmps110
  go_wp2
  go_ret
  exact ⟨rfl, rfl⟩
theorem short_merged2 (bq n i z : Nat) (c o cap : Nat) (X : World) (hn : n ≤ 1000) (hz : z ≤ 1000) (hc : X.cell? ⟨bq, 0, none⟩ = some (.slice (some ⟨c, o, none⟩) n cap)) (hi : i < n) (hv : X.cell? ⟨c, o + i, none⟩ = some (.int .i64 (z : Int))) :
    Calls Tryz.prog 111 #[.int .i64 i, .pointer (some ⟨bq, 0, none⟩)] X fun e X' => e = .returned (.bool (decide (z = i))) ∧ X = X' := by
  by_cases h : z = i
  · have h1 : ((z : Int) == (i : Int)) = true := by rw [h]; simp
    have h2 : decide (z = i) = true := decide_eq_true h
    clear h
    go_enter Tryz.func111, Tryz.ntmps111
    go_wp2
    go_ret
    exact ⟨ret_bool h2.symm, rfl⟩
  · have h1 : ((z : Int) == (i : Int)) = false := by rw [beq_eq_false_iff_ne]; omega
    have h2 : decide (z = i) = false := decide_eq_false h
    clear h
    go_enter Tryz.func111, Tryz.ntmps111
    go_wp2
    go_ret
    exact ⟨ret_bool h2.symm, rfl⟩
theorem StepsAt.take {w : World} {a : Option Addr} {n cap : Nat} {l : List St} (h : StepsAt w (.slice a n cap) l) (k : Nat) (hk : k ≤ l.length) : StepsAt w (.slice a k cap) (l.take k) := by
  obtain ⟨h1, a', cap', h2, h3, h4, h5, h6⟩ := h
  simp only [Value.slice.injEq] at h2
  obtain ⟨rfl, rfl, rfl⟩ := h2
  have hl : (l.take k).length = k := by rw [List.length_take]; omega
  refine ⟨by rw [stC_len], a, cap, by rw [hl], by omega, by omega, h5, fun j u hj => h6 j u ?_⟩
  have e : stC l = stC (l.take k) ++ stC (l.drop k) := by unfold stC; rw [← List.flatMap_append, List.take_append_drop]
  rw [e, List.getElem?_append_left (List.getElem?_eq_some_iff.1 hj).1]
  exact hj
set_option maxHeartbeats 4000000 in
set_option maxRecDepth 100000 in
theorem short_merged (g : Int) (v vl : Value) (p : List St) (l : List (List Int)) (w : World) (hv : StepsAt w v p) (hl : Terms w vl l) (hg : proofB g p = true) (hlen : l.length = p.length) (hsm : smallT l) (htab : Tab w) :
    Calls Tryz.prog 61 #[v, vl] w fun e w' => ∃ u, e = .returned u ∧ StepsAt w' u (mrgP p l) ∧ Below w.heap.size w w' := by
  have h60 := proof60 hg
  have h1 := proof1 hg
  have HF := hid (short_firsts vl l w hl (by omega) hsm htab)
  have HP := hid hv
  have HG := hid hg
  have HLN := hid hlen
  obtain ⟨pa, pc, rfl, -⟩ := hv.open
  obtain ⟨la, lc, rfl, -⟩ := hl.open
  clear hv hg hl hsm htab hlen
  go_enter Tryz.func61, Tryz.ntmps61
  go_wp2_with fail
  refine HF.out.mono ?_
  rintro e w1 ⟨u1, rfl, hu1, hb1⟩
  have hlen := HLN.out
  obtain ⟨fa, fc, rfl, hfc, -, -, HC⟩ := hu1.open
  rw [List.length_map, frL_len, HLN.out] at hfc
  have hsl : (Value.slice fa ((frL l).map fun i : Nat => (i : Int)).length fc) = .slice fa p.length fc := by rw [List.length_map, frL_len, HLN.out]
  rw [hsl]
  have k1 := cell_new1 w1 (.slice fa p.length fc) 33
  obtain ⟨W1, hW1⟩ : ∃ W1, w1.alloc (.cells #[.slice fa p.length fc] 33) = W1 := ⟨_, rfl⟩
  have b1 : Below w1.heap.size w1 W1 := hW1 ▸ (Below.refl _ _).alloc (Nat.le_refl _) _
  rw [hW1] at k1
  have hbw : Below w.heap.size w W1 := hb1.trans (b1.mono hb1.size)
  have hfr : ∀ i, i < p.length → ∃ c o, fa = some ⟨c, o, none⟩ ∧ W1.cell? ⟨c, o + i, none⟩ = some (.int .i64 (frN l i : Int)) := fun i hi => by
    obtain ⟨c, o, h2, h3⟩ := HC i (by rw [List.length_map, frL_len]; omega)
    refine ⟨c, o, h2, (b1.cell (World.block_lt_of_cell? _ _ h3)).trans ?_⟩
    rw [h3]
    have h4 := frI_at (l := l) (i := i) (by omega)
    rw [List.getElem?_eq_getElem (by rw [List.length_map, frL_len]; omega)] at h4
    rw [Option.some.inj h4]
  have HST : Hid (StayC 111 #[.pointer (some ⟨w1.heap.size, 0, none⟩)] p.length (frB l) W1) := hid (fun X hX i hi => by
    obtain ⟨c, o, rfl, h3⟩ := hfr i hi
    have hle := frN_le (l := l) (i := i) (by omega)
    rw [frB_at (by omega)]
    exact short_merged2 w1.heap.size p.length i (frN l i) c o fc X (by omega) (by omega) ((hX.cell (World.block_lt_of_cell? _ _ k1)).trans k1) hi ((hX.cell (World.block_lt_of_cell? _ _ h3)).trans h3))
  have HBC : Hid (BecC 110 #[.pointer (some ⟨w1.heap.size, 0, none⟩)] p.length (frN l) W1) := hid (fun X hX i hi => by
    obtain ⟨c, o, rfl, h3⟩ := hfr i hi
    have hle := frN_le (l := l) (i := i) (by omega)
    exact short_merged1 w1.heap.size p.length i (frN l i) c o fc X (by omega) (by omega) ((hX.cell (World.block_lt_of_cell? _ _ k1)).trans k1) hi ((hX.cell (World.block_lt_of_cell? _ _ h3)).trans h3))
  have HR := hid (short_rebuilt g (.slice pa p.length pc) 111 110 #[.pointer (some ⟨w1.heap.size, 0, none⟩)] #[.pointer (some ⟨w1.heap.size, 0, none⟩)] p (frB l) (frN l) W1 (HP.out.below hbw) HG.out (ok_fr HG.out HLN.out) HST.out HBC.out (enters_of Tryz.func111 rfl rfl) (enters_of Tryz.func110 rfl rfl))
  have HB := hid hbw
  have HW := hid hW1
  have HK1 := hid k1
  have HFR := hid (hfr (p.length - 1) (by omega))
  clear hu1 hb1 k1 b1 hbw hW1 HST HBC HC hsl hfr hlen
  go_wp2_with (rw [HW.out])
  refine HR.out.mono ?_
  rintro e w2 ⟨u, mb, n, rfl, hu, hM, hb2⟩
  have HB2 := hid (HB.out.trans (hb2.mono HB.out.size))
  have hlen := HLN.out
  have hfl := frN_le (l := l) (i := p.length - 1) (by omega)
  have hfb := frB_fr (l := l) (i := p.length - 1) (by omega)
  have hlk := hM.run_lookup (int_keyed Tryz.underlying3) eI_inj Tryz.underlying125 (zero_int w2) (frN l (p.length - 1) : Int) (int_key (frN l (p.length - 1) : Int) (wf_small (by omega) (by omega))) false
  rw [mI_stay (show frN l (p.length - 1) < p.length by omega) hfb] at hlk
  have hpl := posS_lt (frB l) (show frN l (p.length - 1) < p.length by omega) hfb
  have hll := rebL_len p (frB l) (frN l) p.length
  obtain ⟨ua, uc, rfl, huc, -⟩ := hu.open
  have HU := hid (StepsAt.take hu (posS (frB l) (frN l (p.length - 1)) + 1) (by omega))
  obtain ⟨c, o, rfl, h3⟩ := HFR.out
  have c0 := (hb2.cell (World.block_lt_of_cell? _ _ HK1.out)).trans HK1.out
  have c1 := (hb2.cell (World.block_lt_of_cell? _ _ h3)).trans h3
  have hgr : posS (frB l) (frN l (p.length - 1)) + 1 ≤ (rebL p (frB l) (frN l) p.length).length := by rw [rebL_len]; omega
  have hF1 : frN l (p.length - 1) ≤ 60 := by omega
  have hG1 : posS (frB l) (frN l (p.length - 1)) ≤ 60 := by have := posS_le (frB l) (frN l (p.length - 1)); omega
  obtain ⟨F, hF⟩ : ∃ F, frN l (p.length - 1) = F := ⟨_, rfl⟩
  have HMQ : Hid (mrgP p l = (rebL p (frB l) (frN l) p.length).take (posS (frB l) F + 1)) := hid (by unfold mrgP lastF; rw [hF])
  rw [hF] at c1 hlk hgr HU hF1 hG1
  obtain ⟨G, hG⟩ : ∃ G, posS (frB l) F = G := ⟨_, rfl⟩
  rw [hG] at hlk hgr HU HMQ hG1
  have hlk' : (Instr.lookup 125 (.map (some mb)) (.int .i64 (F : Int)) false).run Tryz.prog w2 = .ok (.int .i64 (G : Int)) w2 := hlk
  obtain ⟨m, hm⟩ : ∃ m, p.length = m + 1 := ⟨p.length - 1, by omega⟩
  have e1 : p.length - 1 = m := by omega
  rw [e1] at c1
  obtain ⟨R, hR⟩ : ∃ R, (rebL p (frB l) (frN l) p.length).length = R := ⟨_, rfl⟩
  rw [hR] at huc hgr
  have y1 : G + 1 ≤ uc := by omega
  have y2 : ((G : Int) + 1) ≤ (uc : Int) := by omega
  have y3 : (0 : Int) ≤ (G : Int) + 1 := by omega
  have y4 : IntKind.i64.wrap ((G : Int) + 1) = ((G + 1 : Nat) : Int) := by rw [IntWalk.i64_in _ (by omega)]; omega
  have y5 : IntKind.i64.wrap (((m + 1 : Nat) : Int) - 1) = (m : Int) := by rw [IntWalk.i64_in _ (by omega)]; omega
  have y6 : (((m + 1 : Nat) : Int) - 1) = (m : Int) := by omega
  have hm60 : m ≤ 59 := by omega
  have y7 : IntKind.i64.wrap (m : Int) = (m : Int) := IntWalk.i64_in _ (by omega)
  simp only [hm] at c0 ⊢
  rw [hm] at hR
  simp only [hR]
  clear hu hM hb2 hlk hfl hfb h3 hF hG e1 hll hpl hR hm h1 HFR hlen
  go_wp2
  go_ret
  refine ⟨_, rfl, ?_, HB2.out⟩
  rw [HMQ.out]
  exact HU.out
theorem run_lenM {s : Sg} {g : List (List Int)} {p : List St} {l : List (List Int)} (h : RunR s g p l 0) : l.length = p.length := by
  rcases h.2 with ⟨-, h⟩ | ⟨h, -⟩ <;> first | exact h | exact absurd rfl h
theorem small_run {s : Sg} {g : List (List Int)} {p : List St} {l : List (List Int)} (ha : askedB s g p = true) (h : RunR s g p l 0) : smallT l := fun t ht => by
  have h1 := run_terms ha h t ht
  refine ⟨(termB_T h1).ne, (termB_facts h1).2.2.2, fun n hn => ?_⟩
  have := termB_wf h1 n hn
  exact ⟨by omega, by omega⟩
set_option maxHeartbeats 4000000 in
set_option maxRecDepth 100000 in
theorem short_Merged (vs vg vp : Value) (s : Sg) (g : List (List Int)) (p : List St) (w : World) (hs : SignAt w vs s) (hg : Terms w vg g) (hp : StepsAt w vp p) (hs1 : s.length ≤ 1000) (htab : Tab w) :
    Calls Tryz.prog 14 #[vs, vg, vp] w fun e w' => ∃ u l er, e = .returned (.tuple #[u, .int .i64 er]) ∧ SaidQ s g p l er ∧ StepsAt w' u (if er = 0 then mrgP p l else []) ∧ Below w.heap.size w w' := by
  have HS := hid (short_said vs vg vp s g p w hs hg hp hs1)
  have HM := hid (fun (X : World) (hX : Below w.heap.size w X) (vl : Value) (l : List (List Int)) (hl : Terms X vl l) (h : SaidQ s g p l 0) =>
    (have hg := h.good
     short_merged (g.length : Int) vp vl p l X (hp.below hX) hl (asked_parts hg.1).2 (run_lenM hg.2) (small_run hg.1 hg.2) (htab.below hX)))
  obtain ⟨pa, pc, rfl, -⟩ := hp.open
  clear hs hg hp htab
  go_enter Tryz.func14, Tryz.ntmps14
  go_wp2_with fail
  refine HS.out.mono ?_
  rintro e w1 ⟨u, l, er, rfl, hq, hT, hb1⟩
  have HB1 := hid hb1
  have HQ := hid hq
  have HT := hid hT
  obtain ⟨ua, uc, rfl, -⟩ := hT.open
  clear hq hT hb1
  by_cases h0 : er = 0
  · subst h0
    have K := hid (HM.out w1 HB1.out _ l HT.out HQ.out)
    go_wp2_with fail
    refine K.out.mono ?_
    rintro e w2 ⟨u2, rfl, hu2, hb2⟩
    have HB2 := hid (HB1.out.trans (hb2.mono HB1.out.size))
    have HU := hid hu2
    obtain ⟨ua2, uc2, rfl, -⟩ := hu2.open
    clear hu2 hb2
    go_wp2
    go_ret2
    exact ⟨_, l, 0, rfl, HQ.out, by rw [if_pos rfl]; exact HU.out, HB2.out⟩
  · have n0 : (er != 0) = true := by simpa using h0
    have HN := hid h0
    clear h0
    go_wp2
    go_ret2
    exact ⟨_, l, er, rfl, HQ.out, by rw [if_neg HN.out]; exact StepsAt.nil _, HB1.out⟩
end Go.Proofs.YtmpjaakkjhmpmaaGreatDoor
namespace Go.Proofs.YtmpjaakkjhmpmaaGreatDoor
open Go Go.RowKit Go.Maps
theorem stC_set (l : List St) (x : St) : ∀ (k : Nat), ((((stC l).set (k * 3) (.int .i64 x.1)).set (k * 3 + 1) (.int .i64 x.2.1)).set (k * 3 + 2) (.int .i64 x.2.2)) = stC (l.set k x) := by
  induction l with
  | nil => intro k; simp [stC]
  | cons y l ih =>
    intro k
    cases k with
    | zero => simp [stC, stV]
    | succ k =>
      have e1 : (k + 1) * 3 = k * 3 + 3 := by omega
      have := ih k
      rw [e1]
      simpa [stC, stV, List.set_cons_succ] using this
def cutE (g : Int) (p : List St) (i : Int) : Int := if vldB g p = true then (if i < 0 ∨ (p.length : Int) ≤ i then 7 else if i = (p.length : Int) - 1 ∨ stB (needL p) i.toNat = false then 10 else if g = 60 then 4 else 0) else 1
def CutQ (g : Int) (p : List St) (i : Int) (w : World) (e : Ending) (w' : World) : Prop :=
  ∃ u v, e = .returned (.tuple #[u, v, .int .i64 (cutE g p i)]) ∧ StepsAt w' u (if cutE g p i = 0 then trimL (p.take (i.toNat + 1)) else []) ∧ StepsAt w' v (if cutE g p i = 0 then trimL (cutS p i.toNat g) else []) ∧ Below w.heap.size w w'
set_option maxHeartbeats 4000000 in
set_option maxRecDepth 100000 in
theorem short_Cut (g : Int) (v : Value) (p : List St) (i : Int) (w : World) (hv : StepsAt w v p) :
    Calls Tryz.prog 23 #[.int .i64 g, v, .int .i64 i] w fun e w' => CutQ g p i w e w' := by
  have HV := hid (short_valid g v p w hv)
  have HP := hid hv
  obtain ⟨pa, pc, rfl, hpc, -⟩ := hv.open
  clear hv
  unfold CutQ
  cases hb : vldB g p
  · have hE : vldE g p = 1 := by unfold vldE; rw [hb]; rfl
    have hE2 : cutE g p i = 1 := by unfold cutE; rw [hb]; rfl
    rw [hE] at HV
    rw [hE2]
    clear hb hE HP hE2
    go_enter Tryz.func23, Tryz.ntmps23
    go_wp2_with fail
    refine HV.out.mono ?_
    rintro e w1 ⟨rfl, hb1⟩
    go_wp2
    go_ret3
    exact ⟨_, _, rfl, StepsAt.nil _, StepsAt.nil _, hb1⟩
  have hE : vldE g p = 0 := by unfold vldE; rw [hb]; rfl
  have hp : proofB g p = true := by unfold vldB at hb; rw [Bool.and_eq_true] at hb; exact hb.2
  have hE2 : cutE g p i = (if i < 0 ∨ (p.length : Int) ≤ i then 7 else if i = (p.length : Int) - 1 ∨ stB (needL p) i.toNat = false then 10 else if g = 60 then 4 else 0) := by unfold cutE; rw [hb]; rfl
  have h60 := proof60 hp
  have h1 := proof1 hp
  have hg0 : 0 ≤ g := by unfold vldB at hb; rw [Bool.and_eq_true] at hb; exact (inB_true.1 hb.1).1
  rw [hE] at HV
  rw [hE2]
  have HPR := hid hp
  clear hb hE hE2 hp
  by_cases hi0 : i < 0
  · rw [if_pos (Or.inl hi0)]
    clear HPR
    go_enter Tryz.func23, Tryz.ntmps23
    go_wp2_with fail
    refine HV.out.mono ?_
    rintro e w1 ⟨rfl, hb1⟩
    go_wp2
    go_ret3
    exact ⟨_, _, rfl, StepsAt.nil _, StepsAt.nil _, hb1⟩
  by_cases hi1 : (p.length : Int) ≤ i
  · rw [if_pos (Or.inr hi1)]
    clear HPR
    go_enter Tryz.func23, Tryz.ntmps23
    go_wp2_with fail
    refine HV.out.mono ?_
    rintro e w1 ⟨rfl, hb1⟩
    go_wp2
    go_ret3
    exact ⟨_, _, rfl, StepsAt.nil _, StepsAt.nil _, hb1⟩
  rw [if_neg (fun h => h.elim hi0 hi1)]
  obtain ⟨k, rfl⟩ : ∃ k : Nat, i = k := ⟨i.toNat, by omega⟩
  have hk : k < p.length := by omega
  rw [Int.toNat_natCast]
  obtain ⟨m, hm⟩ : ∃ m, p.length = m + 1 := ⟨p.length - 1, by omega⟩
  have HM := hid hm
  have y5 : IntKind.i64.wrap (((m + 1 : Nat) : Int) - 1) = (m : Int) := by rw [IntWalk.i64_in _ (by omega)]; omega
  have y6 : (((m + 1 : Nat) : Int) - 1) = (m : Int) := by omega
  rw [hm] at HV
  simp only [hm] at hpc hi1 hk h60 ⊢
  have hm60 : m ≤ 59 := by omega
  clear hm h1
  by_cases hkm : k = m
  · have e1 : (k : Int) = (m : Int) := by omega
    have c1 : ((k : Int) == (m : Int)) = true := by rw [e1]; simp
    rw [if_pos (Or.inl (by rw [y6]; exact e1))]
    clear HPR hkm
    go_enter Tryz.func23, Tryz.ntmps23
    go_wp2_with fail
    refine HV.out.mono ?_
    rintro e w1 ⟨rfl, hb1⟩
    go_wp2
    go_ret3
    exact ⟨_, _, rfl, StepsAt.nil _, StepsAt.nil _, hb1⟩
  have c1 : ((k : Int) == (m : Int)) = false := by rw [beq_eq_false_iff_ne]; omega
  have hne : ¬ (k : Int) = ((m + 1 : Nat) : Int) - 1 := by omega
  have HN := hid (fun (X : World) (hX : Below w.heap.size w X) => short_needed g (.slice pa (m + 1) pc) p X (by have h := HP.out.below hX; rw [HM.out] at h; exact h) HPR.out)
  have hle : k ≤ m := by omega
  cases hz : stB (needL p) k
  · rw [if_pos (Or.inr rfl)]
    have HZ := hid hz
    clear hz hne hkm
    go_enter Tryz.func23, Tryz.ntmps23
    go_wp2_with fail
    refine HV.out.mono ?_
    rintro e w1 ⟨rfl, hb1⟩
    have K := hid (HN.out w1 hb1)
    have HB1 := hid hb1
    clear hb1
    go_wp2_with fail
    refine K.out.mono ?_
    rintro e w2 ⟨q, rfl, hq, hown, hb2⟩
    have HB2 := hid (HB1.out.trans (hb2.mono HB1.out.size))
    have c2 := hown.cellAt k (by rw [HM.out]; omega)
    rw [bools_at (by rw [needL_len, HM.out]; exact hk), HZ.out] at c2
    rw [HM.out]
    clear hown hb2 K hq
    go_wp2
    go_ret3
    exact ⟨_, _, rfl, StepsAt.nil _, StepsAt.nil _, HB2.out⟩
  rw [if_neg (show ¬ ((k : Int) = ((m + 1 : Nat) : Int) - 1 ∨ true = false) from fun h => h.elim hne (fun h => by cases h))]
  have HZ := hid hz
  clear hz hne hkm
  by_cases hg : g = 60
  · have c3 : (g == 60) = true := by rw [hg]; rfl
    rw [if_pos hg]
    clear hg
    go_enter Tryz.func23, Tryz.ntmps23
    go_wp2_with fail
    refine HV.out.mono ?_
    rintro e w1 ⟨rfl, hb1⟩
    have K := hid (HN.out w1 hb1)
    have HB1 := hid hb1
    clear hb1
    go_wp2_with fail
    refine K.out.mono ?_
    rintro e w2 ⟨q, rfl, hq, hown, hb2⟩
    have HB2 := hid (HB1.out.trans (hb2.mono HB1.out.size))
    have c2 := hown.cellAt k (by rw [HM.out]; omega)
    rw [bools_at (by rw [needL_len, HM.out]; exact hk), HZ.out] at c2
    rw [HM.out]
    clear hown hb2 K hq
    go_wp2
    go_ret3
    exact ⟨_, _, rfl, StepsAt.nil _, StepsAt.nil _, HB2.out⟩
  have c3 : (g == 60) = false := by rw [beq_eq_false_iff_ne]; exact hg
  rw [if_neg hg, if_pos rfl, if_pos rfl]
  have HGB := hid (proofB_take HPR.out (k := k + 1) (by omega) (by rw [HM.out]; omega))
  have HCV : Hid (proofB (g + 1) (cutS p k g) = true) := hid (by obtain ⟨n, rfl⟩ : ∃ n : Nat, g = n := ⟨g.toNat, by omega⟩; exact cut_valid HPR.out k)
  clear hg
  go_enter Tryz.func23, Tryz.ntmps23
  go_wp2_with fail
  refine HV.out.mono ?_
  rintro e w1 ⟨rfl, hb1⟩
  have K := hid (HN.out w1 hb1)
  have HB1 := hid hb1
  clear hb1
  go_wp2_with fail
  refine K.out.mono ?_
  rintro e w2 ⟨q, rfl, hq, hown, hb2⟩
  have HB2 := hid (HB1.out.trans (hb2.mono HB1.out.size))
  have c2 := hown.cellAt k (by rw [HM.out]; omega)
  rw [bools_at (by rw [needL_len, HM.out]; exact hk), HZ.out] at c2
  rw [HM.out]
  clear hown hb2 K hq
  have HCL := hid (sl_Clone_steps (.slice pa (m + 1) pc) (m + 1) (stC p) w2 (by have h := HP.out.below HB2.out; unfold StepsAt at h; rw [HM.out] at h; exact h) (stC_one p) (by omega))
  go_wp2_with fail
  refine HCL.out.mono ?_
  rintro e w3 ⟨u3, rfl, hown3, hb3⟩
  have HB3 := hid (HB2.out.trans (hb3.mono HB2.out.size))
  obtain ⟨c, cap, rfl⟩ : ∃ c cap, u3 = .slice (some ⟨c, 0, none⟩) (m + 1) cap := by
    rcases hown3.2 with ⟨rfl, h⟩ | ⟨c, cap, cur, rfl, -⟩
    · omega
    · exact ⟨c, cap, rfl⟩
  have hc0 : w2.heap.size ≤ c := (hown3.lt c rfl).1
  have hlen : (stC p).length = (m + 1) * 3 := by rw [stC_len, HM.out]
  have f0 := hown3.frozenAt (k * 3)
  have e0 := hown3.cellAt (k * 3) (by omega)
  rw [List.getElem?_eq_getElem (by omega)] at e0
  obtain ⟨z0, hz0⟩ : ∃ z, (stC p)[k * 3]'(by omega) = z := ⟨_, rfl⟩
  rw [hz0] at e0
  have s1 := (hown3.stored (k * 3) (.int .i64 1)).1
  have f1 := s1.frozenAt (k * 3 + 1)
  have e1 := s1.cellAt (k * 3 + 1) (by omega)
  rw [List.getElem?_eq_getElem (by rw [List.length_set]; omega)] at e1
  obtain ⟨z1, hz1⟩ : ∃ z, ((stC p).set (k * 3) (.int .i64 1))[k * 3 + 1]'(by rw [List.length_set]; omega) = z := ⟨_, rfl⟩
  rw [hz1] at e1
  have s2 := (s1.stored (k * 3 + 1) (.int .i64 g)).1
  have f2 := s2.frozenAt (k * 3 + 2)
  have e2 := s2.cellAt (k * 3 + 2) (by omega)
  rw [List.getElem?_eq_getElem (by rw [List.length_set, List.length_set]; omega)] at e2
  obtain ⟨z2, hz2⟩ : ∃ z, (((stC p).set (k * 3) (.int .i64 1)).set (k * 3 + 1) (.int .i64 g))[k * 3 + 2]'(by rw [List.length_set, List.length_set]; omega) = z := ⟨_, rfl⟩
  rw [hz2] at e2
  have s3 := (s2.stored (k * 3 + 2) (.int .i64 0)).1
  have e3 := stC_set p (1, g, 0) k
  dsimp only at e3
  rw [e3] at s3
  have HS3 := hid s3
  have HBX := hid (show Below w2.heap.size w2 (((w3.setCell ⟨c, k * 3, none⟩ (.int .i64 1)).setCell ⟨c, k * 3 + 1, none⟩ (.int .i64 g)).setCell ⟨c, k * 3 + 2, none⟩ (.int .i64 0)) from ((hb3.setCell (p := ⟨c, k * 3, none⟩) hc0 _).setCell (p := ⟨c, k * 3 + 1, none⟩) hc0 _).setCell (p := ⟨c, k * 3 + 2, none⟩) hc0 _)
  clear hown3 s1 s2 s3 e3 hz0 hz1 hz2 hlen hb3 HCL
  go_wp2_with fail
  obtain ⟨X, hX⟩ : ∃ X, ((w3.setCell ⟨c, k * 3, none⟩ (.int .i64 1)).setCell ⟨c, k * 3 + 1, none⟩ (.int .i64 g)).setCell ⟨c, k * 3 + 2, none⟩ (.int .i64 0) = X := ⟨_, rfl⟩
  rw [hX] at HS3 HBX ⊢
  have HBX2 := hid (HB2.out.trans (HBX.out.mono HB2.out.size))
  have hcl : (cutS p k g).length = m + 1 := by unfold cutS; rw [List.length_set, HM.out]
  have HSC : Hid (StepsAt X (.slice (some ⟨c, 0, none⟩) (m + 1) cap) (cutS p k g)) := hid (by
    have h := RowK.of_owns HS3.out (by omega)
    unfold StepsAt
    rw [hcl]
    exact h)
  have HT1 := hid (short_trimmed g (.slice pa (k + 1) pc) (p.take (k + 1)) X (StepsAt.take (by have h := HP.out.below HBX2.out; rw [HM.out] at h; exact h) (k + 1) (by rw [HM.out]; omega)) HGB.out)
  clear hX HBX HS3 f0 f1 f2 e0 e1 e2
  refine HT1.out.mono ?_
  rintro e w5 ⟨u5, rfl, hu5, hb5⟩
  have HU5 := hid hu5
  have HB5 := hid (HBX2.out.trans (hb5.mono HBX2.out.size))
  have HT2 := hid (short_trimmed (g + 1) (.slice (some ⟨c, 0, none⟩) (m + 1) cap) (cutS p k g) w5 (HSC.out.below hb5) HCV.out)
  obtain ⟨a5, c5, rfl, -⟩ := hu5.open
  clear hu5 hb5 HT1 HSC
  go_wp2_with fail
  refine HT2.out.mono ?_
  rintro e w6 ⟨u6, rfl, hu6, hb6⟩
  have HU6 := hid hu6
  have HB6 := hid (HB5.out.trans (hb6.mono HB5.out.size))
  have HU5' := hid (HU5.out.below hb6)
  obtain ⟨a6, c6, rfl, -⟩ := hu6.open
  clear hu6 hb6 HT2 HU5
  go_wp2
  go_ret3
  exact ⟨_, _, rfl, HU5'.out, HU6.out, HB6.out⟩
end Go.Proofs.YtmpjaakkjhmpmaaGreatDoor
namespace Go.Proofs.YtmpjaakkjhmpmaaGreatDoor
open Go Go.RowKit
def sC7 : Sg := [(⟨#[67]⟩, 2)]
def g70 : List Int := [0, -1, 0, -2, -1]
def g71 : List Int := [0, 0, -1, 0, -2, -3, 0, 0, -1, -2, 0, -1, -3]
def m71 : List Int := [0, 0, -1, -2, 0, -1, -1]
def m72 : List Int := [0, -1, -1]
def p7 : List St := [(1, 1, 0), (1, 0, 0), (1, 0, 0), (2, 0, 1), (2, 3, 2)]
def l7 : List (List Int) := [g71, g70, g70, m71, m72]
def q7 : List St := [(1, 1, 0), (1, 0, 0), (2, 0, 1), (2, 2, 1)]
def r7 : List St := [(1, 0, 0), (1, 2, 0), (2, 1, 0)]
theorem isC7 {q : Int} {x y : List Int} (hx : IsT sC7 q x) (hy : IsT sC7 q y) : IsT sC7 q (0 :: (x ++ y)) := by
  have h : IsT sC7 q (((0 : Nat) : Int) :: ([x, y] : List (List Int)).flatten) := .app 0 [x, y] (by simp [sC7]) (by simp [sC7, arOf]) (by
    intro z hz
    simp at hz
    rcases hz with rfl | rfl
    · exact hx
    · exact hy)
  simpa using h
theorem noreach7 {m : MM} {t : List Int} {v : Int} (h : ∀ n ∈ t, n ≠ v ∧ m n = none) : ¬ Reach m t v := by
  intro H
  cases H with
  | here _ _ h1 _ => exact (h v h1).1 rfl
  | step _ _ k p g1 g2 g3 _ => rw [(h k g1).2] at g3; cases g3
theorem sg7 : signB sC7 = true := by decide +kernel
theorem mgu71 : Mgu sC7 [0, -1, 0, -2, -3] [0, -13, 0, -14, -13] (updM (updM (updM noM (-3) [-13]) (-2) [-14]) (-1) [-13]) := by
  have v : ∀ n : Int, -24 ≤ n → n < 0 → IsT sC7 24 [n] := fun n h h' => .var _ h h'
  have hA2 : IsT sC7 24 [0, -2, -3] := isC7 (v (-2) (by omega) (by omega)) (v (-3) (by omega) (by omega))
  have hB2 : IsT sC7 24 [0, -14, -13] := isC7 (v (-14) (by omega) (by omega)) (v (-13) (by omega) (by omega))
  have hA : IsT sC7 24 [0, -1, 0, -2, -3] := isC7 (v (-1) (by omega) (by omega)) hA2
  have hB : IsT sC7 24 [0, -13, 0, -14, -13] := isC7 (v (-13) (by omega) (by omega)) hB2
  have h0 := UInv.start hA hB (by simp) (by simp)
  have h3 := (UInv.args sg7 (L := []) (x := [0, -1, 0, -2, -3]) (y := [0, -13, 0, -14, -13]) (c := 0) (ars := [[-1], [0, -2, -3]]) (bs := [[-13], [0, -14, -13]]) h0 (.refl hA (by simp)) (.refl hB (by simp)) (by simp [arOf, sC7]) (by simp [arOf, sC7])
    (by intro z hz; simp at hz; rcases hz with rfl | rfl <;> first | exact v (-1) (by omega) (by omega) | exact hA2) (by intro z hz; simp at hz; rcases hz with rfl | rfl <;> first | exact v (-13) (by omega) (by omega) | exact hB2)).1
  have h4 := (UInv.args sg7 (L := [([-1], [-13])]) (x := [0, -2, -3]) (y := [0, -14, -13]) (c := 0) (ars := [[-2], [-3]]) (bs := [[-14], [-13]]) h3 (.refl hA2 (by simp)) (.refl hB2 (by simp)) (by simp [arOf, sC7]) (by simp [arOf, sC7])
    (by intro z hz; simp at hz; rcases hz with rfl | rfl <;> first | exact v (-2) (by omega) (by omega) | exact v (-3) (by omega) (by omega)) (by intro z hz; simp at hz; rcases hz with rfl | rfl <;> first | exact v (-14) (by omega) (by omega) | exact v (-13) (by omega) (by omega))).1
  have h5 := (UInv.bind (L := [([-1], [-13]), ([-2], [-14])]) (x := [-3]) (y := [-13]) (v := -3) (q := [-13]) h4 (Or.inl ⟨.refl (v _ (by omega) (by omega)) (by simp), .refl (v _ (by omega) (by omega)) (by simp)⟩) (by omega) rfl (noreach7 (by simp [noM]))).1
  have h6 := (UInv.bind (L := [([-1], [-13])]) (x := [-2]) (y := [-14]) (v := -2) (q := [-14]) h5 (Or.inl ⟨.refl (v _ (by omega) (by omega)) (by simp), .refl (v _ (by omega) (by omega)) (by simp)⟩) (by omega) (by simp [updM, noM]) (noreach7 (by simp [updM, noM]))).1
  have h7 := (UInv.bind (L := []) (x := [-1]) (y := [-13]) (v := -1) (q := [-13]) h6 (Or.inl ⟨.refl (v _ (by omega) (by omega)) (by simp), .refl (v _ (by omega) (by omega)) (by simp)⟩) (by omega) (by simp [updM, noM]) (noreach7 (by simp [updM, noM]))).1
  exact h7.done
theorem mgu72 : Mgu sC7 [0, -1, -2] [0, -13, 0, -14, -13] (updM (updM noM (-2) [0, -14, -13]) (-1) [-13]) := by
  have v : ∀ n : Int, -24 ≤ n → n < 0 → IsT sC7 24 [n] := fun n h h' => .var _ h h'
  have hB2 : IsT sC7 24 [0, -14, -13] := isC7 (v (-14) (by omega) (by omega)) (v (-13) (by omega) (by omega))
  have hA : IsT sC7 24 [0, -1, -2] := isC7 (v (-1) (by omega) (by omega)) (v (-2) (by omega) (by omega))
  have hB : IsT sC7 24 [0, -13, 0, -14, -13] := isC7 (v (-13) (by omega) (by omega)) hB2
  have h0 := UInv.start hA hB (by simp) (by simp)
  have h3 := (UInv.args sg7 (L := []) (x := [0, -1, -2]) (y := [0, -13, 0, -14, -13]) (c := 0) (ars := [[-1], [-2]]) (bs := [[-13], [0, -14, -13]]) h0 (.refl hA (by simp)) (.refl hB (by simp)) (by simp [arOf, sC7]) (by simp [arOf, sC7])
    (by intro z hz; simp at hz; rcases hz with rfl | rfl <;> first | exact v (-1) (by omega) (by omega) | exact v (-2) (by omega) (by omega)) (by intro z hz; simp at hz; rcases hz with rfl | rfl <;> first | exact v (-13) (by omega) (by omega) | exact hB2)).1
  have h6 := (UInv.bind (L := [([-1], [-13])]) (x := [-2]) (y := [0, -14, -13]) (v := -2) (q := [0, -14, -13]) h3 (Or.inl ⟨.refl (v _ (by omega) (by omega)) (by simp), .refl hB2 (by simp)⟩) (by omega) rfl (noreach7 (by simp [noM]))).1
  have h7 := (UInv.bind (L := []) (x := [-1]) (y := [-13]) (v := -1) (q := [-13]) h6 (Or.inl ⟨.refl (v _ (by omega) (by omega)) (by simp), .refl (v _ (by omega) (by omega)) (by simp)⟩) (by omega) (by simp [updM, noM]) (noreach7 (by simp [updM, noM]))).1
  exact h7.done
theorem det71 : DetR sC7 g71 g70 (m71, 0) := by
  have v : ∀ n : Int, -12 ≤ n → n < 0 → IsT sC7 12 [n] := fun n h h' => .var _ h h'
  have ha : aparL g70 = [0, -13, 0, -14, -13] := by decide +kernel
  have hc : canonL (fw (updM (updM (updM noM (-3) [-13]) (-2) [-14]) (-1) [-13]) [0, 0, -1, -2, 0, -1, -3]) = m71 := by decide +kernel
  refine Or.inr ⟨by decide +kernel, by decide +kernel, Or.inr ⟨[0, -1, 0, -2, -3], [0, 0, -1, -2, 0, -1, -3], rfl, ?_, ?_, Or.inr ⟨_, by rw [ha]; exact mgu71, Or.inl ⟨by decide +kernel, by rw [hc]⟩⟩⟩⟩
  · exact isC7 (v (-1) (by omega) (by omega)) (isC7 (v (-2) (by omega) (by omega)) (v (-3) (by omega) (by omega)))
  · exact isC7 (isC7 (v (-1) (by omega) (by omega)) (v (-2) (by omega) (by omega))) (isC7 (v (-1) (by omega) (by omega)) (v (-3) (by omega) (by omega)))
theorem det72 : DetR sC7 m71 g70 (m72, 0) := by
  have v : ∀ n : Int, -12 ≤ n → n < 0 → IsT sC7 12 [n] := fun n h h' => .var _ h h'
  have ha : aparL g70 = [0, -13, 0, -14, -13] := by decide +kernel
  have hc : canonL (fw (updM (updM noM (-2) [0, -14, -13]) (-1) [-13]) [0, -1, -1]) = m72 := by decide +kernel
  refine Or.inr ⟨by decide +kernel, by decide +kernel, Or.inr ⟨[0, -1, -2], [0, -1, -1], rfl, ?_, ?_, Or.inr ⟨_, by rw [ha]; exact mgu72, Or.inl ⟨by decide +kernel, by rw [hc]⟩⟩⟩⟩
  · exact isC7 (v (-1) (by omega) (by omega)) (v (-2) (by omega) (by omega))
  · exact isC7 (v (-1) (by omega) (by omega)) (v (-1) (by omega) (by omega))
theorem can70 : canonL g70 = g70 := by decide +kernel
theorem can71 : canonL g71 = g71 := by decide +kernel
theorem run7 : RunR sC7 [g70, g71] p7 l7 0 := by
  refine ⟨fun i t h => ?_, Or.inl ⟨rfl, rfl⟩⟩
  match i, h with
  | 0, h =>
    obtain rfl : g71 = t := Option.some.inj h
    exact ⟨(1, 1, 0), rfl, by unfold sayR; rw [if_pos rfl]; exact congrArg (fun z => (z, (0 : Int))) can71.symm⟩
  | 1, h =>
    obtain rfl : g70 = t := Option.some.inj h
    exact ⟨(1, 0, 0), rfl, by unfold sayR; rw [if_pos rfl]; exact congrArg (fun z => (z, (0 : Int))) can70.symm⟩
  | 2, h =>
    obtain rfl : g70 = t := Option.some.inj h
    exact ⟨(1, 0, 0), rfl, by unfold sayR; rw [if_pos rfl]; exact congrArg (fun z => (z, (0 : Int))) can70.symm⟩
  | 3, h =>
    obtain rfl : m71 = t := Option.some.inj h
    exact ⟨(2, 0, 1), rfl, by unfold sayR; rw [if_neg (by decide)]; exact det71⟩
  | 4, h =>
    obtain rfl : m72 = t := Option.some.inj h
    exact ⟨(2, 3, 2), rfl, by unfold sayR; rw [if_neg (by decide)]; exact det72⟩
  | i + 5, h => simp [l7] at h
theorem said7 : SaidQ sC7 [g70, g71] p7 l7 0 := Or.inr ⟨by decide +kernel, l7, 0, run7, Or.inl ⟨rfl, rfl, rfl⟩⟩
theorem mrg7 : mrgP p7 l7 = q7 := by decide +kernel
theorem tim7 : timL q7 = [1, 2, 1, 1] := by decide +kernel
theorem timE7 : timE 2 q7 = 0 := by decide +kernel
theorem cutE7 : cutE 2 q7 2 = 0 := by decide +kernel
theorem cutA7 : trimL (q7.take 3) = q7.take 3 := by decide +kernel
theorem cutB7 : trimL (cutS q7 2 2) = r7 := by decide +kernel
end Go.Proofs.YtmpjaakkjhmpmaaGreatDoor
namespace Go.Proofs.YtmpjaakkjhmpmaaGreatDoor
open Go Go.RowKit Go.Maps Go.Shelf
attribute [local go_sem] Oper.semAt_some
theorem cell3_new7 (w : World) (a b c : Value) (T : TypeId) : (w.alloc (.cells #[a, b, c] T)).cell? ⟨w.heap.size, 0, none⟩ = some a ∧ (w.alloc (.cells #[a, b, c] T)).cell? ⟨w.heap.size, 1, none⟩ = some b ∧ (w.alloc (.cells #[a, b, c] T)).cell? ⟨w.heap.size, 2, none⟩ = some c := by
  refine ⟨?_, ?_, ?_⟩ <;> rw [World.cell?_alloc_new] <;> rfl
end Go.Proofs.YtmpjaakkjhmpmaaGreatDoor
