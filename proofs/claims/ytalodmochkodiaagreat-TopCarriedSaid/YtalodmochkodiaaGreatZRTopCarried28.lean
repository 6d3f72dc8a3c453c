/-
  WHAT IT HOLDS: contracts of open, named, Find of package deps, and how an opened library lies. Conditions: the arguments read as data; small signs, small libraries.
  WHAT IT HOLDS: contracts of Has, Index, ValidEntry, Valid of the reference of layer 6, of ValidProof of the reference of layer 4 and IsCanonical of the reference of layer 1. Conditions: the arguments read as data; small signs, small libraries.
  WHAT IT HOLDS: contracts of ValidEntry and Valid of the reference of layer 6. Conditions: the arguments read as data; small signs, small libraries.
-/
import Derived.Deep.RegionHeld3
import Derived.BigQuiet
import Derived.Test.YtalodmochkodiaaGreatZRTopCarried27
import Derived.Test.YtalodmochkodiaaGreatZRTopCarried14
namespace Go.Proofs.YtalodmochkodiaaGreat
open Go Go.RowKit Go.Maps
theorem idxN_step {l : List En} (h : (l.map En.name).Nodup) {k : Nat} (hk : k < l.length) : (fun y => if y = l[k].name then some k else idxN (l.take k) y) = idxN (l.take (k + 1)) ∧ idxN (l.take k) l[k].name = none := by
  have hno : idxN (l.take k) l[k].name = none := by
    unfold idxN
    rw [List.findIdx?_eq_none_iff]
    intro x hx
    obtain ⟨y, hy, rfl⟩ := List.mem_map.1 hx
    obtain ⟨j, hj, rfl⟩ := List.getElem_of_mem hy
    have hj' : j < k := by have := hj; rw [List.length_take] at this; omega
    have := List.pairwise_iff_getElem.1 h j k (by simp; omega) (by simpa using hk) hj'
    simpa using this
  refine ⟨?_, hno⟩
  funext y
  unfold idxN at hno ⊢
  rw [List.take_succ_eq_append_getElem hk, List.map_append, List.findIdx?_append]
  by_cases e : y = l[k].name
  · subst e
    rw [hno, if_pos rfl]
    have : (l.take k).length = k := by rw [List.length_take]; omega
    simp [List.findIdx?_cons]
    omega
  · rw [if_neg e]
    cases h1 : List.findIdx? (fun x => decide (x = y)) ((l.take k).map En.name) with
    | some i => simp
    | none =>
      have e' : ¬ l[k].name = y := fun h => e h.symm
      simp [List.findIdx?_cons, e']
abbrev LMap (w : World) (b n : Nat) (m : Nm → Option Nat) : Prop := MapK Tryz.prog 9 Value.string (fun i : Nat => Value.int .i64 i) w b n m
theorem lmap_made (w : World) (l : List En) : LMap (w.alloc (.map #[] 0)) w.heap.size 0 (idxN (l.take 0)) := by
  rw [show idxN (l.take 0) = fun _ => none from funext fun x => by simp [idxN]]
  exact MapK.made _ _ _ _ w
/-- an opened library: its sign, its entries, and where each name is. -/
def LibAt (w : World) (p : Nat) (vs vl : Value) (l : List En) : Prop :=
  w.cell? ⟨p, 0, none⟩ = some vs ∧ w.cell? ⟨p, 1, none⟩ = some vl ∧ ∃ b, w.cell? ⟨p, 2, none⟩ = some (.map (some b)) ∧ LMap w b l.length (idxN l)
theorem LibAt.below {w w' : World} {p : Nat} {vs vl : Value} {l : List En} (h : LibAt w p vs vl l) (hb : Below w.heap.size w w') : LibAt w' p vs vl l := by
  obtain ⟨c0, c1, b, c2, hm⟩ := h
  exact ⟨(hb.cell (World.block_lt_of_cell? _ _ c0)).trans c0, (hb.cell (World.block_lt_of_cell? _ _ c1)).trans c1, b, (hb.cell (World.block_lt_of_cell? _ _ c2)).trans c2, hm.belowS hb⟩
theorem box3l (w : World) (x0 x1 x2 : Value) (t : TypeId) : (w.alloc (.cells #[x0, x1, x2] t)).cell? ⟨w.heap.size, 0, none⟩ = some x0 ∧ (w.alloc (.cells #[x0, x1, x2] t)).cell? ⟨w.heap.size, 1, none⟩ = some x1 ∧ (w.alloc (.cells #[x0, x1, x2] t)).cell? ⟨w.heap.size, 2, none⟩ = some x2 := by
  refine ⟨?_, ?_, ?_⟩ <;> rw [World.cell?_alloc_new] <;> rfl
set_option maxHeartbeats 2000000 in
set_option maxRecDepth 100000 in
theorem deps_open (vs vl : Value) (s : Sg) (l : List En) (w : World) (hs : SignAt w vs s) (hl : EntsAt w vl l) (hs1 : s.length ≤ 1000) (hl1 : l.length ≤ 1000) :
    Calls Tryz.prog 142 #[vs, vl] w fun e w' => Below w.heap.size w w' ∧ ((libB s l = false ∧ e = .returned (.tuple #[.pointer none, .int .i64 1])) ∨
      (libB s l = true ∧ ∃ p, e = .returned (.tuple #[.pointer (some ⟨p, 0, none⟩), .int .i64 0]) ∧ LibAt w' p vs vl l)) := by
  have HV := hid (deps_Valid vs vl s l w hs hl hs1 hl1)
  obtain ⟨sa, sc, rfl, -⟩ := hs.open
  obtain ⟨la, lc, rfl, -, ll, -, HC⟩ := hl.open
  have HC' := hid HC
  clear HC hl hs
  cases g : libB s l
  · rw [g] at HV
    go_enter Tryz.func142, Tryz.ntmps142
    go_wp2_with fail
    refine HV.out.mono ?_
    rintro e w1 ⟨rfl, hb1⟩
    go_wp2
    go_ret2
    exact ⟨hb1, Or.inl ⟨by simp, rfl⟩⟩
  · rw [g] at HV
    have HND := hid (libB_iff.1 g).nd
    clear g
    go_enter Tryz.func142, Tryz.ntmps142
    go_wp2_with fail
    refine HV.out.mono ?_
    rintro e w1 ⟨rfl, hb1⟩
    have hmm := @run_makeMap Tryz.prog
    have hm0 := hid ((lmap_made w1 l).alloc (.cells #[.slice sa s.length sc, .slice la l.length lc, .map (some w1.heap.size)] 222))
    have hbx := box3l (w1.alloc (.map #[] 0)) (.slice sa s.length sc) (.slice la l.length lc) (.map (some w1.heap.size)) 222
    simp only [World.size_alloc] at hbx
    have hB0 := hid (show Below w1.heap.size w1 ((w1.alloc (.map #[] 0)).alloc (.cells #[.slice sa s.length sc, .slice la l.length lc, .map (some w1.heap.size)] 222)) from ((Below.refl _ _).alloc (Nat.le_refl _) _).alloc (by simp) _)
    have HB1 := hid hb1
    have HBX := hid hbx
    clear hbx hb1
    go_wp2
    clear hmm
    go_loopw [21] (fun kv wr => ∃ k : Nat, k ≤ l.length ∧ kv = .int .i64 k ∧ Below w1.heap.size w1 wr ∧ LMap wr w1.heap.size k (idxN (l.take k)) ∧ w1.heap.size + 1 < wr.heap.size ∧ wr.cell? ⟨w1.heap.size + 1, 0, none⟩ = some (.slice sa s.length sc) ∧ wr.cell? ⟨w1.heap.size + 1, 1, none⟩ = some (.slice la l.length lc) ∧ wr.cell? ⟨w1.heap.size + 1, 2, none⟩ = some (.map (some w1.heap.size))) (fun kv _ => l.length - (intOf kv).toNat)
    case atStart => exact ⟨0, by omega, rfl, hB0.out, hm0.out, by simp, HBX.out.1, HBX.out.2.1, HBX.out.2.2⟩
    case round =>
      clear hm0 hB0 HBX
      obtain ⟨k, hk, rfl, hb, hm, hsz, e0, e1, e2⟩ := hrel
      have hszb := hb.size
      by_cases hlt : k < l.length
      · obtain ⟨b, o, vS, vu, vp, rfl, c0, c1, c2, c3, c4, he⟩ := HC'.out k hlt
        have hbw := HB1.out.trans (hb.mono HB1.out.size)
        have he' := he.below hbw
        obtain ⟨xa, xc, rfl, -⟩ := he'.s.open
        obtain ⟨ua, uc, rfl, -⟩ := he'.u.open
        obtain ⟨pa, pc, rfl, -⟩ := he'.p.open
        have d0 := (hbw.cell (World.block_lt_of_cell? _ _ c0)).trans c0
        have d1 := (hbw.cell (World.block_lt_of_cell? _ _ c1)).trans c1
        have d2 := (hbw.cell (World.block_lt_of_cell? _ _ c2)).trans c2
        have d3 := (hbw.cell (World.block_lt_of_cell? _ _ c3)).trans c3
        have d4 := (hbw.cell (World.block_lt_of_cell? _ _ c4)).trans c4
        obtain ⟨hst, hno⟩ := idxN_step HND.out hlt
        have n1 := he'.n1
        obtain ⟨x, hx⟩ : ∃ x, l[k] = x := ⟨_, rfl⟩
        rw [hx] at d0 d1 d2 d3 d4 hst hno n1
        clear c0 c1 c2 c3 c4 he he' hx
        obtain ⟨W, hW⟩ : ∃ W, wr.alloc (.cells #[.string x.name, .string x.who, .slice xa x.says.length xc, .slice ua x.uses.length uc, .slice pa x.proof.length pc] 41) = W := ⟨_, rfl⟩
        have EB0 := EB.new wr x (.slice xa x.says.length xc) (.slice ua x.uses.length uc) (.slice pa x.proof.length pc) 41
        have hbr : Below wr.heap.size wr W := hW ▸ (Below.refl _ _).alloc (Nat.le_refl _) _
        rw [hW] at EB0
        have hbr' : Below wr.heap.size wr W.drew := below_drewN hbr 1
        have hM1 := hm.belowS hbr'
        obtain ⟨w5, hup0, hM5, hg5⟩ := hM1.run_update (string_keyed Tryz.underlying9) ek_string_inj Tryz.underlying220 x.name k (str_key n1)
        have hup : (Instr.mapUpdate 220 (.map (some w1.heap.size)) (.string x.name) (.int .i64 k)).run Tryz.prog W.drew = .ok () w5 := hup0
        rw [hno, hst] at hM5
        have f0 := hM1.cell rfl hg5 ((hbr'.cell (World.block_lt_of_cell? _ _ e0)).trans e0)
        have f1 := hM1.cell rfl hg5 ((hbr'.cell (World.block_lt_of_cell? _ _ e1)).trans e1)
        have f2 := hM1.cell rfl hg5 ((hbr'.cell (World.block_lt_of_cell? _ _ e2)).trans e2)
        have hB5 := (hb.trans (hbr'.mono hszb)).grown hg5 (hb.trans (hbr'.mono hszb)).size (fun q hq => by cases hq; exact Nat.le_refl _)
        have hz5 : w1.heap.size + 1 < w5.heap.size := by have := hbr'.size; have := hg5.size; omega
        have g0 := EB0.c0
        have g2 := (hbr.cell (World.block_lt_of_cell? _ _ e2)).trans e2
        have hwe : wr.alloc (.cells #[.string x.name, .string x.who, .slice xa x.says.length xc, .slice ua x.uses.length uc, .slice pa x.proof.length pc] 41) = W := hW
        have HWE := hid hwe
        have F := hid (And.intro f0 (And.intro f1 f2))
        have HM5 := hid hM5
        have HB5 := hid hB5
        have HZ5 := hid hz5
        have g0' : W.drew.cell? ⟨wr.heap.size, 0, none⟩ = some (.string x.name) := g0
        have g2' : W.drew.cell? ⟨w1.heap.size + 1, 2, none⟩ = some (.map (some w1.heap.size)) := g2
        have i0 : w5.cell? ⟨wr.heap.size, 0, none⟩ = some (.string x.name) := hM1.cell rfl hg5 g0'
        clear hW EB0 hbr hbr' hM1 hup0 hM5 f0 f1 hB5 hz5 hst hno hwe hm hb hbw hg5
        go_wp2_with fail
        rw [HWE.out]
        go_region_held3 (fun w' => w'.cell? ⟨wr.heap.size, 0, none⟩ = some (.string x.name) ∧ w'.cell? ⟨w1.heap.size + 1, 2, none⟩ = some (.map (some w1.heap.size))) (first | exact ⟨by assumption, by assumption⟩ | go_keep) (fail)
        go_wp2
        go_roundw
        case rel => exact ⟨k + 1, by omega, by go_num, HB5.out, by simpa using HM5.out, HZ5.out, F.out.1, F.out.2.1, F.out.2.2⟩
        case measure => simp [intOf]; omega
      · have hkl : k = l.length := by omega
        subst hkl
        rw [List.take_of_length_le (Nat.le_refl _)] at hm
        have HLA : Hid (LibAt wr (w1.heap.size + 1) (.slice sa s.length sc) (.slice la l.length lc) l) := hid ⟨e0, e1, _, e2, hm⟩
        have HB := hid (HB1.out.trans (hb.mono HB1.out.size))
        clear e0 e1 e2 hm hb
        go_wp2
        go_ret2
        exact ⟨HB.out, Or.inr ⟨by simp, _, rfl, HLA.out⟩⟩
theorem zero_intD (w : World) : (zeroValue 3).run Tryz.prog w = .ok (.int .i64 0) w := by kernel_rfl
set_option maxHeartbeats 1000000 in
theorem deps_named (vs vl : Value) (s : Sg) (l : List En) (n : Nm) (w : World) (hs : SignAt w vs s) (hl : EntsAt w vl l) (hs1 : s.length ≤ 1000) (hl1 : l.length ≤ 1000) (hn : n.size ≤ 140737488355328) :
    Calls Tryz.prog 309 #[vs, vl, .string n] w fun e w' => Below w.heap.size w w' ∧ ((libB s l = false ∧ e = .returned (.tuple #[.pointer none, .int .i64 0, .int .i64 1])) ∨
      (libB s l = true ∧ idxN l n = none ∧ e = .returned (.tuple #[.pointer none, .int .i64 0, .int .i64 5])) ∨
      (libB s l = true ∧ ∃ (p i : Nat), idxN l n = some i ∧ e = .returned (.tuple #[.pointer (some ⟨p, 0, none⟩), .int .i64 i, .int .i64 0]) ∧ LibAt w' p vs vl l)) := by
  have HO := hid (deps_open vs vl s l w hs hl hs1 hl1)
  clear hs hl
  go_enter Tryz.func309, Tryz.ntmps309
  go_wp2_with fail
  refine HO.out.mono ?_
  rintro e w1 ⟨hb1, ⟨hl0, rfl⟩ | ⟨hl0, p, rfl, c0, c1, b, c2, hm⟩⟩
  · have H0 := hid hl0
    clear hl0
    go_wp2
    go_ret3
    exact ⟨hb1, Or.inl ⟨H0.out, rfl⟩⟩
  · have H0 := hid hl0
    have HLA : Hid (LibAt w1 p vs vl l) := hid ⟨c0, c1, b, c2, hm⟩
    clear hl0 c0 c1
    cases hi : idxN l n with
    | none =>
      have HI := hid hi
      clear hi
      go_wp2_with (at_lookup; refine wpList_lookup_mapK rfl _ _ 220 true rfl (string_keyed Tryz.underlying9) ek_string_inj Tryz.underlying220 (zero_intD _) rfl hm n rfl (str_key hn) (.tuple #[.int .i64 0, .bool false]) (by rw [HI.out]; rfl) ?_)
      go_ret3
      exact ⟨hb1, Or.inr (Or.inl ⟨H0.out, HI.out, rfl⟩)⟩
    | some i =>
      have HI := hid hi
      clear hi
      go_wp2_with (at_lookup; refine wpList_lookup_mapK rfl _ _ 220 true rfl (string_keyed Tryz.underlying9) ek_string_inj Tryz.underlying220 (zero_intD _) rfl hm n rfl (str_key hn) (.tuple #[.int .i64 i, .bool true]) (by rw [HI.out]; rfl) ?_)
      go_ret3
      exact ⟨hb1, Or.inr (Or.inr ⟨H0.out, p, i, HI.out, rfl, HLA.out⟩)⟩
/-- what Find answers. -/
def findR (s : Sg) (l : List En) (n : Nm) : Int × Int := if libB s l then (match idxN l n with | some i => ((i : Int), 0) | none => (0, 5)) else (0, 1)
theorem deps_Find (vs vl : Value) (s : Sg) (l : List En) (n : Nm) (w : World) (hs : SignAt w vs s) (hl : EntsAt w vl l) (hs1 : s.length ≤ 1000) (hl1 : l.length ≤ 1000) (hn : n.size ≤ 140737488355328) :
    Calls Tryz.prog 245 #[vs, vl, .string n] w fun e w' => e = .returned (.tuple #[.int .i64 (findR s l n).1, .int .i64 (findR s l n).2]) ∧ Below w.heap.size w w' := by
  have HN := hid (deps_named vs vl s l n w hs hl hs1 hl1 hn)
  clear hs hl
  go_enter Tryz.func245, Tryz.ntmps245
  go_wp2_with fail
  refine HN.out.mono ?_
  rintro e w1 ⟨hb1, ⟨h0, rfl⟩ | ⟨h0, hi, rfl⟩ | ⟨h0, p, i, hi, rfl, -⟩⟩
  · have HF : Hid (findR s l n = (0, 1)) := hid (by unfold findR; rw [h0]; rfl)
    clear h0
    go_wp2
    go_ret2
    exact ⟨by rw [HF.out]; rfl, hb1⟩
  · have HF : Hid (findR s l n = (0, 5)) := hid (by unfold findR; rw [h0, hi]; rfl)
    clear h0 hi
    go_wp2
    go_ret2
    exact ⟨by rw [HF.out]; rfl, hb1⟩
  · have HF : Hid (findR s l n = ((i : Int), 0)) := hid (by unfold findR; rw [h0, hi]; rfl)
    clear h0 hi
    go_wp2
    go_ret2
    exact ⟨by rw [HF.out]; rfl, hb1⟩
end Go.Proofs.YtalodmochkodiaaGreat
namespace Go.Proofs.YtalodmochkodiaaGreat
open Go Go.RowKit Go.Maps
theorem TxtsAt.take {w : World} {a : Option Addr} {n cap : Nat} {l : List Nm} (h : TxtsAt w (.slice a n cap) l) (k : Nat) (hk : k ≤ l.length) : TxtsAt w (.slice a k cap) (l.take k) := by
  obtain ⟨⟨h1, a', cap', h2, h3, h4, h5, h6⟩, hs⟩ := h
  simp only [Value.slice.injEq] at h2
  obtain ⟨rfl, rfl, rfl⟩ := h2
  have hlk : (l.take k).length = k := by rw [List.length_take]; omega
  refine ⟨⟨by simp, a, cap, by rw [hlk], by omega, by omega, h5, fun j u hj => ?_⟩, fun x hx => hs x (List.mem_of_mem_take hx)⟩
  refine h6 j u ?_
  rw [List.map_take, List.getElem?_take] at hj
  split at hj
  · exact hj
  · cases hj
theorem hasN_nd {l : List Nm} (h : ∀ j, j < l.length → hasN (l.take j) (l.getD j ByteArray.empty) = false) : l.Nodup := by
  rw [List.Nodup, List.pairwise_iff_getElem]
  intro i j hi hj hij
  have h1 := hasN_no.1 (h j hj)
  rw [List.getD_eq_getElem?_getD, List.getElem?_eq_getElem (by omega)] at h1
  simp at h1
  intro e
  refine h1 ?_
  rw [← e]
  exact List.mem_take_iff_getElem.2 ⟨i, by omega, rfl⟩
theorem hasN_dup {l : List Nm} {j : Nat} (hj : j < l.length) (h : hasN (l.take j) l[j] = true) : ¬ l.Nodup := by
  intro hn
  obtain ⟨i, hi, e⟩ := List.mem_take_iff_getElem.1 (hasN_iff.1 h)
  have := List.pairwise_iff_getElem.1 hn i j (by omega) hj (by omega)
  exact this e
theorem idxN_all {l : List En} {n : Nm} (h : ∀ x ∈ l, x.name ≠ n) : idxN l n = none := by
  unfold idxN
  rw [List.findIdx?_eq_none_iff]
  intro x hx
  obtain ⟨y, hy, rfl⟩ := List.mem_map.1 hx
  simpa using h y hy
theorem ref6_Has (v : Value) (l : List Nm) (x : Nm) (w : World) (hv : TxtsAt w v l) :
    Calls Tryz.prog 92 #[v, .string x] w fun e w' => e = .returned (.bool (hasN l x)) ∧ w = w' := by
  obtain ⟨a, cap, rfl, h1, hl, h3, HC⟩ := hv.open
  have HC' := hid HC
  clear HC hv h3
  go_enter Tryz.func92, Tryz.ntmps92
  go_wp2
  go_loop [5] (fun i => ∃ k : Nat, k ≤ l.length ∧ i = .int .i64 k ∧ ∀ j (hj : j < l.length), j < k → l[j] ≠ x) (fun i => l.length - (intOf i).toNat)
  case atStart => exact ⟨0, by omega, rfl, by simp⟩
  case round =>
    obtain ⟨k, hk, rfl, hrel⟩ := hrel
    have HR := hid hrel
    clear hrel
    by_cases hlt : k < l.length
    · obtain ⟨b, o, rfl, hcell⟩ := HC'.out k hlt
      have HM := hid (List.getElem_mem hlt)
      obtain ⟨y, hy⟩ : ∃ y, l[k] = y := ⟨_, rfl⟩
      have HY := hid hy
      rw [hy] at hcell HM
      clear hy
      by_cases h2 : y = x
      · have HF : Hid (hasN l x = true) := hid (hasN_iff.2 (h2 ▸ HM.out))
        have q2 : (y.toList == x.toList) = true := by rw [bytes_eq]; simpa using h2
        clear h2
        go_wp2
        go_ret
        exact ⟨ret_bool HF.out.symm, rfl⟩
      · have H2 := hid h2
        have q2 : (y.toList == x.toList) = false := by rw [bytes_eq]; simpa using h2
        clear h2
        go_wp2
        go_round
        case rel =>
          refine ⟨k + 1, by omega, by go_num, fun j hj hjk => ?_⟩
          by_cases hjk' : j = k
          · subst hjk'; rw [HY.out]; exact H2.out
          · exact HR.out j hj (by omega)
        case measure => simp [intOf]; omega
    · have HF : Hid (hasN l x = false) := hid (hasN_no.2 fun h => by
        obtain ⟨j, hj, e⟩ := List.getElem_of_mem h
        exact HR.out j hj (by omega) e)
      go_wp2
      go_ret
      exact ⟨ret_bool HF.out.symm, rfl⟩
theorem ref6_Index (v : Value) (l : List En) (x : Nm) (w : World) (hv : EntsAt w v l) :
    Calls Tryz.prog 71 #[v, .string x] w fun e w' => e = .returned (.int .i64 (idxI l x)) ∧ w = w' := by
  obtain ⟨a, cap, rfl, h1, hl, h3, HC⟩ := hv.open
  have HC' := hid HC
  clear HC hv h3
  go_enter Tryz.func71, Tryz.ntmps71
  go_wp2
  go_loop [5] (fun i => ∃ k : Nat, k ≤ l.length ∧ i = .int .i64 k ∧ ∀ j (hj : j < l.length), j < k → l[j].name ≠ x) (fun i => l.length - (intOf i).toNat)
  case atStart => exact ⟨0, by omega, rfl, by simp⟩
  case round =>
    obtain ⟨k, hk, rfl, hrel⟩ := hrel
    have HR := hid hrel
    clear hrel
    by_cases hlt : k < l.length
    · obtain ⟨b, o, _, _, _, rfl, hcell, -⟩ := HC'.out k hlt
      have HAT : Hid (l[k].name = x → idxI l x = k) := hid fun e => by
        have := idxN_at hlt (fun j hj => by rw [e]; exact HR.out j (by omega) hj)
        rw [e] at this
        unfold idxI
        rw [this]
      obtain ⟨y, hy⟩ : ∃ y, l[k].name = y := ⟨_, rfl⟩
      have HY := hid hy
      rw [hy] at hcell HAT
      clear hy
      by_cases h2 : y = x
      · have HF := hid (HAT.out h2)
        have q2 : (y.toList == x.toList) = true := by rw [bytes_eq]; simpa using h2
        clear h2
        go_wp2
        go_ret
        exact ⟨ret_int HF.out.symm, rfl⟩
      · have H2 := hid h2
        have q2 : (y.toList == x.toList) = false := by rw [bytes_eq]; simpa using h2
        clear h2
        go_wp2
        go_round
        case rel =>
          refine ⟨k + 1, by omega, by go_num, fun j hj hjk => ?_⟩
          by_cases hjk' : j = k
          · subst hjk'; rw [HY.out]; exact H2.out
          · exact HR.out j hj (by omega)
        case measure => simp [intOf]; omega
    · have HF : Hid (idxI l x = -1) := hid (by
        unfold idxI
        rw [idxN_all fun y hy => by
          obtain ⟨j, hj, e⟩ := List.getElem_of_mem hy
          rw [← e]
          exact HR.out j hj (by omega)])
      go_wp2
      go_ret
      exact ⟨ret_int HF.out.symm, rfl⟩
theorem ref1_IsCanonical (vs va : Value) (s : Sg) (a : List Int) (w : World) (hs : SignAt w vs s) (ra : Ints w va a) :
    Calls Tryz.prog 206 #[vs, va] w fun e w' => e = .returned (.bool (canB s a)) ∧ Below w.heap.size w w' := by
  cases h1 : termB s a
  · have HF : Hid (canB s a = false) := hid (by unfold canB; rw [h1]; rfl)
    go_enter Tryz.func206, Tryz.ntmps206
    go_wp2_with fail
    refine (ref1_Valid _ _ s a _ hs ra).mono ?_
    rintro e w1 ⟨rfl, n, rfl⟩
    rw [h1]
    go_wp2
    go_ret
    exact ⟨ret_bool HF.out.symm, below_self_drewN _ _⟩
  · have f4 := (termB_facts h1).2.2.2
    have HA := hid (termB_wf h1)
    have ha0 := (termB_T h1).ne
    have HL := hid (canonL_len a)
    have HF : Hid (canB s a = decide (canonL a = a)) := hid (by unfold canB; rw [h1]; rfl)
    have H1 := hid h1
    clear h1
    go_enter Tryz.func206, Tryz.ntmps206
    go_wp2_with fail
    refine (ref1_Valid _ _ s a _ hs ra).mono ?_
    rintro e w1 ⟨rfl, n, hw1⟩
    have hb1 : Below w.heap.size w w1 := hw1 ▸ below_self_drewN w n
    clear hw1
    rw [H1.out]
    go_wp2_with fail
    refine (ref1_Renamed _ a _ (ra.below hb1) ha0 (by omega) HA.out).mono ?_
    rintro e w3 ⟨u3, rfl, o3, hb4⟩
    have hb3 := hb1.trans (hb4.mono hb1.size)
    have r3 := Ints.of_owns o3 (by rw [HL.out]; omega)
    have HEQ := hid (ref1_Same u3 va (canonL a) a w3 r3 (ra.below hb3))
    clear o3 hb4 r3
    go_wp2_with fail
    refine HEQ.out.mono ?_
    rintro e w4 ⟨rfl, n, rfl⟩
    go_wp2
    go_ret
    exact ⟨ret_bool HF.out.symm, below_drewN hb3 n⟩
theorem ref4_within (n lo hi : Int) (w : World) :
    Calls Tryz.prog 272 #[.int .i64 n, .int .i64 lo, .int .i64 hi] w fun e w' => e = .returned (.bool (inB n lo hi)) ∧ w = w' := by
  unfold inB
  by_cases h1 : lo ≤ n
  · by_cases h2 : n ≤ hi
    · go_enter Tryz.func272, Tryz.ntmps272
      go_wp2
      go_ret
      exact ⟨by simp [h1, h2], rfl⟩
    · go_enter Tryz.func272, Tryz.ntmps272
      go_wp2
      go_ret
      exact ⟨by simp [h1, h2], rfl⟩
  · go_enter Tryz.func272, Tryz.ntmps272
    go_wp2
    go_ret
    exact ⟨ret_bool (by simp; omega), rfl⟩
theorem ref4_isCount (n : Int) (w : World) :
    Calls Tryz.prog 271 #[.int .i64 n] w fun e w' => e = .returned (.bool (inB n 0 60)) ∧ w = w' := by
  go_enter Tryz.func271, Tryz.ntmps271
  go_wp2_with (go_at_call 272; refine (ref4_within _ _ _ _).mono ?_; rintro e w' ⟨rfl, rfl⟩)
  go_ret
  exact ⟨rfl, rfl⟩
set_option maxHeartbeats 1000000 in
theorem ref4_stepRight (g k : Int) (x : St) (w : World) (hg : 0 ≤ g ∧ g ≤ 140737488355328) (hk : 0 ≤ k ∧ k ≤ 140737488355328) :
    Calls Tryz.prog 273 #[.int .i64 g, .agg #[.int .i64 x.1, .int .i64 x.2.1, .int .i64 x.2.2], .int .i64 k] w fun e w' => e = .returned (.bool (rightB g k x)) ∧ Below w.heap.size w w' := by
  obtain ⟨x0, x1, x2⟩ := x
  have hw1 : IntKind.i64.wrap (g - 1) = g - 1 := by rw [IntWalk.i64_in _ (by omega)]
  have hw2 : IntKind.i64.wrap (k - 1) = k - 1 := by rw [IntWalk.i64_in _ (by omega)]
  have hb1 : Below w.heap.size w (w.alloc (.cells #[.int .i64 x0, .int .i64 x1, .int .i64 x2] 123)) := (Below.refl _ _).alloc (Nat.le_refl _) _
  by_cases h1 : x0 = 1
  · subst h1
    cases hi : inB x1 0 (g - 1)
    · have hi' := hi
      go_enter Tryz.func273, Tryz.ntmps273
      go_wp2_with (go_at_call 272; refine (ref4_within _ _ _ _).mono ?_; rintro e w' ⟨rfl, rfl⟩)
      go_ret
      exact ⟨ret_bool (by simp [rightB, hi']), hb1⟩
    · have hi' := hi
      by_cases h2 : x2 = 0
      · subst h2
        go_enter Tryz.func273, Tryz.ntmps273
        go_wp2_with (go_at_call 272; refine (ref4_within _ _ _ _).mono ?_; rintro e w' ⟨rfl, rfl⟩)
        go_ret
        exact ⟨ret_bool (by simp [rightB, hi']), hb1⟩
      · have n2 : (x2 == 0) = false := by simpa using h2
        go_enter Tryz.func273, Tryz.ntmps273
        go_wp2_with (go_at_call 272; refine (ref4_within _ _ _ _).mono ?_; rintro e w' ⟨rfl, rfl⟩)
        go_ret
        exact ⟨ret_bool (by simp [rightB, hi', h2]), hb1⟩
  · have n1 : (x0 == 1) = false := by simpa using h1
    by_cases h3 : x0 = 2
    · subst h3
      cases hi : inB x1 0 (k - 1)
      · have hi' := hi
        go_enter Tryz.func273, Tryz.ntmps273
        go_wp2_with (go_at_call 272; refine (ref4_within _ _ _ _).mono ?_; rintro e w' ⟨rfl, rfl⟩)
        go_ret
        exact ⟨ret_bool (by simp [rightB, hi']), hb1⟩
      · have hi' := hi
        cases hj : inB x2 0 (k - 1)
        · have hj' := hj
          go_enter Tryz.func273, Tryz.ntmps273
          go_wp2_with (go_at_call 272; refine (ref4_within _ _ _ _).mono ?_; rintro e w' ⟨rfl, rfl⟩)
          go_ret
          exact ⟨ret_bool (by simp [rightB, hi', hj']), hb1⟩
        · have hj' := hj
          go_enter Tryz.func273, Tryz.ntmps273
          go_wp2_with (go_at_call 272; refine (ref4_within _ _ _ _).mono ?_; rintro e w' ⟨rfl, rfl⟩)
          go_ret
          exact ⟨ret_bool (by simp [rightB, hi', hj']), hb1⟩
    · have n3 : (x0 == 2) = false := by simpa using h3
      go_enter Tryz.func273, Tryz.ntmps273
      go_wp2_with (go_at_call 272; refine (ref4_within _ _ _ _).mono ?_; rintro e w' ⟨rfl, rfl⟩)
      go_ret
      exact ⟨ret_bool (by simp [rightB, h1, h3]), hb1⟩
set_option maxHeartbeats 2000000 in
theorem ref4_ValidProof (g : Int) (v : Value) (l : List St) (w : World) (hg : 0 ≤ g ∧ g ≤ 60) (hv : StepsAt w v l) :
    Calls Tryz.prog 207 #[.int .i64 g, v] w fun e w' => e = .returned (.bool (proofB g l)) ∧ Below w.heap.size w w' := by
  obtain ⟨a, cap, rfl, h1, h2, -, HC⟩ := hv.open
  have HC' := hid HC
  clear HC hv
  have hi : inB g 0 60 = true := inB_true.2 ⟨by omega, by omega⟩
  cases hl : inB l.length 1 60
  · have HF : Hid (proofB g l = false) := hid (by unfold proofB; rw [hl, Bool.and_false])
    go_enter Tryz.func207, Tryz.ntmps207
    go_wp2_with (first | (go_at_call 271; refine (ref4_isCount _ _).mono ?_; rintro e w' ⟨rfl, rfl⟩; rw [hi]) | (go_at_call 272; refine (ref4_within _ _ _ _).mono ?_; rintro e w' ⟨rfl, rfl⟩; rw [hl]))
    go_ret
    exact ⟨ret_bool HF.out.symm, Below.refl _ _⟩
  have HL := hid hl
  go_enter Tryz.func207, Tryz.ntmps207
  go_wp2_with (first | (go_at_call 271; refine (ref4_isCount _ _).mono ?_; rintro e w' ⟨rfl, rfl⟩; rw [hi]) | (go_at_call 272; refine (ref4_within _ _ _ _).mono ?_; rintro e w' ⟨rfl, rfl⟩; rw [hl]))
  clear hl
  go_loopw [5] (fun kv wr => ∃ k : Nat, k ≤ l.length ∧ kv = .int .i64 k ∧ Below w.heap.size w wr ∧ ∀ j (hj : j < l.length), j < k → rightB g j l[j] = true) (fun kv _ => l.length - (intOf kv).toNat)
  case atStart => exact ⟨0, by omega, rfl, Below.refl _ _, by simp⟩
  case round =>
    obtain ⟨k, hk, rfl, hb, hrel⟩ := hrel
    have HR := hid hrel
    have hsz := hb.size
    clear hrel
    by_cases hlt : k < l.length
    · obtain ⟨cb, co, rfl, c10, c20, c30⟩ := HC'.out k hlt
      have c1' := (hb.cell (World.block_lt_of_cell? _ _ c10)).trans c10
      have c2' := (hb.cell (World.block_lt_of_cell? _ _ c20)).trans c20
      have c3' := (hb.cell (World.block_lt_of_cell? _ _ c30)).trans c30
      have HNO := hid (fun hn => proofB_no (g := g) hlt hn)
      have HYES := hid (fun (h : rightB g k l[k] = true) => h)
      obtain ⟨x, hx⟩ : ∃ x, l[k] = x := ⟨_, rfl⟩
      rw [hx] at c1' c2' c3' HNO HYES
      have HX := hid hx
      obtain ⟨x0, x1, x2⟩ := x
      simp only at c1' c2' c3'
      clear c10 c20 c30 hx
      have HRT := hid (ref4_stepRight g k (x0, x1, x2) wr (by omega) (by omega))
      have HBS := hid hb
      cases hr : rightB g k (x0, x1, x2)
      · rw [hr] at HRT
        have HF := hid (HNO.out hr)
        clear hr hb
        go_wp2_with (go_at_call 273; refine HRT.out.mono ?_; rintro e w5 ⟨rfl, hb5⟩)
        go_ret
        exact ⟨ret_bool HF.out.symm, HBS.out.trans (hb5.mono HBS.out.size)⟩
      · rw [hr] at HRT
        have HRK := hid (HYES.out hr)
        clear hr hb
        go_wp2_with (go_at_call 273; refine HRT.out.mono ?_; rintro e w5 ⟨rfl, hb5⟩)
        go_roundw
        case rel =>
          refine ⟨k + 1, by omega, by go_num, HBS.out.trans (hb5.mono HBS.out.size), fun q hq hqk => ?_⟩
          by_cases hqq : q = k
          · subst hqq
            rw [HX.out]; exact HRK.out
          · exact HR.out q hq (by omega)
        case measure => simp [intOf]; omega
    · have hkl : k = l.length := by omega
      have HA : Hid (proofB g l = true) := hid (by rw [proofB_all fun q hq => HR.out q hq (by omega)]; exact HL.out)
      go_wp2
      go_ret
      exact ⟨ret_bool HA.out.symm, hb⟩
end Go.Proofs.YtalodmochkodiaaGreat
namespace Go.Proofs.YtalodmochkodiaaGreat
open Go Go.RowKit Go.Maps
set_option maxHeartbeats 4000000 in
set_option maxRecDepth 100000 in
theorem ref6_ValidEntry (vs vS vU vP : Value) (s : Sg) (x : En) (w : World) (hs : SignAt w vs s) (he : EntAt w vS vU vP x) (hs1 : s.length ≤ 1000) :
    Calls Tryz.prog 104 #[vs, .agg #[.string x.name, .string x.who, vS, vU, vP]] w fun e w' => e = .returned (.bool (entryB s x)) ∧ Below w.heap.size w w' := by
  obtain ⟨hS, hU, hP, n1, n2⟩ := he
  obtain ⟨ua, uc, rfl, ucap, ul, -, UC⟩ := hU.open
  obtain ⟨pa, pc, rfl, -, pl, -⟩ := hP.open
  have EB0 := EB.new w x vS (.slice ua x.uses.length uc) (.slice pa x.proof.length pc) 41
  have hb0 : Below w.heap.size w (w.alloc (.cells #[.string x.name, .string x.who, vS, .slice ua x.uses.length uc, .slice pa x.proof.length pc] 41)) := (Below.refl _ _).alloc (Nat.le_refl _) _
  have HU := hid hU
  have HP := hid hP
  have HS := hid hS
  have HSG := hid hs
  have UC' := hid UC
  have HEX : Hid (entryB s x = (nmB x.name && (nmB x.who && (canB s x.says && (decide (x.uses.length ≤ 12) && (decide x.uses.Nodup && (x.uses.all nmB && (if x.proof.length = 0 then decide (x.uses.length = 0) else proofB x.uses.length x.proof)))))))) := hid rfl
  have HB0 := hid hb0
  have HE0 := hid EB0
  clear hU hP hS hs hb0 EB0 UC
  cases g1 : nmB x.name
  · have HF : Hid (entryB s x = false) := hid (by rw [HEX.out, g1]; rfl)
    have G1 := hid g1
    clear g1
    go_enter Tryz.func104, Tryz.ntmps104
    go_wp2_with (go_at_call 77; refine (ref6_Name _ _ n1).mono ?_; rintro e w' ⟨rfl, rfl⟩; rw [G1.out])
    go_ret
    exact ⟨ret_bool HF.out.symm, HB0.out⟩
  cases g2 : nmB x.who
  · have HF : Hid (entryB s x = false) := hid (by rw [HEX.out, g2]; simp)
    have G1 := hid g1
    have G2 := hid g2
    clear g1 g2
    go_enter Tryz.func104, Tryz.ntmps104
    go_wp2_with fail
    refine (ref6_Name _ _ n1).mono ?_
    rintro e w' ⟨rfl, rfl⟩
    rw [G1.out]
    go_wp2_with fail
    refine (ref6_Name _ _ n2).mono ?_
    rintro e w' ⟨rfl, rfl⟩
    rw [G2.out]
    go_wp2
    go_ret
    exact ⟨ret_bool HF.out.symm, HB0.out⟩
  have G1 := hid g1
  have G2 := hid g2
  have HEX2 : Hid (entryB s x = (canB s x.says && (decide (x.uses.length ≤ 12) && (decide x.uses.Nodup && (x.uses.all nmB && (if x.proof.length = 0 then decide (x.uses.length = 0) else proofB x.uses.length x.proof)))))) := hid (by rw [HEX.out, g1, g2]; rfl)
  clear g1 g2 HEX
  go_enter Tryz.func104, Tryz.ntmps104
  go_wp2_with fail
  refine (ref6_Name _ _ n1).mono ?_
  rintro e w' ⟨rfl, rfl⟩
  rw [G1.out]
  go_wp2_with fail
  refine (ref6_Name _ _ n2).mono ?_
  rintro e w' ⟨rfl, rfl⟩
  rw [G2.out]
  obtain ⟨W, hW⟩ : ∃ W, w.alloc (.cells #[.string x.name, .string x.who, vS, .slice ua x.uses.length uc, .slice pa x.proof.length pc] 41) = W := ⟨_, rfl⟩
  have hbW := HB0.out
  have eW := HE0.out
  rw [hW] at hbW eW ⊢
  clear hW HB0 HE0
  obtain ⟨c0, c1, c2, c3, c4⟩ := eW
  go_wp2_with fail
  refine (ref1_Valid vs vS s x.says W (HSG.out.below hbW) (HS.out.below hbW)).mono ?_
  rintro e w1 ⟨rfl, n, hw1⟩
  have hb1 : Below W.heap.size W w1 := hw1 ▸ below_self_drewN W n
  clear hw1
  have hbw1 := hbW.trans (hb1.mono hbW.size)
  obtain ⟨d0, d1, d2, d3, d4⟩ := EB.below ⟨c0, c1, c2, c3, c4⟩ hb1
  clear c0 c1 c2 c3 c4 hb1
  cases g3t : termB s x.says
  · have HF : Hid (entryB s x = false) := hid (by rw [HEX2.out]; unfold canB; rw [g3t]; rfl)
    clear g3t
    go_wp2
    go_ret
    exact ⟨ret_bool HF.out.symm, hbw1⟩
  clear g3t
  go_wp2_with fail
  refine (ref1_IsCanonical vs vS s x.says w1 (HSG.out.below hbw1) (HS.out.below hbw1)).mono ?_
  rintro e w2 ⟨rfl, hb2⟩
  have hbw2 := hbw1.trans (hb2.mono hbw1.size)
  obtain ⟨c0, c1, c2, c3, c4⟩ := EB.below ⟨d0, d1, d2, d3, d4⟩ hb2
  clear d0 d1 d2 d3 d4 hb2 hbw1
  cases g3 : canB s x.says
  · have HF : Hid (entryB s x = false) := hid (by rw [HEX2.out, g3]; rfl)
    clear g3
    go_wp2
    go_ret
    exact ⟨ret_bool HF.out.symm, hbw2⟩
  by_cases g4n : ¬ x.uses.length ≤ 12
  · have HF : Hid (entryB s x = false) := hid (by rw [HEX2.out, decide_eq_false g4n]; simp)
    have g4' : ((x.uses.length : Int) > 12) := by omega
    clear g3 g4n
    go_wp2
    go_ret
    exact ⟨ret_bool HF.out.symm, hbw2⟩
  have g4 : x.uses.length ≤ 12 := Classical.not_not.1 g4n
  clear g4n
  have g4' : ¬ ((x.uses.length : Int) > 12) := by omega
  have HEX3 : Hid (entryB s x = (decide x.uses.Nodup && (x.uses.all nmB && (if x.proof.length = 0 then decide (x.uses.length = 0) else proofB x.uses.length x.proof)))) := hid (by rw [HEX2.out, g3, decide_eq_true g4]; rfl)
  have hszW := hbW.size
  obtain ⟨B, hB⟩ : ∃ B, w.heap.size = B := ⟨_, rfl⟩
  rw [hB] at c0 c1 c2 c3 c4 ⊢
  clear g3 HEX2
  go_wp2
  clear c0 c1 c2
  go_loopw [5] (fun kv wr => ∃ k q : Nat, k ≤ x.uses.length ∧ kv = .int .i64 k ∧ wr = w2.drewN q ∧ (∀ j (hj : j < x.uses.length), j < k → nmB x.uses[j] = true) ∧ ∀ j, j < k → hasN (x.uses.take j) (x.uses.getD j ByteArray.empty) = false) (fun kv _ => x.uses.length - (intOf kv).toNat)
  case atStart => exact ⟨0, 0, by omega, rfl, rfl, by simp, by simp⟩
  case round =>
    obtain ⟨k, q, hk, rfl, hwr, hn, hh⟩ := hrel
    have HN := hid hn
    have HH := hid hh
    have hbr : Below w2.heap.size w2 wr := hwr ▸ below_self_drewN w2 q
    have HWR := hid hwr
    have k3 := (hbr.cell (World.block_lt_of_cell? _ _ c3)).trans c3
    have k4 := (hbr.cell (World.block_lt_of_cell? _ _ c4)).trans c4
    have hbwr := hbw2.trans (hbr.mono hbw2.size)
    clear hn hh hwr c3 c4
    by_cases hlt : k < x.uses.length
    · obtain ⟨ub, uo, rfl, u0⟩ := UC'.out k hlt
      have u1 := (hbwr.cell (World.block_lt_of_cell? _ _ u0)).trans u0
      have hsz := HU.out.2 _ (List.getElem_mem hlt)
      have hTU := ((HU.out.below hbwr).take k (by omega))
      have HALL := hid (fun (h : x.uses.all nmB = true) => List.all_eq_true.1 h x.uses[k] (List.getElem_mem hlt))
      have HDUP := hid (fun h => hasN_dup (l := x.uses) hlt h)
      have HGD := hid (show x.uses.getD k ByteArray.empty = x.uses[k] by rw [List.getD_eq_getElem?_getD, List.getElem?_eq_getElem hlt]; rfl)
      obtain ⟨y, hy⟩ : ∃ y, x.uses[k] = y := ⟨_, rfl⟩
      have HY := hid hy
      rw [hy] at u1 hsz HALL HDUP HGD
      have HNM := fun j => hid (show Calls Tryz.prog 77 #[.string y] (wr.drewN j) fun e w' => e = .returned (.bool (nmB y)) ∧ w' = wr.drewN j from (ref6_Name y (wr.drewN j) hsz).mono (fun _ _ h => ⟨h.1, h.2.symm⟩))
      have HHS := fun j => hid (show Calls Tryz.prog 92 #[.slice (some ⟨ub, uo, none⟩) k uc, .string y] (wr.drewN j) fun e w' => e = .returned (.bool (hasN (x.uses.take k) y)) ∧ w' = wr.drewN j from (ref6_Has _ _ y (wr.drewN j) (hTU.below (below_self_drewN wr j))).mono (fun _ _ h => ⟨h.1, h.2.symm⟩))
      have HTU := hid hTU
      have y1 : k ≤ uc := by omega
      have y2 : (k : Int) ≤ (uc : Int) := by omega
      have y3 : (0 : Int) ≤ (k : Int) := by omega
      clear hTU u0 hy
      cases gN : nmB y
      · have HF : Hid (entryB s x = false) := hid (by
          rw [HEX3.out]
          have : x.uses.all nmB = false := by
            rw [Bool.eq_false_iff]; intro h; have := HALL.out h; rw [gN] at this; cases this
          rw [this]; simp)
        simp only [gN] at HNM
        clear gN HALL HDUP
        go_wp2
        go_quiet ((first | (go_at_call 77; with_reducible exact Calls.quiet_of_same (HNM _).out)))
        go_wp2
        go_ret
        exact ⟨ret_bool HF.out.symm, below_drewN hbwr _⟩
      · simp only [gN] at HNM
        cases gH : hasN (x.uses.take k) y
        · simp only [gH] at HHS
          have GN := hid gN
          have GH := hid gH
          clear gN gH HALL HDUP
          go_wp2
          go_quiet ((first | (go_at_call 77; with_reducible exact Calls.quiet_of_same (HNM _).out) | (go_at_call 92; with_reducible exact Calls.quiet_of_same (HHS _).out)))
          go_wp2
          go_roundw
          case rel =>
            refine ⟨k + 1, _, by omega, by go_num, by rw [HWR.out]; exact World.drewN_drewN _ _ _, fun j hj hjk => ?_, fun j hjk => ?_⟩
            · by_cases e : j = k
              · subst e; rw [HY.out]; exact GN.out
              · exact HN.out j hj (by omega)
            · by_cases e : j = k
              · subst e; rw [HGD.out]; exact GH.out
              · exact HH.out j (by omega)
          case measure => simp [intOf]; omega
        · have HF : Hid (entryB s x = false) := hid (by rw [HEX3.out, decide_eq_false (HDUP.out gH)]; rfl)
          simp only [gH] at HHS
          clear gN gH HALL HDUP
          go_wp2
          go_quiet ((first | (go_at_call 77; with_reducible exact Calls.quiet_of_same (HNM _).out) | (go_at_call 92; with_reducible exact Calls.quiet_of_same (HHS _).out)))
          go_wp2
          go_ret
          exact ⟨ret_bool HF.out.symm, below_drewN hbwr _⟩
    · have hkl : k = x.uses.length := by omega
      have HEX4 : Hid (entryB s x = (if x.proof.length = 0 then decide (x.uses.length = 0) else proofB x.uses.length x.proof)) := hid (by
        have e1 : x.uses.Nodup := hasN_nd fun j hj => HH.out j (by omega)
        have e2 : x.uses.all nmB = true := by
          rw [List.all_eq_true]
          intro y hy
          obtain ⟨j, hj, rfl⟩ := List.getElem_of_mem hy
          exact HN.out j hj (by omega)
        rw [HEX3.out, decide_eq_true e1, e2]; rfl)
      have HVP := hid (ref4_ValidProof x.uses.length (.slice pa x.proof.length pc) x.proof wr (by omega) (HP.out.below hbwr))
      by_cases g8 : x.proof.length = 0
      · have q8 : ((x.proof.length : Int) == 0) = true := by simp [g8]
        by_cases g7 : x.uses.length = 0
        · have q7 : ((x.uses.length : Int) == 0) = true := by simp [g7]
          have HF : Hid (entryB s x = true) := hid (by rw [HEX4.out, if_pos g8]; simpa using g7)
          clear g7 g8 hkl
          go_wp2
          go_ret
          exact ⟨ret_bool HF.out.symm, hbwr⟩
        · have q7 : ((x.uses.length : Int) == 0) = false := by rw [beq_eq_false_iff_ne]; omega
          have HF : Hid (entryB s x = false) := hid (by rw [HEX4.out, if_pos g8, decide_eq_false g7])
          clear g7 g8 hkl
          go_wp2
          go_ret
          exact ⟨ret_bool HF.out.symm, hbwr⟩
      · have q8 : ((x.proof.length : Int) == 0) = false := by rw [beq_eq_false_iff_ne]; omega
        have HF : Hid (entryB s x = proofB x.uses.length x.proof) := hid (by rw [HEX4.out, if_neg g8])
        clear g8 hkl
        go_wp2_with fail
        refine HVP.out.mono ?_
        rintro e w4 ⟨rfl, hb4⟩
        go_wp2
        go_ret
        exact ⟨ret_bool HF.out.symm, hbwr.trans (hb4.mono hbwr.size)⟩
end Go.Proofs.YtalodmochkodiaaGreat
