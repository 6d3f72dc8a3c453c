/-
  WHAT IT HOLDS: contracts of table, put, fits, ValidBinds and Apply of package unify. Conditions: the arguments read as data; small signs.
-/
import Derived.Deep.RegionHeld3
import Derived.Test.YtcpbpamnhdnanaaZRTopDetachedInstances33
import Derived.Test.YtcpbpamnhdnanaaZRTopDetachedInstances34
namespace Go.Proofs.Ytcpbpamnhdnanaa
open Go Go.RowKit Go.Maps
theorem mOf_none : mOf (fun _ => none) = noM := rfl
theorem TMap_upd {w w' : World} {b n : Nat} {M : Int → Option VT} (h : MapK Try.prog 3 eI eV w b n M) (hg : w.grownBy w' (some b)) (hi : ∀ x u p, M x = some (u, p) → Ints w u p) {x0 : Int} {u0 : Value} {p0 : List Int} (h0 : Ints w u0 p0) : ∀ x u p, (fun y => if y = x0 then some ((u0, p0) : VT) else M y) x = some (u, p) → Ints w' u p := by
  intro x u p hx
  by_cases e : x = x0
  · simp [e] at hx
    obtain ⟨rfl, rfl⟩ := hx
    exact h.ints rfl hg h0
  · simp only [if_neg e] at hx
    exact h.ints rfl hg (hi x u p hx)
set_option maxHeartbeats 1000000 in
set_option maxRecDepth 100000 in
theorem unify_table (v : Value) (l : BL) (w : World) (hv : BindsAt w v l) (hr : ∀ b ∈ l, -1000 ≤ b.1 ∧ b.1 ≤ 1000) :
    Calls Try.prog 22 #[v] w fun e w' => Below w.heap.size w w' ∧ ∃ M n, e = .returned (.map (some w.heap.size)) ∧ TMap w' w.heap.size n M ∧ mOf M = tabP l ∧ ∀ x u p, M x = some (u, p) → Ints w' u p := by
  obtain ⟨a, cap, rfl, h1, h2, -, HC⟩ := hv.open
  have HC' := hid HC
  have HRR := hid hr
  clear HC hv hr
  have hmm := @run_makeMap Try.prog
  go_enter Try.func22, Try.ntmps22
  go_wp2
  clear hmm
  go_loopw [9] (fun kv wr => ∃ (k n : Nat) (M : Int → Option VT), k ≤ l.length ∧ kv = .int .i64 k ∧ TMap wr w.heap.size n M ∧ mOf M = tabP (l.take k) ∧ (∀ x u p, M x = some (u, p) → Ints wr u p) ∧ Below w.heap.size w wr) (fun kv _ => l.length - (intOf kv).toNat)
  case atStart => exact ⟨0, 0, _, by omega, rfl, MapK.made _ _ _ _ _, rfl, (fun _ _ _ h => by cases h), (Below.refl _ _).alloc (Nat.le_refl _) _⟩
  case round =>
    obtain ⟨k, n, M, hk, rfl, hM, hMt, hMi, hb⟩ := hrel
    have hsz := hb.size
    by_cases hlt : k < l.length
    · obtain ⟨cb, co, u, rfl, c10, c20, i0⟩ := HC'.out k hlt
      have hrk := HRR.out l[k] (List.getElem_mem hlt)
      have c1 := (hb.cell (World.block_lt_of_cell? _ _ c10)).trans c10
      have c2 := (hb.cell (World.block_lt_of_cell? _ _ c20)).trans c20
      have HI0 := hid (i0.below hb)
      have HMT : Hid (updM (mOf M) (-l[k].1 - 1) l[k].2 = tabP (l.take (k + 1))) := hid (by rw [List.take_succ_eq_append_getElem hlt, tabP_snoc, hMt])
      obtain ⟨x, hx⟩ : ∃ x, l[k].1 = x := ⟨_, rfl⟩
      obtain ⟨p, hp⟩ : ∃ p, l[k].2 = p := ⟨_, rfl⟩
      rw [hx] at c1 hrk HMT
      rw [hp] at HMT HI0
      obtain ⟨ua, uc, rfl, -⟩ := HI0.out.open
      have hbox : ∃ (W : World), W = wr.alloc (.cells #[.int .i64 x, .slice ua p.length uc] 78) := ⟨_, rfl⟩
      have hM1 : TMap (wr.alloc (.cells #[.int .i64 x, .slice ua p.length uc] 78)).drew w.heap.size n M := (hM.alloc _).drew
      obtain ⟨w5, hup, hM5, hg5⟩ := hM1.run_update (int_keyed Try.underlying3) eI_inj Try.underlying55 (-x - 1) ((.slice ua p.length uc, p) : VT) (int_key (-x - 1) (wf_small (by omega) (by omega)))
      have hup' : (Instr.mapUpdate 55 (.map (some w.heap.size)) (.int .i64 (-x - 1)) (.slice ua p.length uc)).run Try.prog (wr.alloc (.cells #[.int .i64 x, .slice ua p.length uc] 78)).drew = .ok () w5 := hup
      have hbA : Below wr.heap.size wr (wr.alloc (.cells #[.int .i64 x, .slice ua p.length uc] 78)).drew := below_drewN ((Below.refl _ _).alloc (Nat.le_refl _) _) 1
      have HI5 := hid (TMap_upd hM1 hg5 (fun x u p h => (hMi x u p h).below hbA) (x0 := -x - 1) (HI0.out.below hbA))
      have HB5 := hid ((hb.trans (hbA.mono hsz)).grown hg5 (hb.trans (hbA.mono hsz)).size (fun q hq => by cases hq; exact Nat.le_refl _))
      have HM5 := hid hM5
      have e1 : w5.cell? ⟨wr.heap.size, 0, none⟩ = some (.int .i64 x) := hM1.cell rfl hg5 (by show (wr.alloc _).cell? _ = _; rw [World.cell?_alloc_new]; rfl)
      have e2 : w5.cell? ⟨wr.heap.size, 1, none⟩ = some (.slice ua p.length uc) := hM1.cell rfl hg5 (by show (wr.alloc _).cell? _ = _; rw [World.cell?_alloc_new]; rfl)
      clear hM1 hup hM5 hg5 hM hMt hMi hbA hbox c10 c20 i0 hx hp hb
      go_wp2_with fail
      go_region_held3 (fun w' => w'.cell? ⟨wr.heap.size, 0, none⟩ = some (.int .i64 x) ∧ w'.cell? ⟨wr.heap.size, 1, none⟩ = some (.slice ua p.length uc)) (first | exact ⟨by assumption, by assumption⟩ | go_keep) (first | (go_at_call 43; refine (unify_code _ _ (by omega) (by omega)).mono ?_; rintro e w4 ⟨rfl, rfl⟩))
      go_wp2
      go_roundw
      case rel => exact ⟨k + 1, _, _, by omega, by go_num, HM5.out, by rw [mOf_upd]; exact HMT.out, HI5.out, HB5.out⟩
      case measure => simp [intOf]; omega
    · have hkl : k = l.length := by omega
      have HMT : Hid (mOf M = tabP l) := hid (by rw [hkl, List.take_of_length_le (Nat.le_refl _)] at hMt; exact hMt)
      have HMI := hid hMi
      have HM := hid hM
      clear hMt hMi hM
      go_wp2
      go_ret
      exact ⟨hb, _, _, rfl, HM.out, HMT.out, HMI.out⟩
theorem putL_len {m : MM} (hm : ∀ x p, m x = some p → p.length ≤ 60) : ∀ (t : List Int), (putL m t).length ≤ t.length * 60
  | [] => by simp [putL]
  | x :: t => by
    have ih := putL_len hm t
    have e : putL m (x :: t) = (m x).getD [x] ++ putL m t := by simp [putL]
    rw [e, List.length_append, List.length_cons, Nat.add_mul]
    cases hx : m x with
    | none => simp; omega
    | some p => have := hm x p hx; simp; omega
set_option maxHeartbeats 1000000 in
set_option maxRecDepth 100000 in
theorem unify_put (bm n : Nat) (M : Int → Option VT) (vt : Value) (t : List Int) (w : World) (hM : TMap w bm n M) (hi : ∀ x u p, M x = some (u, p) → Ints w u p) (hm : ∀ x p, mOf M x = some p → p.length ≤ 60) (ht : Ints w vt t) (hl : t.length ≤ 4000) (hr : ∀ x ∈ t, -1000000 ≤ x ∧ x ≤ 1000000) :
    Calls Try.prog 21 #[.map (some bm), vt] w fun e w' => ∃ u, e = .returned u ∧ w'.ownsRow w.heap.size 3 1 u (putL (mOf M) t).length ((putL (mOf M) t).map (Value.int .i64)) ∧ Below w.heap.size w w' := by
  obtain ⟨a, cap, rfl, h1, h2, -, HC⟩ := ht.open
  have HC' := hid HC
  have HRR := hid hr
  have HM := hid hM
  have HI := hid hi
  have HPL := hid (fun k => putL_len hm (t.take k))
  have HP60 := hid hm
  clear HC ht hr hM hi hm
  go_enter Try.func21, Try.ntmps21
  go_wp2
  go_loopw [5, 12] (fun u kv wr => ∃ k : Nat, k ≤ t.length ∧ kv = .int .i64 k ∧ wr.ownsRow w.heap.size 3 1 u (putL (mOf M) (t.take k)).length ((putL (mOf M) (t.take k)).map (Value.int .i64)) ∧ Below w.heap.size w wr) (fun _ kv _ => t.length - (intOf kv).toNat)
  case atStart => exact ⟨0, by omega, rfl, World.ownsRow_nil _ _ _ _, Below.refl _ _⟩
  case round =>
    obtain ⟨k, hk, rfl, hown, hb⟩ := hrel
    have hsz := hb.size
    have hpl := HPL.out k
    have htl : (t.take k).length ≤ k := List.length_take_le _ _
    by_cases hlt : k < t.length
    · obtain ⟨cb, co, rfl, hc0⟩ := HC'.out k hlt
      have hc := (hb.cell (World.block_lt_of_cell? _ _ hc0)).trans hc0
      have hx := HRR.out t[k] (List.getElem_mem hlt)
      have hsn : putL (mOf M) (t.take (k + 1)) = putL (mOf M) (t.take k) ++ (mOf M t[k]).getD [t[k]] := by
        rw [List.take_succ_eq_append_getElem hlt, putL_snoc]
      have HKEY := hid (int_key t[k] (wf_small hx.1 hx.2))
      have HOWN := hid hown
      have HMB := hid (HM.out.belowS hb)
      have hpl2 : (putL (mOf M) (t.take k)).length ≤ 240000 := by omega
      generalize putL (mOf M) (t.take k) = outs at *
      cases hmx : M t[k] with
      | none =>
        have HSN : Hid (putL (mOf M) (t.take (k + 1)) = outs ++ [t[k]]) := hid (by rw [hsn]; unfold mOf; rw [hmx]; rfl)
        have HMX := hid hmx
        clear hsn hmx hown hpl htl hc0
        go_wp2_with (first
          | (at_lookup; refine wpList_lookup_mapK rfl _ _ 55 true rfl (int_keyed Try.underlying3) eI_inj Try.underlying55 (zero_term _) rfl HMB.out t[k] rfl HKEY.out (.tuple #[.slice none 0 0, .bool false]) (by rw [HMX.out]; rfl) ?_)
          | (at_builtin; refine wpList_append_row rfl _ _ 25 rfl w.heap.size 3 el_int Try.underlying25 rfl (by decide) _ _ _ rfl (HOWN.out.alloc _) _ 1 [.int .i64 t[k]] rfl (row_one_new _ _ _) (oneCell_one rfl) (by omega) (by omega) (by simp; omega) ?_; intro v' w4 hown4 hgrow4 _))
        have hb4 := hid ((hb.alloc (by omega) (.cells #[.int .i64 t[k]] 3)).grown hgrow4 (by simp; omega) (fun q hq => (HOWN.out.lt q hq).1))
        clear hgrow4
        have ho4 := hid hown4
        clear hown4
        go_wp2_with fail
        go_roundw
        case rel => exact ⟨k + 1, by omega, by go_num, by rw [HSN.out, List.map_append, List.length_append]; exact ho4.out, hb4.out⟩
        case measure => simp [intOf]; omega
      | some up =>
        obtain ⟨u, p⟩ := up
        have hp60 : p.length ≤ 60 ∧ Ints wr u p := ⟨HP60.out _ _ (by unfold mOf; rw [hmx]; rfl), (HI.out _ _ _ hmx).below hb⟩
        have HIP := hid hp60.2
        have hp := hp60.1
        have HSN : Hid (putL (mOf M) (t.take (k + 1)) = outs ++ p) := hid (by rw [hsn]; unfold mOf; rw [hmx]; rfl)
        have HMX := hid hmx
        clear hsn hmx hown hpl htl hc0 hp60
        go_wp2_with (first
          | (at_lookup; refine wpList_lookup_mapK rfl _ _ 55 true rfl (int_keyed Try.underlying3) eI_inj Try.underlying55 (zero_term _) rfl HMB.out t[k] rfl HKEY.out (.tuple #[u, .bool true]) (by rw [HMX.out]; rfl) ?_)
          | (at_builtin; refine wpList_append_row rfl _ _ 25 rfl w.heap.size 3 el_int Try.underlying25 rfl (by decide) _ _ _ rfl HOWN.out _ p.length (p.map (Value.int .i64)) rfl HIP.out (ints_one p) (by omega) (by omega) (by omega) ?_; intro v' w4 hown4 hgrow4 _))
        have hb4 := hid (hb.grown hgrow4 hsz (fun q hq => (HOWN.out.lt q hq).1))
        clear hgrow4
        have ho4 := hid hown4
        clear hown4
        go_wp2_with fail
        go_roundw
        case rel => exact ⟨k + 1, by omega, by go_num, by rw [HSN.out, List.map_append, List.length_append]; exact ho4.out, hb4.out⟩
        case measure => simp [intOf]; omega
    · have hkt : k = t.length := by omega
      rw [hkt, List.take_of_length_le (Nat.le_refl _)] at hown
      have HOWN := hid hown
      clear hown hpl htl
      go_wp2
      go_ret
      exact ⟨_, rfl, HOWN.out, hb⟩
theorem unify_fits (u : Value) (l : List Int) (w : World) (h : Ints w u l) (hl : l.length ≤ 1000000) :
    Calls Try.prog 20 #[u] w fun e w' => e = .returned (if l.length ≤ 60 then .tuple #[u, .int .i64 0] else .tuple #[.slice none 0 0, .int .i64 4]) ∧ w = w' := by
  obtain ⟨a, cap, rfl, -⟩ := h.open
  clear h
  by_cases h6 : l.length ≤ 60
  · go_enter Try.func20, Try.ntmps20
    go_wp2
    go_ret2
    exact ⟨by simp [h6], rfl⟩
  · go_enter Try.func20, Try.ntmps20
    go_wp2
    go_ret2
    exact ⟨by simp [h6], rfl⟩
theorem unify_within (n lo hi : Int) (w : World) :
    Calls Try.prog 41 #[.int .i64 n, .int .i64 lo, .int .i64 hi] w fun e w' => e = .returned (.bool (inB n lo hi)) ∧ w = w' := by
  unfold inB
  by_cases h1 : lo ≤ n
  · by_cases h2 : n ≤ hi
    · go_enter Try.func41, Try.ntmps41
      go_wp2
      go_ret
      exact ⟨by simp [h1, h2], rfl⟩
    · go_enter Try.func41, Try.ntmps41
      go_wp2
      go_ret
      exact ⟨by simp [h1, h2], rfl⟩
  · go_enter Try.func41, Try.ntmps41
    go_wp2
    go_ret
    exact ⟨ret_bool (by simp; omega), rfl⟩
end Go.Proofs.Ytcpbpamnhdnanaa
