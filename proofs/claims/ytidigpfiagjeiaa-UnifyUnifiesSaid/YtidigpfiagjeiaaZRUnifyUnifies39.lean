/-
  WHAT IT HOLDS: contract of the iterator that all of package unify hands back, and of table again. Conditions: the arguments read as data; valid binds.
-/
import Derived.Test.YtidigpfiagjeiaaZRUnifyUnifies38
import Derived.Test.YtidigpfiagjeiaaZRUnifyUnifies34
import Derived.Test.YtidigpfiagjeiaaZRUnifyUnifies37
namespace Go.Proofs.Ytidigpfiagjeiaa
open Go Go.RowKit Go.Maps Go.Shelf
attribute [local go_sem] Oper.semAt_some
theorem updI {wb : World} {M : Int → Option VT} (h : ∀ x u p, M x = some (u, p) → Ints wb u p) (x0 : Int) {u0 : Value} {p0 : List Int} (h0 : Ints wb u0 p0) : ∀ x u p, (fun y => if y = x0 then some ((u0, p0) : VT) else M y) x = some (u, p) → Ints wb u p := by
  intro x u p hx
  by_cases e : x = x0
  · simp [e] at hx
    obtain ⟨rfl, rfl⟩ := hx
    exact h0
  · simp only [if_neg e] at hx
    exact h x u p hx
set_option maxHeartbeats 1000000 in
set_option maxRecDepth 100000 in
theorem unify_tableW (v : Value) (l : BL) (wb w : World) (hbw : Below wb.heap.size wb w) (hv : BindsAt wb v l) (hr : ∀ b ∈ l, -1000 ≤ b.1 ∧ b.1 ≤ 1000) :
    Calls Try.prog 79 #[v] w fun e w' => Below w.heap.size w w' ∧ ∃ M n, e = .returned (.map (some w.heap.size)) ∧ TMap w' w.heap.size n M ∧ mOf M = tabP l ∧ ∀ x u p, M x = some (u, p) → Ints wb u p := by
  obtain ⟨a, cap, rfl, h1, h2, -, HC⟩ := hv.open
  have HC' := hid HC
  have HBW := hid hbw
  have HRR := hid hr
  clear HC hv hr hbw
  have hmm := @run_makeMap Try.prog
  go_enter Try.func79, Try.ntmps79
  go_wp2
  clear hmm
  go_loopw [9] (fun kv wr => ∃ (k n : Nat) (M : Int → Option VT), k ≤ l.length ∧ kv = .int .i64 k ∧ TMap wr w.heap.size n M ∧ mOf M = tabP (l.take k) ∧ (∀ x u p, M x = some (u, p) → Ints wb u p) ∧ Below w.heap.size w wr) (fun kv _ => l.length - (intOf kv).toNat)
  case atStart => exact ⟨0, 0, _, by omega, rfl, MapK.made _ _ _ _ _, rfl, (fun _ _ _ h => by cases h), (Below.refl _ _).alloc (Nat.le_refl _) _⟩
  case round =>
    obtain ⟨k, n, M, hk, rfl, hM, hMt, hMi, hb⟩ := hrel
    have hsz := hb.size
    by_cases hlt : k < l.length
    · obtain ⟨cb, co, u, rfl, c10, c20, i0⟩ := HC'.out k hlt
      have hrk := HRR.out l[k] (List.getElem_mem hlt)
      have hbz := HBW.out.trans (hb.mono HBW.out.size)
      have c1 := (hbz.cell (World.block_lt_of_cell? _ _ c10)).trans c10
      have c2 := (hbz.cell (World.block_lt_of_cell? _ _ c20)).trans c20
      have HI0 := hid i0
      have HMT : Hid (updM (mOf M) (-l[k].1 - 1) l[k].2 = tabP (l.take (k + 1))) := hid (by rw [List.take_succ_eq_append_getElem hlt, tabP_snoc, hMt])
      obtain ⟨x, hx⟩ : ∃ x, l[k].1 = x := ⟨_, rfl⟩
      obtain ⟨p, hp⟩ : ∃ p, l[k].2 = p := ⟨_, rfl⟩
      rw [hx] at c1 hrk HMT
      rw [hp] at HMT HI0
      obtain ⟨ua, uc, rfl, -⟩ := HI0.out.open
      have hbox : ∃ (W : World), W = wr.alloc (.cells #[.int .i64 x, .slice ua p.length uc] 61) := ⟨_, rfl⟩
      have hM1 : TMap (wr.alloc (.cells #[.int .i64 x, .slice ua p.length uc] 61)).drew w.heap.size n M := (hM.alloc _).drew
      obtain ⟨w5, hup, hM5, hg5⟩ := hM1.run_update (int_keyed Try.underlying3) eI_inj Try.underlying65 (-x - 1) ((.slice ua p.length uc, p) : VT) (int_key (-x - 1) (wf_small (by omega) (by omega)))
      have hup' : (Instr.mapUpdate 65 (.map (some w.heap.size)) (.int .i64 (-x - 1)) (.slice ua p.length uc)).run Try.prog (wr.alloc (.cells #[.int .i64 x, .slice ua p.length uc] 61)).drew = .ok () w5 := hup
      have hbA : Below wr.heap.size wr (wr.alloc (.cells #[.int .i64 x, .slice ua p.length uc] 61)).drew := below_drewN ((Below.refl _ _).alloc (Nat.le_refl _) _) 1
      have HI5 := hid (updI hMi (-x - 1) HI0.out)
      have HB5 := hid ((hb.trans (hbA.mono hsz)).grown hg5 (hb.trans (hbA.mono hsz)).size (fun q hq => by cases hq; exact Nat.le_refl _))
      have HM5 := hid hM5
      have e1 : w5.cell? ⟨wr.heap.size, 0, none⟩ = some (.int .i64 x) := hM1.cell rfl hg5 (by show (wr.alloc _).cell? _ = _; rw [World.cell?_alloc_new]; rfl)
      have e2 : w5.cell? ⟨wr.heap.size, 1, none⟩ = some (.slice ua p.length uc) := hM1.cell rfl hg5 (by show (wr.alloc _).cell? _ = _; rw [World.cell?_alloc_new]; rfl)
      clear hM1 hup hM5 hg5 hM hMt hMi hbA hbox c10 c20 i0 hx hp hb hbz
      go_wp2_with fail
      go_region_held3 (fun w' => w'.cell? ⟨wr.heap.size, 0, none⟩ = some (.int .i64 x) ∧ w'.cell? ⟨wr.heap.size, 1, none⟩ = some (.slice ua p.length uc)) (first | exact ⟨by assumption, by assumption⟩ | go_keep) (first | (go_at_call 83; refine (unify_code _ _ (by omega) (by omega)).mono ?_; rintro e w4 ⟨rfl, rfl⟩))
      go_wp2
      go_roundw
      case rel => exact ⟨k + 1, _, _, by omega, by go_num, HM5.out, by rw [mOf_upd]; exact HMT.out, HI5.out, HB5.out⟩
      case measure => simp [intOf]; omega
    · have hkl : k = l.length := by omega
      have HMT : Hid (mOf M = tabP l) := hid (by rw [hkl, List.take_of_length_le (Nat.le_refl _)] at hMt; exact hMt)
      have HMI := hid hMi
      have HM := hid hM
      clear hMt hMi hM
      go_wp2
      go_ret
      exact ⟨hb, _, _, rfl, HM.out, HMT.out, HMI.out⟩
abbrev AE := Nat × Value × List Int
def allE (l : BL) (pre : List AE) (x : AE) (W : World) : Prop := x.1 = pre.length ∧ x.1 < 12 ∧ x.2.2 = ofN l (-(x.1 : Int) - 1) ∧ Ints W x.2.1 x.2.2
def allX (x : AE) : Array Value := #[.int .i64 x.1, x.2.1]
set_option maxHeartbeats 2000000 in
set_option maxRecDepth 100000 in
theorem all_seq (bx : Nat) (s : Sg) (v : Value) (l : BL) (wb w0 : World) (hl : bndsB s l = true) (hv : BindsAt wb v l) (hb : Below wb.heap.size wb w0) (hc : w0.cell? ⟨bx, 0, none⟩ = some v) :
    SeqE Try.prog 114 #[.pointer (some ⟨bx, 0, none⟩)] allX (allE l) (fun xs => xs.length = 12) (fun k => k < wb.heap.size) w0 := fun l' J Jx M0 W hW hM0 hJ hJx hY h0 => by
  refine callsIn_of_wp Try.func114 rfl trivial ?_ rfl
  simp only [Try.ntmps114, List.size_toArray, List.length_cons, List.length_nil, Nat.reduceAdd, Nat.reduceSub, Array.replicate_succ, Array.replicate_zero, List.push_toArray, List.append_toArray, List.nil_append, List.cons_append]
  have c1 := (hW.cell (World.block_lt_of_cell? _ _ hc)).trans hc
  have hbW := hb.trans (hW.mono hb.size)
  have HT := hid (unify_tableW v l wb W hbW hv (bnds_range hl))
  gi_wp2_with (refine ⟨trivial, ?_⟩; gi_at_call 79; refine (callsIn_wide.2 HT.out).mono ?_; rintro e W1 ⟨hb1, Mp, nM, rfl, hTM, hmo, hmi⟩)
  have hJ1 := hJ [] M0 W W1 h0 hb1
  have HM0 : Hid (∀ q, M0 q → wb.heap.size ≤ q ∧ q ≠ W.heap.size) := hid (fun q hq => by have := hM0 q hq; exact ⟨by omega, by omega⟩)
  have HBW1 := hid (hbW.trans (hb1.mono hbW.size))
  have HMO := hid hmo
  have HMI := hid hmi
  have HTM := hid hTM
  have HTS := hid (tab_short hl)
  have HOF := hid (fun n => tabP_of hl n)
  have hbwsz := hbW.size
  have hsz1 := hTM.lt
  clear hmo hmi hTM hM0 h0 hb1 hbW c1 hc hb hv hl hW
  gi_loopw [7] (fun kv wr => ∃ (k : Nat) (pre : List AE) (M : Nat → Prop), k ≤ 12 ∧ kv = .int .i64 k ∧ pre.length = k ∧ J pre M wr ∧ (∀ q, M q → wb.heap.size ≤ q ∧ q ≠ W.heap.size) ∧ TMap wr W.heap.size nM Mp ∧ Below wb.heap.size wb wr) (fun kv _ => 12 - (intOf kv).toNat)
  case atStart => exact ⟨0, [], M0, by omega, rfl, rfl, hJ1, HM0.out, HTM.out, HBW1.out⟩
  case round =>
    clear HM0 HTM HBW1 hJ1
    obtain ⟨k, pre, M, hk, rfl, hpl, hj, hM, hTM, hbr⟩ := hrel
    have HPL := hid hpl
    have HMM := hid hM
    have HTM := hid hTM
    have HBR := hid hbr
    have HJJ := hid hj
    clear hpl hM hTM hbr hj
    by_cases hlt : k < 12
    · have y0 : (0 : Int) ≤ (k : Int) := by omega
      have y1 : (k : Int) < 12 := by omega
      have hbx : Below wr.heap.size wr (wr.alloc (.cells #[.int .i64 (-(k : Int) - 1)] 3)) := (Below.refl _ _).alloc (Nat.le_refl _) _
      have hI : Ints (wr.alloc (.cells #[.int .i64 (-(k : Int) - 1)] 3)) (.slice (some ⟨wr.heap.size, 0, none⟩) 1 1) [-(k : Int) - 1] := ints_lit1 wr _ _
      have HPUT := hid (unify_put W.heap.size nM Mp _ [-(k : Int) - 1] _ (HTM.out.belowS hbx) (fun x u p h => ((HMI.out x u p h).below HBR.out).below hbx) (fun x p h => HTS.out x p (by rw [← HMO.out]; exact h)) hI (by simp) (by simp; omega))
      have hpl : putL (mOf Mp) [-(k : Int) - 1] = ofN l (-(k : Int) - 1) := by rw [HMO.out]; simp [putL, HOF.out]
      rw [hpl] at HPUT
      have hps : (ofN l (-(k : Int) - 1)).length ≤ 60 := by
        rw [← HOF.out, ← HMO.out]
        cases h : mOf Mp (-(k : Int) - 1) with
        | none => simp
        | some p => exact HTS.out _ p (by rw [← HMO.out]; exact h)
      have HCO := hid (unify_code k wr (by omega) (by omega))
      clear hpl hI
      gi_wp2_with (refine ⟨trivial, ?_⟩; gi_at_call 83; refine (callsIn_wide.2 HCO.out).mono ?_; rintro e w4 ⟨rfl, rfl⟩)
      refine ⟨trivial, (callsIn_wide.2 HPUT.out).mono ?_⟩
      rintro e W2 ⟨u, rfl, hou, hb2⟩
      have hb12 := hbx.trans (hb2.mono hbx.size)
      have hIu : Ints W2 u (ofN l (-(k : Int) - 1)) := Ints.of_owns hou (by omega)
      obtain ⟨fn, tmps, assign, body, hy, hR⟩ := hY pre (k, u, ofN l (-(k : Int) - 1)) M W2 (hJ pre M wr W2 HJJ.out hb12) ⟨HPL.out.symm, hlt, rfl, hIu⟩
      dsimp only [allX] at hy
      have HTM2 := hid (HTM.out.belowS hb12)
      have HBR2 := hid (HBR.out.trans (hb12.mono HBR.out.size))
      have hs2 := HTM2.out.lt
      have HRR := hid hR
      have hs12 := hb12.size
      clear hbx hou hb2 hb12 hIu hR
      gi_wp2
      refine HRR.out.mono ?_
      rintro e W3 ⟨M', hM', hkb, ⟨rfl, hJ3⟩ | ⟨rfl, hJx3⟩⟩
      · have hbb3 : Below wb.heap.size wb W3 := HBR2.out.trans (hkb.below HBR2.out.size (fun q hq => (HMM.out q hq).1))
        have hM3 : ∀ q, M' q → wb.heap.size ≤ q ∧ q ≠ W.heap.size := by
          intro q hq
          rcases hM' q hq with h1 | h1
          · exact HMM.out q h1
          · have := HBR2.out.size; exact ⟨by omega, by omega⟩
        have hTM3 : TMap W3 W.heap.size nM Mp := HTM2.out.of_block (hkb.same _ hs2 (fun h => (HMM.out _ h).2 rfl))
        have HJ3 := hid hJ3
        have HB3 := hid hbb3
        have HM3 := hid hM3
        have HT3 := hid hTM3
        clear hbb3 hM3 hTM3 hJ3 hM' hkb
        gi_wp2
        go_roundw
        case rel => exact ⟨k + 1, _, M', by omega, by go_num, by simp [HPL.out], HJ3.out, HM3.out, HT3.out, HB3.out⟩
        case measure => simp [intOf]; omega
      · gi_wp2
        refine bodyPost_ret (results_none rfl _ _ _) rfl ?_
        exact ⟨⟨_, rfl⟩, .inr ⟨_, M', hJx3⟩⟩
    · obtain rfl : k = 12 := by omega
      gi_wp2
      go_end0
      exact ⟨⟨_, rfl⟩, .inl ⟨pre, M, HPL.out, HJJ.out⟩⟩
theorem unify_all (a : Option Addr) (n c : Nat) (w : World) :
    Calls Try.prog 85 #[.slice a n c] w fun e w' => e = .returned (.func (.func 114) #[] #[.pointer (some ⟨w.heap.size, 0, none⟩)]) ∧ w.alloc (.cells #[.slice a n c] 39) = w' := by
  go_enter Try.func85, Try.ntmps85
  go_wp2
  go_ret
  exact ⟨rfl, rfl⟩
end Go.Proofs.Ytidigpfiagjeiaa
