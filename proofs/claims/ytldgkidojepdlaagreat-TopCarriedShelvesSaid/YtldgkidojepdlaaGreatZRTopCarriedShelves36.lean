/-
  WHAT IT HOLDS: contract of the iterator that parts of package find hands back. Conditions: the arguments read as data; a valid term.
  WHAT IT HOLDS: contract of the iterator that parts of package find hands back, and of parts. Conditions: the arguments read as data; a valid term.
-/
import Derived.Stop.RegionWithIn
import Derived.Deep.RegionHeld3
import Derived.Lib.SliceRun
import Derived.Test.YtldgkidojepdlaaGreatZRTopCarriedShelves18
import Derived.Test.YtldgkidojepdlaaGreatZRTopCarriedShelves20
import Derived.Test.YtldgkidojepdlaaGreatZRTopCarriedShelves35
namespace Go.Proofs.YtldgkidojepdlaaGreat
open Go Go.RowKit Go.Maps Go.Shelf
attribute [local go_sem] Oper.semAt_some
theorem callsIn_any {n m : Nat} {P : Program} {f : FuncId} {args : Array Value} {w : World} {R : Ending → World → Prop} (h : CallsIn Fence.wide n P f args w R) : CallsIn Fence.wide m P f args w R := ⟨trivial, fun cs _ => h.2 cs (room_wide _)⟩
theorem roundIn_any {n m : Nat} {P : Program} {l : Nat} {f : FuncId} {tmps : Array Value} {a b : Code} {w : World} {R : Ending → World → Prop} (h : RoundIn Fence.wide n P l f tmps a b w R) : RoundIn Fence.wide m P l f tmps a b w R := ⟨trivial, fun c cs _ => h.2 c cs (room_wide _)⟩
abbrev PE := (Value × List Int) × (Value × List Int)
def prE (T : List (List Int × List Int)) (pre : List PE) (x : PE) (M : Nat → Prop) (W : World) : Prop := T[pre.length]? = some (x.1.2, x.2.2) ∧ Safe M (fun W => Ints W x.1.1 x.1.2) W ∧ Safe M (fun W => Ints W x.2.1 x.2.2) W
def prX (x : PE) : Array Value := #[x.1.1, x.2.1]
def fnP (by_ bs bw : Nat) : Value := .func (.func 63) #[] #[.pointer (some ⟨by_, 0, none⟩), .pointer (some ⟨bs, 0, none⟩), .pointer (some ⟨bw, 0, none⟩)]
/-- what the walk holds. -/
def Env (l by_ bs bw : Nat) (vs : Value) (s : Sg) (W : World) : Prop := W.cell? ⟨by_, 0, none⟩ = some (.func (.yield l) #[] #[]) ∧ W.cell? ⟨bs, 0, none⟩ = some vs ∧ W.cell? ⟨bw, 0, none⟩ = some (fnP by_ bs bw) ∧ SignAt W vs s
def WalkP (T : List (List Int × List Int)) (J Jx : List PE → (Nat → Prop) → World → Prop) (s : Sg) (u p : List Int) (pre : List PE) (M : Nat → Prop) (W : World) (e : Ending) (W' : World) : Prop :=
  ∃ M', (∀ k, M' k → M k ∨ W.heap.size ≤ k) ∧ (∀ k, M' k → k < W'.heap.size) ∧ Kb M W W' ∧
    ((e = .returned (.bool true) ∧ ∃ xs : List PE, xs.length = (prs s [p] u).length ∧ J (pre ++ xs) M' W') ∨ (e = .returned (.bool false) ∧ ∃ pre', Jx pre' M' W'))
def RecP (T : List (List Int × List Int)) (J Jx : List PE → (Nat → Prop) → World → Prop) (s : Sg) (pre : List PE) (x : PE) (xs : List PE) (z p' : List Int) (M2 : Nat → Prop) (w9 : World) (e : Ending) (W' : World) : Prop :=
  ∃ M', (∀ q, M' q → M2 q ∨ w9.heap.size ≤ q) ∧ (∀ q, M' q → q < W'.heap.size) ∧ Kb M2 w9 W' ∧ ∃ bq : Bool, e = .returned (.bool bq) ∧ (bq = true → ∃ ys : List PE, ys.length = (prs s [p'] z).length ∧ J ((pre ++ x :: xs) ++ ys) M' W') ∧ (bq = false → ∃ pre', Jx pre' M' W')
theorem reg7_a {wr X wc : World} (h0 : Below wr.heap.size wr X) (h1 : Below X.heap.size X wc) : Below wr.heap.size wr wc := h0.trans (h1.mono h0.size)
theorem isT_split {s : Sg} {u : List Int} (h : IsT s 12 u) : ∃ (c : Int) (zs : List (List Int)), u = c :: zs.flatten ∧ arP s c = zs.length ∧ (∀ a ∈ zs, IsT s 12 a) ∧ ∀ p, prs s [p] u = (p, u) :: prs s (pushW p zs.length) zs.flatten := by
  cases h with
  | var x h1 h2 => exact ⟨x, [], by simp, by unfold arP; rw [inB_true.2 (by omega)]; simp, by simp, fun p => by rw [prs_var h2]; simp [pushW, prs_nil]⟩
  | app c zs h1 h2 h3 => exact ⟨c, zs, rfl, by unfold arP; rw [inB_false.2 (by omega), inB_true.2 (by omega), ← h2]; simp, h3, fun p => prs_app h1 h2 h3 p⟩
set_option maxHeartbeats 4000000 in
set_option maxRecDepth 100000 in
theorem parts_walk (l by_ bs bw : Nat) (vs : Value) (s : Sg) (T : List (List Int × List Int)) (J Jx : List PE → (Nat → Prop) → World → Prop) (hsg : signB s = true) (hs1 : s.length ≤ 1000)
    (hJ : ∀ pre M A B, J pre M A → Below A.heap.size A B → J pre M B) (hJx : ∀ pre M A B, Jx pre M A → Below A.heap.size A B → Jx pre M B)
    (hY : ∀ pre x M W1, J pre M W1 → prE T pre x M W1 → YieldAt Fence.wide 1 Tryz.prog l (prX x) W1 fun e W' => ∃ M', (∀ k, M' k → M k ∨ W1.heap.size ≤ k) ∧ (∀ k, M' k → k < W'.heap.size) ∧ Kb M W1 W' ∧
      ((e = .returned (.bool true) ∧ J (pre ++ [x]) M' W') ∨ (e = .returned (.bool false) ∧ Jx (pre ++ [x]) M' W'))) :
    ∀ (n : Nat) (u : List Int), u.length ≤ n → IsT s 12 u → u.length ≤ 60 → ∀ (p : List Int) (pv tv : Value) (pre : List PE) (M : Nat → Prop) (W : World), p.length + u.length ≤ 200 → J pre M W → (∀ k, M k → k < W.heap.size) →
      (∀ i, i < (prs s [p] u).length → T[pre.length + i]? = (prs s [p] u)[i]?) → Safe M (fun W => Ints W pv p) W → Safe M (fun W => Ints W tv u) W → Safe M (Env l by_ bs bw vs s) W →
      CallsIn Fence.wide 1 Tryz.prog 63 #[pv, tv, .pointer (some ⟨by_, 0, none⟩), .pointer (some ⟨bs, 0, none⟩), .pointer (some ⟨bw, 0, none⟩)] W (WalkP T J Jx s u p pre M W) := by
  have HJ := hid hJ
  have HJX := hid hJx
  have HY := hid hY
  clear hJ hJx hY
  intro n
  induction n with
  | zero => intro u hn hu; have := hu.ne; omega
  | succ n ih =>
    intro u hn hu hul p pv tv pre M W hpl hj hM hT hP hTv hE
    have hu0 := hu
    obtain ⟨c, zs, rfl, har, h3, e00⟩ := isT_split hu
    have e0 := e00 p
    obtain ⟨fn, tmps, assign, body, hy, hR⟩ := HY.out pre ((pv, p), (tv, c :: zs.flatten)) M W hj ⟨by have := hT 0 (by rw [e0]; simp); rw [e0] at this; simpa using this, hP, hTv⟩
    dsimp only [prX] at hy
    have HRR := hid (roundIn_any (m := 0) hR)
    obtain ⟨c1, c2, c3, hsn⟩ := hE.here
    refine callsIn_of_wp Tryz.func63 rfl trivial ?_ rfl
    simp only [Tryz.ntmps63, List.size_toArray, List.length_cons, List.length_nil, Nat.reduceAdd, Nat.reduceSub, Array.replicate_succ, Array.replicate_zero, List.push_toArray, List.append_toArray, List.nil_append, List.cons_append]
    gi_wp2
    refine HRR.out.mono ?_
    rintro e W3 ⟨M', hM', hMs', hkb, ⟨rfl, hJ3⟩ | ⟨rfl, hJx3⟩⟩
    · have hpl2 := hul
      simp only [List.length_cons] at hpl2
      have hE3 := hE.turn hkb hM'
      obtain ⟨c1, c2, c3, hsn3⟩ := hE3.here
      have hT3 := hTv.turn hkb hM'
      have hP3 := hP.turn hkb hM'
      have HAG := hid (term_Args vs tv s (c :: zs.flatten) zs W3 (T_termB hsg hu0 hul) c rfl har h3 hsn3 hT3.here hs1)
      gi_wp2_with fail
      refine ⟨trivial, callsIn_any (n := 1) ((callsIn_wide.2 HAG.out).mono ?_)⟩
      rintro e W4 ⟨u4, vvs, rfl, hL4, hb4⟩
      have hS4 : Safe M' (fun W => TermsV W u4 vvs zs) W4 := Safe.new hL4 hMs'
      obtain ⟨a4, k4, rfl, -⟩ := Terms.open (⟨vvs, hL4.here⟩ : Terms W4 u4 zs)
      have hP4 := hP3.grow hb4
      have hE4 := hE3.grow hb4
      have hJ4 := HJ.out _ _ _ _ hJ3 hb4
      have hk4 : Kb M W W4 := hkb.trans (Kb.of_below (M := M) hb4) (fun q hq => Or.inl hq)
      have hz3 : zs.length ≤ 3 := by have := (arP_bounds hsg c).2; rw [har] at this; omega
      gi_wp2
      gi_loopw [25] (fun kv wr => ∃ (k : Nat) (xs : List PE) (M2 : Nat → Prop), k ≤ zs.length ∧ kv = .int .i64 k ∧ J (pre ++ ((pv, p), (tv, c :: zs.flatten)) :: xs) M2 wr ∧ xs.length = (prs s (pushW p k) (zs.take k).flatten).length ∧ (∀ q, M2 q → M q ∨ W.heap.size ≤ q) ∧ (∀ q, M2 q → q < wr.heap.size) ∧ Kb M W wr ∧
        Safe M2 (fun W => Ints W pv p) wr ∧ Safe M2 (fun W => TermsV W (.slice a4 zs.length k4) vvs zs) wr ∧ Safe M2 (Env l by_ bs bw vs s) wr) (fun kv _ => zs.length - (intOf kv).toNat)
      case atStart => exact ⟨0, [], M', by omega, rfl, by simpa using hJ4, by simp [pushW, prs_nil], hM', (fun q hq => Nat.lt_of_lt_of_le (hMs' q hq) hb4.size), hk4, hP4, hS4, hE4⟩
      case round =>
        obtain ⟨k, xs, M2, hk, rfl, hJr, hxl, hM2, hM2s, hkr, hPr, hSr, hEr⟩ := hrel
        by_cases hlt : k < zs.length
        · obtain ⟨hvv, hvl, hvi⟩ := hSr.here
          obtain ⟨-, a5, k5, he5, -, -, -, HC⟩ := hvv
          obtain ⟨rfl, -, rfl⟩ := Value.slice.inj he5
          obtain ⟨uk, huk⟩ : ∃ uk, vvs[k]? = some uk := ⟨vvs[k]'(by omega), List.getElem?_eq_getElem (by omega)⟩
          have hzz : zs[k]? = some zs[k] := List.getElem?_eq_getElem hlt
          have hSk : Safe M2 (fun W => Ints W uk zs[k]) wr := hSr.imp fun W h => h.2.2 k uk zs[k] huk hzz
          obtain ⟨b, o, rfl, hck⟩ := HC k uk huk
          clear HC he5
          obtain ⟨c1, c2, c3, hsn5⟩ := hEr.here
          have y0 : (0 : Int) ≤ (k : Int) := by omega
          have y1 : (k : Int) < (zs.length : Int) := by omega
          have HCL := hid (fun (X : World) (hX : Below wr.heap.size wr X) => sl_CloneI pv p X (hPr.grow hX).here (by omega))
          have hlu : zs[k].length ≤ zs.flatten.length := by
            have e : zs.flatten = (zs.take k).flatten ++ (zs[k] ++ (zs.drop (k + 1)).flatten) := by
              conv => lhs; rw [← List.take_append_drop k zs, List.flatten_append, List.drop_eq_getElem_cons hlt, List.flatten_cons]
            have h2 := congrArg List.length e
            rw [List.length_append, List.length_append] at h2
            omega
          have e1 := prs_args h3 p hlt
          have hlc : (c :: zs.flatten).length = zs.flatten.length + 1 := rfl
          have hTk : ∀ i, i < (prs s [p ++ [(k : Int)]] zs[k]).length → T[(pre ++ ((pv, p), (tv, c :: zs.flatten)) :: xs).length + i]? = (prs s [p ++ [(k : Int)]] zs[k])[i]? := by
            intro i hi
            obtain ⟨r, hr⟩ := prs_mid h3 p hlt
            have h9 := hT (xs.length + i + 1) (by rw [e0, List.length_cons, hr, List.length_append, List.length_append]; omega)
            rw [e0, List.getElem?_cons_succ, hr, List.getElem?_append_right (by omega), hxl, Nat.add_sub_cancel_left, List.getElem?_append_left hi] at h9
            rw [← h9]
            congr 1
            simp only [List.length_append, List.length_cons]
            omega
          have HREC := hid (fun (v9 : Value) (w9 : World) (ho : w9.ownsRow wr.heap.size 3 1 v9 (p ++ [(k : Int)]).length ((p ++ [(k : Int)]).map (Value.int .i64))) (hb9 : Below wr.heap.size wr w9) =>
            callsIn_wide.1 (ih zs[k] (by simp only [List.length_cons] at hn; omega) (h3 _ (List.getElem_mem hlt)) (by omega) (p ++ [(k : Int)]) v9 uk (pre ++ ((pv, p), (tv, c :: zs.flatten)) :: xs) M2 w9 (by simp only [List.length_append, List.length_singleton]; omega) (HJ.out _ _ _ _ hJr hb9) (fun q hq => Nat.lt_of_lt_of_le (hM2s q hq) hb9.size)
              hTk (Safe.ints ho (by simp; omega) hM2s) (hSk.grow hb9) (hEr.grow hb9)))
          gi_wp2
          have HRB := hid (fun (v9 : Value) (w9 : World) (ho : w9.ownsRow wr.heap.size 3 1 v9 (p ++ [(k : Int)]).length ((p ++ [(k : Int)]).map (Value.int .i64))) (hb9 : Below wr.heap.size wr w9) =>
            (HREC.out v9 w9 ho hb9).mono (R' := RecP T J Jx s pre ((pv, p), (tv, c :: zs.flatten)) xs zs[k] (p ++ [(k : Int)]) M2 w9) (by
              rintro e W' ⟨M', a1, a2, a3, ⟨rfl, h⟩ | ⟨rfl, h⟩⟩
              · exact ⟨M', a1, a2, a3, true, rfl, fun _ => h, fun h => by cases h⟩
              · exact ⟨M', a1, a2, a3, false, rfl, fun h => (by cases h), fun _ => h⟩))
          have q1 : p.length + 1 ≤ 140737488355328 := by omega
          have q2 : (p.length + 1) * 8 ≤ 140737488355328 := by omega
          have HPL : Hid ((p ++ [(k : Int)]).length = p.length + 1) := hid (by simp)
          have HPM : Hid ((p ++ [(k : Int)]).map (Value.int .i64) = p.map (Value.int .i64) ++ [.int .i64 k]) := hid (by simp)
          have HC3 := hid c3
          unfold fnP at c3
          refine wpIn_wide.2 ?_
          have hlt3 := World.block_lt_of_cell? _ _ c3
          go_region_held3 (fun w' => w'.cell? ⟨bw, 0, none⟩ = some (.func (.func 63) #[] #[.pointer (some ⟨by_, 0, none⟩), .pointer (some ⟨bs, 0, none⟩), .pointer (some ⟨bw, 0, none⟩)])) (first | assumption | (exact (hbc.cell (by simp; omega)).trans (by first | assumption | go_keep)) | (exact (hb9.cell hlt3).trans c3) | exact hc10 | go_keep) (first
            | (go_at_call 55; refine (HCL.out _ (by first | exact below_self_drewN _ _ | exact (below_self_drewN _ _).alloc (Nat.le_refl _) _)).mono ?_; rintro e wc ⟨uc, rfl, hoc, hbc⟩
               have hbc2 : Below wr.heap.size wr wc := (by first | exact reg7_a (below_self_drewN _ _) hbc | exact reg7_a ((below_self_drewN _ _).alloc (Nat.le_refl _) _) hbc))
            | (go_at_call 63; refine (HRB.out v9 w9 (by rw [HPL.out, HPM.out]; exact hown9) hb9).mono ?_; rintro e w10 ⟨M3, m1, m2, m3, bq, rfl, ht, hf⟩
               have hc10 := ((hEr.grow hb9).turn m3 m1).here.2.2.1
               unfold fnP at hc10)
            | (refine step_append_row (by rfl) _ _ 28 (by rfl) wr.heap.size 3 el_int Tryz.underlying28 (by rfl) (by decide) _ _ _ (by rfl) (by first | exact owns_base hoc (by simp) | exact owns_base (owns_below hoc ((Below.refl _ _).alloc (Nat.le_refl _) _)) (by simp)) _ 1 [.int .i64 k] (by rfl) (by first | exact row_one_new _ _ _ | exact (row_one_new _ _ _).below hbc | exact ((row_one_new wr (.int .i64 k) _).below (Below.drew (Below.refl _ _))).below hbc) (oneCell_one rfl) q1 q2 (by have := hbc2.size; simp; omega) ?_; intro v9 w9 hown9 hgrow9
               have hb9 : Below wr.heap.size wr w9 := (by first | exact hbc2.grown hgrow9 hbc2.size (fun q hq => by have := (hoc.lt q hq).1; simp at this; omega) | exact (hbc2.alloc hbc2.size _).grown hgrow9 (by have := hbc2.size; simp; omega) (fun q hq => by have := (hoc.lt q hq).1; simp at this; omega))))
          all_goals
            have hk10 : Kb M W w10 := hkr.trans ((Kb.of_below (M := M2) hb9).trans m3 (fun q h => Or.inl h)) hM2
            have hsz9 := hb9.size
            have hszr := hkr.size
            have hM3 : ∀ q, M3 q → M q ∨ W.heap.size ≤ q := fun q h => (m1 q h).elim (hM2 q) (fun h => Or.inr (by omega))
            have hE10 := (hEr.grow hb9).turn m3 m1
            have hP10 := (hPr.grow hb9).turn m3 m1
            have hS10 := (hSr.grow hb9).turn m3 m1
            have HT := hid ht
            have HF := hid hf
            clear ht hf HRB HREC HCL hTk hc10 hck c1 c2 c3 HC3 hgrow9 hown9 hoc hbc hbc2 hvi
            cases bq
            · obtain ⟨pre', hx⟩ := HF.out rfl
              gi_wp2
              go_ret
              exact ⟨M3, hM3, m2, hk10, Or.inr ⟨rfl, pre', hx⟩⟩
            · obtain ⟨ys, hyl, hJ10⟩ := HT.out rfl
              gi_wp2
              go_roundw
              case rel => exact ⟨k + 1, xs ++ ys, M3, by omega, by go_num, by simpa using hJ10, by rw [List.length_append, hxl, hyl, e1, List.length_append], hM3, m2, hk10, hP10, hS10, hE10⟩
              case measure => simp [intOf]; omega
        · have hkz : k = zs.length := by omega
          subst hkz
          gi_wp2
          go_ret
          refine ⟨M2, hM2, hM2s, hkr, Or.inl ⟨rfl, ((pv, p), (tv, c :: zs.flatten)) :: xs, ?_, hJr⟩⟩
          rw [e0, List.length_cons, List.length_cons, hxl, List.take_of_length_le (Nat.le_refl _)]
    · gi_wp2
      go_ret
      exact ⟨M', hM', hMs', hkb, Or.inr ⟨rfl, _, hJx3⟩⟩
end Go.Proofs.YtldgkidojepdlaaGreat
namespace Go.Proofs.YtldgkidojepdlaaGreat
open Go Go.RowKit Go.Maps Go.Shelf
attribute [local go_sem] Oper.semAt_some
set_option maxHeartbeats 4000000 in
set_option maxRecDepth 100000 in
theorem parts_seq (bs bt : Nat) (vs vt : Value) (s : Sg) (t : List Int) (wb w0 : World) (hsg : signB s = true) (hs1 : s.length ≤ 1000) (hT : IsT s 12 t) (ht60 : t.length ≤ 60)
    (hb : Below wb.heap.size wb w0) (hsn : SignAt wb vs s) (ht : Ints wb vt t) (hcs : w0.cell? ⟨bs, 0, none⟩ = some vs) (hct : w0.cell? ⟨bt, 0, none⟩ = some vt) :
    SeqG Tryz.prog 62 #[.pointer (some ⟨bs, 0, none⟩), .pointer (some ⟨bt, 0, none⟩)] prX (prE (prs s [[]] t)) (fun xs => xs.length = (prs s [[]] t).length) (fun k => k < wb.heap.size ∨ k = bs ∨ k = bt) w0 := fun l J Jx M0 W hW hM0 hJ hJx hY h0 => by
  have c1 := (hW.cell (World.block_lt_of_cell? _ _ hcs)).trans hcs
  have c2 := (hW.cell (World.block_lt_of_cell? _ _ hct)).trans hct
  have hbW := hb.trans (hW.mono hb.size)
  refine callsIn_of_wp Tryz.func62 rfl trivial ?_ rfl
  simp only [Tryz.ntmps62, List.size_toArray, List.length_cons, List.length_nil, Nat.reduceAdd, Nat.reduceSub, Array.replicate_succ, Array.replicate_zero, List.push_toArray, List.append_toArray, List.nil_append, List.cons_append]
  have HJ := hid hJ
  have HJX := hid hJx
  have HY := hid hY
  clear hJ hJx hY
  have hl1 : bs < W.heap.size := World.block_lt_of_cell? _ _ c1
  have hl2 : bt < W.heap.size := World.block_lt_of_cell? _ _ c2
  have c2' := fun (o1 o2 o3 : Obj) => cell_alloc_keep o3 (cell_alloc_keep o2 (cell_alloc_keep o1 c2))
  gi_wp2_with fail
  clear c2'
  obtain ⟨W9, hW9⟩ : ∃ W9, (((W.alloc (.cells #[.func (.yield l) #[] #[]] 95)).alloc (.cells #[fnP W.heap.size bs (W.heap.size + 1)] 95)).alloc (.cells #[] 3)) = W9 := ⟨_, rfl⟩
  have hW9' := hW9
  unfold fnP at hW9'
  rw [hW9']
  clear hW9'
  have hsz : W9.heap.size = W.heap.size + 3 := by rw [← hW9]; simp
  have hbA := ((Below.refl W.heap.size W).alloc (Nat.le_refl _) (.cells #[.func (.yield l) #[] #[]] 95))
  have hbB := hbA.alloc (by simp) (.cells #[fnP W.heap.size bs (W.heap.size + 1)] 95)
  have hb9 := hbB.alloc (by simp; omega) (.cells #[] 3)
  rw [hW9] at hb9
  have d0 : W9.cell? ⟨W.heap.size, 0, none⟩ = some (.func (.yield l) #[] #[]) := by
    rw [← hW9]; exact cell_alloc_keep _ (cell_alloc_keep _ (cell_new1 _ _ _))
  have d1 : W9.cell? ⟨W.heap.size + 1, 0, none⟩ = some (fnP W.heap.size bs (W.heap.size + 1)) := by
    have := cell_new1 (W.alloc (.cells #[.func (.yield l) #[] #[]] 95)) (fnP W.heap.size bs (W.heap.size + 1)) 95
    rw [World.size_alloc] at this
    rw [← hW9]; exact cell_alloc_keep _ this
  have d2 : W9.heap[W.heap.size + 1 + 1]? = some (.cells #[] 3) := by
    have := World.alloc_heap_new ((W.alloc (.cells #[.func (.yield l) #[] #[]] 95)).alloc (.cells #[fnP W.heap.size bs (W.heap.size + 1)] 95)) (.cells #[] 3)
    simp only [World.size_alloc] at this
    rw [← hW9]; exact this
  have e1 := (hb9.cell hl1).trans c1
  have hbw9 := hbW.trans (hb9.mono hbW.size)
  have hM9 : ∀ k, M0 k → k < W.heap.size ∧ k ≠ bs ∧ k ≠ bt ∧ wb.heap.size ≤ k := fun k hk => by
    have := hM0 k hk
    exact ⟨this.2, fun h => this.1 (Or.inr (Or.inl h)), fun h => this.1 (Or.inr (Or.inr h)), by have h := this.1; omega⟩
  refine ⟨trivial, callsIn_any (n := 1) ((parts_walk l W.heap.size bs (W.heap.size + 1) vs s (prs s [[]] t) J Jx hsg hs1 HJ.out HJX.out HY.out t.length t (Nat.le_refl _) hT ht60 [] _ vt [] M0 W9 (by simp; omega) (HJ.out _ _ _ _ h0 hb9) (fun k hk => by have := (hM9 k hk).1; omega)
    (fun i hi => by simp) ?_ (Safe.old (wb := wb) (fun W' h => ht.below h) hbw9 (fun k hk => (hM9 k hk).2.2.2)) ?_).mono ?_)⟩
  · intro W' _
    exact ⟨rfl, _, _, rfl, Nat.le_refl _, by simp, (fun h => by cases h), fun j u hj => by simp at hj⟩
  · refine ((Safe.cell d0 ?_).both ((Safe.cell e1 ?_).both ((Safe.cell d1 ?_).both (Safe.old (wb := wb) (fun W' h => hsn.below h) hbw9 (fun k hk => (hM9 k hk).2.2.2)))))
    · intro h; have := (hM9 _ h).1; simp at this
    · intro h; exact (hM9 _ h).2.1 rfl
    · intro h; have := (hM9 _ h).1; simp at this; omega
  · rintro e W' ⟨M', q1, q2, q3, ⟨rfl, xs, hxl, hxj⟩ | ⟨rfl, pre', hxj⟩⟩
    · gi_wp2
      go_end0
      exact ⟨⟨_, rfl⟩, .inl ⟨xs, M', hxl, by simpa using hxj⟩⟩
    · gi_wp2
      go_end0
      exact ⟨⟨_, rfl⟩, .inr ⟨pre', M', hxj⟩⟩
theorem find_parts (sa ta : Option Addr) (sn sc tn tc : Nat) (w : World) :
    Calls Tryz.prog 43 #[.slice sa sn sc, .slice ta tn tc] w fun e w' => e = .returned (.func (.func 62) #[] #[.pointer (some ⟨w.heap.size, 0, none⟩), .pointer (some ⟨w.heap.size + 1, 0, none⟩)]) ∧ (w.alloc (.cells #[.slice sa sn sc] 23)).alloc (.cells #[.slice ta tn tc] 29) = w' := by
  go_enter Tryz.func43, Tryz.ntmps43
  go_wp2
  go_ret
  exact ⟨rfl, rfl⟩
end Go.Proofs.YtldgkidojepdlaaGreat
