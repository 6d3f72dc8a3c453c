/-
  WHAT IT HOLDS: contract of rebuilt of package short: the steps that stay, moved, and where they stand. Conditions: the steps read as data; the proof is valid; the functions say which steps stay and what they become, and only read; what stays is made of what stays.
  WHAT IT HOLDS: contracts of trimmed and Trimmed of package short. Conditions: the steps read as data.
-/
import Derived.Test.YtmpjaakkjhmpmaaGreatDoorZRShortCites38
import Derived.Test.YtmpjaakkjhmpmaaGreatDoorZRShortCites40
import Derived.Test.YtmpjaakkjhmpmaaGreatDoorZRShortCites20
namespace Go.Proofs.YtmpjaakkjhmpmaaGreatDoor
open Go Go.RowKit Go.Maps Go.Shelf
attribute [local go_sem] Oper.semAt_some
theorem row_one_st (w : World) (y : St) (t : TypeId) : RowK (w.alloc (.cells #[.int .i64 y.1, .int .i64 y.2.1, .int .i64 y.2.2] t)) (.slice (some ⟨w.heap.size, 0, none⟩) 1 1) 3 1 (stV y) := by
  refine ⟨rfl, _, _, rfl, Nat.le_refl _, by omega, (fun h => by cases h), fun j u hj => ⟨_, _, rfl, ?_⟩⟩
  rw [World.cell?_alloc_new, Nat.zero_add]
  simpa [stV] using hj
/-- a function value that says what a step becomes. -/
def BecC (fb : Nat) (lbb : Array Value) (n : Nat) (f : Nat → Nat) (wb : World) : Prop := ∀ X, Below wb.heap.size wb X → ∀ i : Nat, i < n → Calls Tryz.prog fb (#[.int .i64 i] ++ lbb) X fun e X' => e = .returned (.int .i64 (f i)) ∧ X = X'
def RebQ (p : List St) (b : List Bool) (f : Nat → Nat) (w : World) (e : Ending) (w' : World) : Prop := ∃ u mb n, e = .returned (.tuple #[u, .map (some mb)]) ∧ StepsAt w' u (rebL p b f p.length) ∧ MapK Tryz.prog 3 eI (Value.int .i64) w' mb n (mI b (stayL p b p.length)) ∧ Below w.heap.size w w'
set_option maxHeartbeats 8000000 in
set_option maxRecDepth 100000 in
theorem short_rebuilt (g : Int) (v : Value) (fs fb : Nat) (lbs lbb : Array Value) (p : List St) (b : List Bool) (f : Nat → Nat) (w : World) (hv : StepsAt w v p) (hg : proofB g p = true) (ok : OKR p b f) (hst : StayC fs lbs p.length b w) (hbc : BecC fb lbb p.length f w)
    (heg : ∀ args (X : World), (callFunc fs args).run Tryz.prog X = .ok (.enter fs args) X) (heg2 : ∀ args (X : World), (callFunc fb args).run Tryz.prog X = .ok (.enter fb args) X) :
    Calls Tryz.prog 105 #[v, .func (.func fs) #[] lbs, .func (.func fb) #[] lbb] w fun e w' => RebQ p b f w e w' := by
  have HP := hid hv
  have HG := hid hg
  have HOK := hid ok
  have HSTC := hid hst
  have HBC := hid hbc
  have h60 := proof60 hg
  obtain ⟨pa, pc, rfl, -⟩ := hv.open
  clear hv hg ok hst hbc
  have hmm := @run_makeMap Tryz.prog
  refine calls_marks Tryz.func105 rfl ?_
  simp only [Tryz.ntmps105, List.size_toArray, List.length_cons, List.length_nil, Nat.reduceAdd, Nat.reduceSub, Array.replicate_succ, Array.replicate_zero, List.push_toArray, List.append_toArray, List.nil_append, List.cons_append]
  go_wp2_with (go_at_call 145; refine (short_staying _ _ _ _ _ _).mono ?_; rintro e w4 ⟨rfl, rfl⟩)
  clear hmm
  obtain ⟨A1, hA1⟩ : ∃ A, w.alloc (.cells #[.func (.func fb) #[] lbb] 128) = A := ⟨_, rfl⟩
  have k1 := cell_new1 w (.func (.func fb) #[] lbb) 128
  have z1 : A1.heap.size = w.heap.size + 1 := by rw [← hA1]; simp
  have b1 : Below w.heap.size w A1 := hA1 ▸ (Below.refl _ _).alloc (Nat.le_refl _) _
  rw [hA1] at k1 ⊢
  obtain ⟨A2, hA2⟩ : ∃ A, A1.alloc (.cells #[.slice none 0 0] 25) = A := ⟨_, rfl⟩
  have k2 := BX.new A1 [.slice none 0 0] 25
  have z2 : A2.heap.size = A1.heap.size + 1 := by rw [← hA2]; simp
  have b2 : Below A1.heap.size A1 A2 := hA2 ▸ (Below.refl _ _).alloc (Nat.le_refl _) _
  have hA2' : A1.alloc (.cells ([.slice none 0 0] : List Value).toArray 25) = A2 := hA2
  rw [hA2'] at k2
  rw [hA2]
  obtain ⟨A3, hA3⟩ : ∃ A, A2.alloc (.map #[] 0) = A := ⟨_, rfl⟩
  have k3 := MapK.made Tryz.prog 3 eI (Value.int .i64) A2
  have z3 : A3.heap.size = A2.heap.size + 1 := by rw [← hA3]; simp
  have b3 : Below A2.heap.size A2 A3 := hA3 ▸ (Below.refl _ _).alloc (Nat.le_refl _) _
  rw [hA3] at k3 ⊢
  obtain ⟨A4, hA4⟩ : ∃ A, A3.alloc (.cells #[.map (some (w.heap.size + 1 + 1))] 125) = A := ⟨_, rfl⟩
  have k4 := cell_new1 A3 (.map (some (w.heap.size + 1 + 1))) 125
  have z4 : A4.heap.size = A3.heap.size + 1 := by rw [← hA4]; simp
  have b4 : Below A3.heap.size A3 A4 := hA4 ▸ (Below.refl _ _).alloc (Nat.le_refl _) _
  rw [hA4] at k4 ⊢
  obtain ⟨A5, hA5⟩ : ∃ A, A4.alloc (.cells #[.slice pa p.length pc] 25) = A := ⟨_, rfl⟩
  have k5 := cell_new1 A4 (.slice pa p.length pc) 25
  have z5 : A5.heap.size = A4.heap.size + 1 := by rw [← hA5]; simp
  have b5 : Below A4.heap.size A4 A5 := hA5 ▸ (Below.refl _ _).alloc (Nat.le_refl _) _
  rw [hA5] at k5 ⊢
  obtain ⟨W0, hW0⟩ : ∃ A, A5.alloc (.cells #[.func (.func fs) #[] lbs] 90) = A := ⟨_, rfl⟩
  have k6 := cell_new1 A5 (.func (.func fs) #[] lbs) 90
  have z6 : W0.heap.size = A5.heap.size + 1 := by rw [← hW0]; simp
  have b6 : Below A5.heap.size A5 W0 := hW0 ▸ (Below.refl _ _).alloc (Nat.le_refl _) _
  rw [hW0] at k6 ⊢
  have b56 : Below A4.heap.size A4 W0 := b5.trans (b6.mono b5.size)
  have b46 : Below A3.heap.size A3 W0 := b4.trans (b56.mono b4.size)
  have b36 : Below A2.heap.size A2 W0 := b3.trans (b46.mono b3.size)
  have b26 : Below A1.heap.size A1 W0 := b2.trans (b36.mono b2.size)
  have b16 : Below w.heap.size w W0 := b1.trans (b26.mono b1.size)
  have y2 : A1.heap.size = w.heap.size + 1 := z1
  have y3 : A2.heap.size = w.heap.size + 1 + 1 := by omega
  have y4 : A3.heap.size = w.heap.size + 1 + 1 + 1 := by omega
  have y5 : A4.heap.size = w.heap.size + 1 + 1 + 1 + 1 := by omega
  have y6 : A5.heap.size = w.heap.size + 1 + 1 + 1 + 1 + 1 := by omega
  have hz : w.heap.size + 6 ≤ W0.heap.size := by omega
  have HST : Hid (RbI b f w W0.heap.size (w.heap.size + 1) (w.heap.size + 1 + 1 + 1) w.heap.size (w.heap.size + 1 + 1) (.func (.func fb) #[] lbb) [] (fun k => k = w.heap.size + 1 ∨ k = w.heap.size + 1 + 1) W0) := hid (by
    refine ⟨⟨.slice none 0 0, ?_, World.ownsRow_nil _ _ _ _, fun q hq => by cases hq⟩, ?_, ?_, ?_, ⟨0, ?_⟩, b16, Or.inl rfl, Or.inr rfl⟩
    · rw [← y2]; exact (b26.trans (Below.refl _ _) |> fun _ => (b36.cell (World.block_lt_of_cell? _ _ (k2.c 0 (by simp)))).trans (k2.c 0 (by simp)))
    · rw [← y2]; exact (b36.frozen (p := ⟨A1.heap.size, 0, none⟩) (World.block_lt_of_cell? _ _ (k2.c 0 (by simp)))).trans (k2.z 0)
    · rw [← y4]; exact (b56.cell (World.block_lt_of_cell? _ _ k4)).trans k4
    · exact (b26.cell (World.block_lt_of_cell? _ _ k1)).trans k1
    · rw [show mI b [] = fun _ => none from by funext j; unfold mI; simp, ← y3]
      exact k3.belowS b46)
  have c5 := (b6.cell (World.block_lt_of_cell? _ _ k5)).trans k5
  rw [y5] at c5
  rw [y6] at k6
  have HSQ := hid (staying_seq (w.heap.size + 1 + 1 + 1 + 1) (w.heap.size + 1 + 1 + 1 + 1 + 1) fs lbs (.slice pa p.length pc) p b w W0 HP.out HSTC.out heg b16 c5 k6)
  have HBW := hid b16
  clear hA1 hA2 hA2' hA3 hA4 hA5 hW0 k1 k2 k3 k4 k5 k6 z1 z2 z3 z4 z5 z6 b1 b2 b3 b4 b5 b6 b56 b46 b36 b26 b16 y2 y3 y4 y5 y6 c5
  refine wpIn_wide.1 (wpIn_rangeG (gf := 179) (lb := #[.pointer (some ⟨w.heap.size + 1 + 1 + 1 + 1, 0, none⟩), .pointer (some ⟨w.heap.size + 1 + 1 + 1 + 1 + 1, 0, none⟩)]) rfl (enters_of Tryz.func179 rfl rfl) (encs := seX) (E := seE p b) (S := fun xs => xs = stayL p b p.length)
    (N := fun k => k < w.heap.size ∨ k = w.heap.size + 1 + 1 + 1 + 1 ∨ k = w.heap.size + 1 + 1 + 1 + 1 + 1) (w0 := W0) HSQ.out (Below.refl _ _) (fun _ => rfl) ?_ ?_ ?_
    (fun pre => RbI b f w W0.heap.size (w.heap.size + 1) (w.heap.size + 1 + 1 + 1) w.heap.size (w.heap.size + 1 + 1) (.func (.func fb) #[] lbb) pre) (fun _ _ _ _ => False)
    (fun k => k = w.heap.size + 1 ∨ k = w.heap.size + 1 + 1) ?_ (fun pre => RbI.grw (by omega) (by omega) (by omega) (by omega) (by omega) pre) (fun c pre => ⟨fun _ _ _ h _ => h, fun _ _ _ _ _ _ h _ => h⟩) HST.out ?_ ?_ ?_)
  case refine_1 => exact fun _ _ _ _ _ _ _ h _ _ _ => h
  case refine_2 => exact fun _ _ _ _ _ h _ => h
  case refine_3 => rintro k (h | rfl | rfl) <;> omega
  case refine_4 => rintro k (rfl | rfl) <;> exact ⟨by rintro (h | h | h) <;> omega, by omega⟩
  case refine_5 =>
    clear HST HSQ
    rintro l' pre ⟨k, x⟩ M W hsW hM hturn
    obtain ⟨hk, hs, hx, hpre⟩ := (hturn W _ (Below.refl _ _) ⟨.deferred none, rfl⟩).2.1
    dsimp only at hk hs hx hpre
    have hpl : pre.length = posS b k := by rw [hpre, stayL_len]
    have hp60 : pre.length ≤ 60 := by have := posS_le b k; omega
    obtain ⟨eg, hst⟩ := st_at HG.out hk
    rw [← eg, ← hx] at hst
    have hok := HOK.out k hk hs
    rw [← hx] at hok
    simp only [seX]
    have hBX := BX.new W [.int .i64 x.1, .int .i64 x.2.1, .int .i64 x.2.2] 57
    obtain ⟨X, hX⟩ : ∃ X, W.alloc (.cells #[.int .i64 x.1, .int .i64 x.2.1, .int .i64 x.2.2] 57) = X := ⟨_, rfl⟩
    have hX' : W.alloc (.cells ([.int .i64 x.1, .int .i64 x.2.1, .int .i64 x.2.2] : List Value).toArray 57) = X := hX
    rw [hX'] at hBX
    have hbX : Below W.heap.size W X := hX ▸ (Below.refl _ _).alloc (Nat.le_refl _) _
    have hsX : W.heap.size + 1 ≤ X.heap.size ∧ X.heap.size ≤ W.heap.size + 1 := by rw [← hX]; simp
    have HX := hid hX
    have HBX := hid hbX
    have HBXX := hid hBX
    have HTURN := hid hturn
    have HM := hid hM
    have HPRE := hid hpre
    have HPL := hid hpl
    have HXK := hid hx
    clear hX hX' hBX hbX hturn hM hpre hpl eg hx
    gi_wp2
    rw [HX.out]
    refine ⟨HBX.out, fun W2 hT2 => ?_⟩
    obtain ⟨hI2, -, hs2⟩ := HTURN.out X W2 HBX.out hT2
    obtain ⟨o2', hW2⟩ := hT2
    have hBX2 := HBXX.out.block (w' := W2) (by rw [hW2]; exact World.putObj_heap_other (by omega))
    have HI2 := hid hI2
    obtain ⟨⟨uo, o1, o2, o3⟩, o4, o5, o6, ⟨n7, o7⟩, o8, o9⟩ := hI2
    obtain ⟨ua, uc, rfl⟩ := owns_slice o2
    obtain ⟨W3, hup0, hM3, hg3⟩ := o7.run_update (int_keyed Tryz.underlying3) eI_inj Tryz.underlying125 (k : Int) (pre.length : Int) (int_key (k : Int) (wf_small (by omega) (by omega)))
    rw [show ((pre.length : Nat) : Int) = (posS b k : Int) by rw [HPL.out], mI_snoc b pre (k, x)] at hM3
    have hup : (Instr.mapUpdate 125 (.map (some (w.heap.size + 1 + 1))) (.int .i64 k) (.int .i64 pre.length)).run Tryz.prog W2 = .ok () W3 := hup0
    have hz2 : W.heap.size + 1 ≤ W2.heap.size := by omega
    have hsame : ∀ q, q < W2.heap.size → q ≠ w.heap.size + 1 + 1 → W3.heap[q]? = W2.heap[q]? := fun q hq hn => hg3.block q hq (fun e => hn (Option.some.inj e))
    have hBX3 := hBX2.block (hsame _ (by omega) (by omega))
    have p1 := (World.cell?_of_block (a := ⟨w.heap.size + 1, 0, none⟩) (hsame _ (by have := World.block_lt_of_cell? _ _ o1; exact this) (by simp))).trans o1
    have p5 := (World.cell?_of_block (a := ⟨w.heap.size + 1 + 1 + 1, 0, none⟩) (hsame _ (World.block_lt_of_cell? _ _ o5) (by simp))).trans o5
    have p6 := (World.cell?_of_block (a := ⟨w.heap.size, 0, none⟩) (hsame _ (World.block_lt_of_cell? _ _ o6) (by show w.heap.size ≠ w.heap.size + 1 + 1; omega))).trans o6
    have d0 := hBX3.c 0 (by simp)
    have d1 := hBX3.c 1 (by simp)
    have d2 := hBX3.c 2 (by simp)
    simp only [List.getElem_cons_zero, List.getElem_cons_succ] at d0 d1 d2
    have HO1 := hid o1
    have HO4 := hid o4
    have HO2 := hid o2
    have HO3 := hid o3
    have HM3 := hid hM3
    have HG3 := hid hg3
    have HBX3 := hid hBX3
    have HB8 := hid o8
    clear hup0 hW2 hBX2 o2 o3 o4 o7 o8 o9 hM3 hg3 hBX3 hsame hs2
    by_cases hk2 : x.1 = 2
    case neg =>
      rcases hst with ⟨h1, -⟩ | ⟨h1, -⟩
      case inr => exact absurd h1 hk2
      have HMV : Hid (mvS b f x = x) := hid (by unfold mvS; rw [if_neg hk2])
      have hkb : (x.1 == 2) = false := by simpa using hk2
      clear hok h1 hk2
      have k5 : Kb (fun q => q = w.heap.size + 1 + 1 ∨ W.heap.size ≤ q) W2 W3 := (Kb.grown (M := fun q => q = w.heap.size + 1 + 1 ∨ W.heap.size ≤ q) HG3.out (fun q hq => by cases hq; exact Or.inl (Or.inl rfl)))
      have m5 : ∃ n, MapK Tryz.prog 3 eI (Value.int .i64) W3 (w.heap.size + 1 + 1) n (mI b (pre ++ [(k, x)])) := ⟨_, HM3.out⟩
      have hol := World.block_lt_of_cell? _ _ HO1.out
      have hoN := fun q hq => (show W0.heap.size ≤ q ∧ q < W.heap.size from ⟨(HO2.out.lt q hq).1, (HM.out q (HO3.out q hq)).2.2.1⟩)
      have e5 : W3.heap[w.heap.size + 1]? = W2.heap[w.heap.size + 1]? := k5.same _ hol (fun h => by omega)
      have q1 := cell_same HO1.out e5
      have qf := (World.frozen?_of_block (a := ⟨w.heap.size + 1, 0, none⟩) e5).trans HO4.out
      have hrow5 := ownsRow_frm HO2.out (fun q hq => k5.same q (HO2.out.lt q hq).2 (fun h => by have := hoN q hq; omega))
      have hb6 : Below W3.heap.size W3 (W3.alloc (.cells #[.int .i64 x.1, .int .i64 x.2.1, .int .i64 x.2.2] 57)) := (Below.refl _ _).alloc (Nat.le_refl _) _
      have HK6 := hid (k5.trans (Kb.of_below (M := fun q => q = w.heap.size + 1 + 1 ∨ W.heap.size ≤ q) hb6) (fun q hq => Or.inl hq))
      have HM6 : Hid (∃ n, MapK Tryz.prog 3 eI (Value.int .i64) (W3.alloc (.cells #[.int .i64 x.1, .int .i64 x.2.1, .int .i64 x.2.2] 57)) (w.heap.size + 1 + 1) n (mI b (pre ++ [(k, x)]))) := hid (by obtain ⟨n, h⟩ := m5; exact ⟨n, h.alloc _⟩)
      have HRA := hid (owns_below hrow5 hb6)
      have HSRC := hid (row_one_st W3 x 57)
      have HRN := hid hoN
      have C96 := hid ((hb6.cell (World.block_lt_of_cell? _ _ q1)).trans q1)
      have F96 := hid ((hb6.frozen (p := ⟨w.heap.size + 1, 0, none⟩) (World.block_lt_of_cell? _ _ q1)).trans qf)
      have HXZ := hid (Nat.le_trans k5.size hb6.size)
      have hW02 : W0.heap.size ≤ W2.heap.size := by omega
      clear k5 m5 hol hoN e5 qf hrow5 hb6
      (try dsimp only at HSRC HK6 HM6 HRA C96 F96 HXZ)
      gi_wp2_with (gi_at_builtin; refine wpListIn_append_lie rfl _ _ 25 rfl W0.heap.size 57 el_step Tryz.underlying25 rfl (by decide) _ pre.length (stC (rbL b f pre)) rfl HRA.out _ 1 (stV x) rfl HSRC.out (by simp [stV, Value.oneCell']) (by decide) (by omega) (by omega) (by have := HXZ.out; omega) _ rfl ?_; intro g7 c7 w7 hown7 hgrow7 hat7 hlt7; have e97 := hgrow7.block (w.heap.size + 1) (World.block_lt_of_cell? _ _ C96.out) (fun e => by have := HRN.out _ e.symm; omega); have c97 := cell_same C96.out e97; have f97 := (World.frozen?_of_block (a := ⟨w.heap.size + 1, 0, none⟩) e97).trans F96.out)
      exact RbI.push (x := (k, x)) (S := W.heap.size) HI2.out (by omega) (by omega) (by omega) (by omega) (by omega) (by omega) (by omega) (by omega) (by omega) (by omega) (by omega) (by omega) (by omega) (by omega) (fun q hq => (HM.out q hq).2.2.1) HK6.out HM6.out HO1.out HO2.out HO3.out (by dsimp only; rw [HMV.out]; exact hown7) hgrow7 hat7 hlt7
    case pos =>
      rcases hst with ⟨h1, -⟩ | ⟨-, ha, hbb, ha', hb'⟩
      · omega
      obtain ⟨⟨oa1, oa2⟩, ob1, ob2⟩ := hok hk2
      obtain ⟨A, hA⟩ : ∃ A, nA x = A := ⟨_, rfl⟩
      obtain ⟨B, hB⟩ : ∃ B, nB x = B := ⟨_, rfl⟩
      have HMV : Hid (mvS b f x = (2, (posS b (f A) : Int), (posS b (f B) : Int))) := hid (by unfold mvS; rw [if_pos hk2, hA, hB])
      rw [hA] at ha ha' oa1 oa2
      rw [hB] at hbb hb' ob1 ob2
      rw [hk2] at d0
      rw [ha] at d1
      rw [hbb] at d2
      have key : ∀ (X : World) C, MapK Tryz.prog 3 eI (Value.int .i64) X (w.heap.size + 1 + 1) (if (mI b pre (k : Int)).isSome then n7 else n7 + 1) (mI b (pre ++ [(k, x)])) → f C < k → stB b (f C) = true → (Instr.lookup 125 (.map (some (w.heap.size + 1 + 1))) (.int .i64 (f C : Int)) false).run Tryz.prog X = .ok (.int .i64 (posS b (f C) : Int)) X := fun X C h0 h1 h2 => by
        have h3 := h0.run_lookup (int_keyed Tryz.underlying3) eI_inj Tryz.underlying125 (zero_int _) (f C : Int) (int_key (f C : Int) (wf_small (by omega) (by omega))) false
        have h4 : mI b (pre ++ [(k, x)]) (f C : Int) = some (posS b (f C) : Int) := by
          rw [← mI_snoc b pre (k, x), HPRE.out]
          dsimp only
          rw [if_neg (by omega), mI_stay h1 h2]
        rw [h4] at h3
        exact h3
      have hbm : w.heap.size + 1 + 1 ≠ W.heap.size := by omega
      have hlA := key W3.drew A HM3.out.drew oa1 oa2
      have hlB := key W3.drew B HM3.out.drew ob1 ob2
      have hlB1 := key (W3.setCell ⟨W.heap.size, 1, none⟩ (.int .i64 (posS b (f A) : Int))).drew B (HM3.out.setCell (a := ⟨W.heap.size, 1, none⟩) hbm _).drew ob1 ob2
      have hlA2 := key (W3.setCell ⟨W.heap.size, 2, none⟩ (.int .i64 (posS b (f B) : Int))).drew A (HM3.out.setCell (a := ⟨W.heap.size, 2, none⟩) hbm _).drew oa1 oa2
      have oth : ∀ (q : Nat) (v : Value) (a : Addr) (u : Value), W3.cell? ⟨q, 0, none⟩ = some v → a.block ≠ q → (W3.setCell a u).cell? ⟨q, 0, none⟩ = some v := fun q v a u h hn => (World.cell?_of_block (Below.heap_setCell _ _ _ _ (fun e => hn e.symm))).trans h
      have hlA1 := key (W3.setCell ⟨W.heap.size, 1, none⟩ (.int .i64 (posS b (f A) : Int))).drew A (HM3.out.setCell (a := ⟨W.heap.size, 1, none⟩) hbm _).drew oa1 oa2
      have hlA3 := key ((W3.setCell ⟨W.heap.size, 1, none⟩ (.int .i64 (posS b (f A) : Int))).setCell ⟨W.heap.size, 2, none⟩ (.int .i64 (posS b (f B) : Int))).drew A ((HM3.out.setCell (a := ⟨W.heap.size, 1, none⟩) hbm _).setCell (a := ⟨W.heap.size, 2, none⟩) hbm _).drew oa1 oa2
      have hlB3 := key ((W3.setCell ⟨W.heap.size, 1, none⟩ (.int .i64 (posS b (f A) : Int))).setCell ⟨W.heap.size, 2, none⟩ (.int .i64 (posS b (f B) : Int))).drew B ((HM3.out.setCell (a := ⟨W.heap.size, 1, none⟩) hbm _).setCell (a := ⟨W.heap.size, 2, none⟩) hbm _).drew ob1 ob2
      have oth3 : ∀ (q : Nat) (v : Value), W3.cell? ⟨q, 0, none⟩ = some v → q ≠ W.heap.size → ((W3.setCell ⟨W.heap.size, 1, none⟩ (.int .i64 (posS b (f A) : Int))).setCell ⟨W.heap.size, 2, none⟩ (.int .i64 (posS b (f B) : Int))).cell? ⟨q, 0, none⟩ = some v := fun q v h hn => (World.cell?_of_block (Below.heap_setCell _ _ _ _ hn)).trans ((World.cell?_of_block (Below.heap_setCell _ _ _ _ hn)).trans h)
      have s3p5 := oth3 _ _ p5 (by omega)
      have s3p6 := oth3 _ _ p6 (by omega)
      have s1p5 := oth _ _ ⟨W.heap.size, 1, none⟩ (.int .i64 (posS b (f A) : Int)) p5 (by show W.heap.size ≠ _; omega)
      have s1p6 := oth _ _ ⟨W.heap.size, 1, none⟩ (.int .i64 (posS b (f A) : Int)) p6 (by show W.heap.size ≠ _; omega)
      have s2p5 := oth _ _ ⟨W.heap.size, 2, none⟩ (.int .i64 (posS b (f B) : Int)) p5 (by show W.heap.size ≠ _; omega)
      have s2p6 := oth _ _ ⟨W.heap.size, 2, none⟩ (.int .i64 (posS b (f B) : Int)) p6 (by show W.heap.size ≠ _; omega)
      have HBA := hid (fun (X : World) (hX : Below w.heap.size w X) => HBC.out X hX A (by omega))
      have HBB := hid (fun (X : World) (hX : Below w.heap.size w X) => HBC.out X hX B (by omega))
      have HB3 := hid (show Below w.heap.size w W3 from HB8.out.grown HG3.out HB8.out.size (fun q hq => by cases hq; omega))
      have hmo : Tryz.prog.follows .mixedOrders = true := by kernel_rfl
      have z1 := HBX3.out.z 1
      have z2 := HBX3.out.z 2
      have hk2' := hk2
      clear key hok hk2 ha hbb oa1 oa2 ob1 ob2 hA hB
      gi_wp2
      refine anyT.beginIn (T := (fun X' => X'.cell? ⟨w.heap.size + 1 + 1 + 1, 0, none⟩ = some (.map (some (w.heap.size + 1 + 1))) ∧ X'.cell? ⟨w.heap.size, 0, none⟩ = some (.func (.func fb) #[] lbb) ∧ (Instr.lookup 125 (.map (some (w.heap.size + 1 + 1))) (.int .i64 (f A : Int)) false).run Tryz.prog X' = .ok (.int .i64 (posS b (f A) : Int)) X' ∧ (Instr.lookup 125 (.map (some (w.heap.size + 1 + 1))) (.int .i64 (f B : Int)) false).run Tryz.prog X' = .ok (.int .i64 (posS b (f B) : Int)) X')) (S := (fun X' => X'.cell? ⟨W.heap.size, 1, none⟩ = some (.int .i64 (A : Int)) ∧ X'.cell? ⟨W.heap.size, 2, none⟩ = some (.int .i64 (B : Int)))) (k := 13) (by kernel_rfl) (by kernel_rfl) ?_ ?_ (fun hT hS => ?_)
      · exact ⟨p5, p6, hlA, hlB⟩
      · exact ⟨d1, d2⟩
      refine anyT.takeT (i := 0) (oi := { dst := some 25, op := Op.load 125 (Operand.tmp 9), type := 125, pos := _, after := _, guard := none }) (v := ?_) rfl (by kernel_rfl) (by kernel_rfl) (by kernel_rfl) (by decide) (fun _ _ _ h => h) (Or.inl ⟨by rfl, ?_⟩) hT (fun _ => hS) ?_
      rotate_left
      · (intro w hSw; (try dsimp only at hSw); go_simp; (try with_reducible rfl))
      (try simp only [Act.put, List.setIfInBounds_toArray, List.set_cons_zero, List.set_cons_succ])
      refine anyT.takeT (i := 1) (oi := { dst := some 26, op := Op.load 128 (Operand.tmp 5), type := 128, pos := _, after := _, guard := none }) (v := ?_) rfl (by kernel_rfl) (by kernel_rfl) (by kernel_rfl) (by decide) (fun _ _ _ h => h) (Or.inl ⟨by rfl, ?_⟩) hT (fun _ => hS) ?_
      rotate_left
      · (intro w hSw; (try dsimp only at hSw); go_simp; (try with_reducible rfl))
      (try simp only [Act.put, List.setIfInBounds_toArray, List.set_cons_zero, List.set_cons_succ])
      refine anyT.takeT (i := 2) (oi := { dst := some 27, op := Op.fieldAddr 57 (Operand.tmp 11) 1, type := 0, pos := _, after := _, guard := none }) (v := ?_) rfl (by kernel_rfl) (by kernel_rfl) (by kernel_rfl) (by decide) (fun _ _ _ h => h) (Or.inl ⟨by rfl, ?_⟩) hT (fun _ => hS) ?_
      rotate_left
      · (intro w hSw; (try dsimp only at hSw); go_simp; (try with_reducible rfl))
      (try simp only [Act.put, List.setIfInBounds_toArray, List.set_cons_zero, List.set_cons_succ])
      refine anyT.take (i := 3) (oi := { dst := some 28, op := Op.load 3 (Operand.tmp 27), type := 3, pos := _, after := _, guard := none }) (v := ?_) rfl (by kernel_rfl) (by kernel_rfl) (by kernel_rfl) (by kernel_rfl) (by kernel_rfl) (by decide) (fun _ _ _ h => h) (Or.inl ⟨by rfl, ?_⟩) hT hS ?_
      rotate_left
      · (intro w hSw; (try dsimp only at hSw); go_simp; (try with_reducible rfl))
      (try simp only [Act.put, List.setIfInBounds_toArray, List.set_cons_zero, List.set_cons_succ])
      refine anyT.takeT (i := 6) (oi := { dst := some 31, op := Op.load 125 (Operand.tmp 9), type := 125, pos := _, after := _, guard := none }) (v := ?_) rfl (by kernel_rfl) (by kernel_rfl) (by kernel_rfl) (by decide) (fun _ _ _ h => h) (Or.inl ⟨by rfl, ?_⟩) hT (fun _ => hS) ?_
      rotate_left
      · (intro w hSw; (try dsimp only at hSw); go_simp; (try with_reducible rfl))
      (try simp only [Act.put, List.setIfInBounds_toArray, List.set_cons_zero, List.set_cons_succ])
      refine anyT.takeT (i := 7) (oi := { dst := some 32, op := Op.load 128 (Operand.tmp 5), type := 128, pos := _, after := _, guard := none }) (v := ?_) rfl (by kernel_rfl) (by kernel_rfl) (by kernel_rfl) (by decide) (fun _ _ _ h => h) (Or.inl ⟨by rfl, ?_⟩) hT (fun _ => hS) ?_
      rotate_left
      · (intro w hSw; (try dsimp only at hSw); go_simp; (try with_reducible rfl))
      (try simp only [Act.put, List.setIfInBounds_toArray, List.set_cons_zero, List.set_cons_succ])
      refine anyT.takeT (i := 8) (oi := { dst := some 33, op := Op.fieldAddr 57 (Operand.tmp 11) 2, type := 0, pos := _, after := _, guard := none }) (v := ?_) rfl (by kernel_rfl) (by kernel_rfl) (by kernel_rfl) (by decide) (fun _ _ _ h => h) (Or.inl ⟨by rfl, ?_⟩) hT (fun _ => hS) ?_
      rotate_left
      · (intro w hSw; (try dsimp only at hSw); go_simp; (try with_reducible rfl))
      (try simp only [Act.put, List.setIfInBounds_toArray, List.set_cons_zero, List.set_cons_succ])
      refine anyT.take (i := 9) (oi := { dst := some 34, op := Op.load 3 (Operand.tmp 33), type := 3, pos := _, after := _, guard := none }) (v := ?_) rfl (by kernel_rfl) (by kernel_rfl) (by kernel_rfl) (by kernel_rfl) (by kernel_rfl) (by decide) (fun _ _ _ h => h) (Or.inl ⟨by rfl, ?_⟩) hT hS ?_
      rotate_left
      · (intro w hSw; (try dsimp only at hSw); go_simp; (try with_reducible rfl))
      (try simp only [Act.put, List.setIfInBounds_toArray, List.set_cons_zero, List.set_cons_succ])
      refine anyT.one (i := 4) (o := { dst := some 29, op := Op.call { callee := Callee.value (Operand.tmp 26), args := #[Operand.tmp 28], argTypes := #[3] }, type := 3, pos := _, after := _, guard := none }) (by kernel_rfl) rfl (fun K hK => ?_)
      (try go_simp)
      refine (HBA.out _ (Below.drew HB3.out)).mono ?_; rintro e w' ⟨rfl, rfl⟩
      refine hK.out _ _ ⟨hT, fun _ => hS⟩ ?_
      clear hK K
      (try simp only [Act.put, List.setIfInBounds_toArray, List.set_cons_zero, List.set_cons_succ])
      refine anyT.takeT (i := 5) (oi := { dst := some 30, op := Op.lookup 125 (Operand.tmp 25) (Operand.tmp 29) false, type := 3, pos := _, after := _, guard := none }) (v := ?_) rfl (by kernel_rfl) (by kernel_rfl) (by kernel_rfl) (by decide) (fun _ _ _ h => h) (Or.inl ⟨by rfl, ?_⟩) hT (fun _ => hS) ?_
      rotate_left
      · (intro w hSw; (try dsimp only at hSw); go_simp; (try with_reducible rfl))
      (try simp only [Act.put, List.setIfInBounds_toArray, List.set_cons_zero, List.set_cons_succ])
      refine anyT.takeT (i := 12) (oi := { dst := some 37, op := Op.fieldAddr 57 (Operand.tmp 11) 1, type := 0, pos := _, after := _, guard := none }) (v := ?_) rfl (by kernel_rfl) (by kernel_rfl) (by kernel_rfl) (by decide) (fun _ _ _ h => h) (Or.inl ⟨by rfl, ?_⟩) hT (fun _ => hS) ?_
      rotate_left
      · (intro w hSw; (try dsimp only at hSw); go_simp; (try with_reducible rfl))
      (try simp only [Act.put, List.setIfInBounds_toArray, List.set_cons_zero, List.set_cons_succ])
      refine anyT.one (i := 10) (o := { dst := some 35, op := Op.call { callee := Callee.value (Operand.tmp 32), args := #[Operand.tmp 34], argTypes := #[3] }, type := 3, pos := _, after := _, guard := none }) (by kernel_rfl) rfl (fun K hK => ?_)
      (try go_simp)
      refine (HBB.out _ (Below.drew HB3.out)).mono ?_; rintro e w' ⟨rfl, rfl⟩
      refine hK.out _ _ ⟨hT, fun _ => hS⟩ ?_
      clear hK K
      (try simp only [Act.put, List.setIfInBounds_toArray, List.set_cons_zero, List.set_cons_succ])
      refine anyT.takeT (i := 11) (oi := { dst := some 36, op := Op.lookup 125 (Operand.tmp 31) (Operand.tmp 35) false, type := 3, pos := _, after := _, guard := none }) (v := ?_) rfl (by kernel_rfl) (by kernel_rfl) (by kernel_rfl) (by decide) (fun _ _ _ h => h) (Or.inl ⟨by rfl, ?_⟩) hT (fun _ => hS) ?_
      rotate_left
      · (intro w hSw; (try dsimp only at hSw); go_simp; (try with_reducible rfl))
      (try simp only [Act.put, List.setIfInBounds_toArray, List.set_cons_zero, List.set_cons_succ])
      refine anyT.one (i := 13) (o := { dst := none, op := Op.store 3 (Operand.tmp 37) (Operand.tmp 30), type := 0, pos := _, after := _, guard := none }) (by kernel_rfl) rfl (fun K hK => ?_)
      (try go_simp)
      refine hK.out _ _ ⟨⟨s1p5, s1p6, hlA1, hlB1⟩, fun h => absurd h (by decide)⟩ ?_
      clear hK K
      (try simp only [Act.put, List.setIfInBounds_toArray, List.set_cons_zero, List.set_cons_succ])
      refine anyT.one (i := 14) (o := { dst := some 38, op := Op.fieldAddr 57 (Operand.tmp 11) 2, type := 0, pos := _, after := _, guard := none }) (by kernel_rfl) rfl (fun K hK => ?_)
      (try go_simp)
      refine hK.out _ _ ⟨⟨s1p5, s1p6, hlA1, hlB1⟩, fun h => absurd h (by decide)⟩ ?_
      clear hK K
      (try simp only [Act.put, List.setIfInBounds_toArray, List.set_cons_zero, List.set_cons_succ])
      refine anyT.one (i := 15) (o := { dst := none, op := Op.store 3 (Operand.tmp 38) (Operand.tmp 36), type := 0, pos := _, after := _, guard := none }) (by kernel_rfl) rfl (fun K hK => ?_)
      (try go_simp)
      refine hK.out _ _ ⟨⟨s3p5, s3p6, hlA3, hlB3⟩, fun h => absurd h (by decide)⟩ ?_
      clear hK K
      (try simp only [Act.put, List.setIfInBounds_toArray, List.set_cons_zero, List.set_cons_succ])
      refine anyT.done (by kernel_rfl) ?_ _
      refine ⟨by simp, ?_⟩
      obtain ⟨W5, hW5⟩ : ∃ W5, ((W3.setCell ⟨W.heap.size, 1, none⟩ (.int .i64 (posS b (f A) : Int))).setCell ⟨W.heap.size, 2, none⟩ (.int .i64 (posS b (f B) : Int))).drew = W5 := ⟨_, rfl⟩
      have k5 : Kb (fun q => q = w.heap.size + 1 + 1 ∨ W.heap.size ≤ q) W2 W5 := hW5 ▸ (((Kb.grown (M := fun q => q = w.heap.size + 1 + 1 ∨ W.heap.size ≤ q) HG3.out (fun q hq => by cases hq; exact Or.inl (Or.inl rfl))).trans (Kb.setCell (M := fun q => q = w.heap.size + 1 + 1 ∨ W.heap.size ≤ q) (p := ⟨W.heap.size, 1, none⟩) _ (Or.inr (Nat.le_refl _))) (fun q hq => Or.inl hq)).trans (Kb.setCell (M := fun q => q = w.heap.size + 1 + 1 ∨ W.heap.size ≤ q) (p := ⟨W.heap.size, 2, none⟩) _ (Or.inr (Nat.le_refl _))) (fun q hq => Or.inl hq)).trans (Kb.of_below (M := fun q => q = w.heap.size + 1 + 1 ∨ W.heap.size ≤ q) (Below.drew (Below.refl _ _))) (fun q hq => Or.inl hq)
      have m5 : ∃ n, MapK Tryz.prog 3 eI (Value.int .i64) W5 (w.heap.size + 1 + 1) n (mI b (pre ++ [(k, x)])) := hW5 ▸ ⟨_, ((HM3.out.setCell (a := ⟨W.heap.size, 1, none⟩) (by show w.heap.size + 1 + 1 ≠ W.heap.size; omega) _).setCell (a := ⟨W.heap.size, 2, none⟩) (by show w.heap.size + 1 + 1 ≠ W.heap.size; omega) _).drew⟩
      have hb3 := (HBX3.out.set (k := 1) (by simp) (.int .i64 (posS b (f A) : Int))).set (k := 2) (by simp) (.int .i64 (posS b (f B) : Int))
      have g0 : (((W3.setCell ⟨W.heap.size, 1, none⟩ (.int .i64 (posS b (f A) : Int))).setCell ⟨W.heap.size, 2, none⟩ (.int .i64 (posS b (f B) : Int))).drew).cell? ⟨W.heap.size, 0, none⟩ = some (.int .i64 2) := (hb3.c 0 (by simp)).trans (by simp [hk2'])
      have g1 : (((W3.setCell ⟨W.heap.size, 1, none⟩ (.int .i64 (posS b (f A) : Int))).setCell ⟨W.heap.size, 2, none⟩ (.int .i64 (posS b (f B) : Int))).drew).cell? ⟨W.heap.size, 1, none⟩ = some (.int .i64 (posS b (f A) : Int)) := (hb3.c 1 (by simp)).trans (by simp)
      have g2 : (((W3.setCell ⟨W.heap.size, 1, none⟩ (.int .i64 (posS b (f A) : Int))).setCell ⟨W.heap.size, 2, none⟩ (.int .i64 (posS b (f B) : Int))).drew).cell? ⟨W.heap.size, 2, none⟩ = some (.int .i64 (posS b (f B) : Int)) := (hb3.c 2 (by simp)).trans (by simp)
      rw [hW5] at g0 g1 g2 ⊢
      have hol := World.block_lt_of_cell? _ _ HO1.out
      have hoN := fun q hq => (show W0.heap.size ≤ q ∧ q < W.heap.size from ⟨(HO2.out.lt q hq).1, (HM.out q (HO3.out q hq)).2.2.1⟩)
      have e5 : W5.heap[w.heap.size + 1]? = W2.heap[w.heap.size + 1]? := k5.same _ hol (fun h => by omega)
      have q1 := cell_same HO1.out e5
      have qf := (World.frozen?_of_block (a := ⟨w.heap.size + 1, 0, none⟩) e5).trans HO4.out
      have hrow5 := ownsRow_frm HO2.out (fun q hq => k5.same q (HO2.out.lt q hq).2 (fun h => by have := hoN q hq; omega))
      have hb6 : Below W5.heap.size W5 (W5.alloc (.cells #[.int .i64 2, .int .i64 (posS b (f A) : Int), .int .i64 (posS b (f B) : Int)] 57)) := (Below.refl _ _).alloc (Nat.le_refl _) _
      have HK6 := hid (k5.trans (Kb.of_below (M := fun q => q = w.heap.size + 1 + 1 ∨ W.heap.size ≤ q) hb6) (fun q hq => Or.inl hq))
      have HM6 : Hid (∃ n, MapK Tryz.prog 3 eI (Value.int .i64) (W5.alloc (.cells #[.int .i64 2, .int .i64 (posS b (f A) : Int), .int .i64 (posS b (f B) : Int)] 57)) (w.heap.size + 1 + 1) n (mI b (pre ++ [(k, x)]))) := hid (by obtain ⟨n, h⟩ := m5; exact ⟨n, h.alloc _⟩)
      have HRA := hid (owns_below hrow5 hb6)
      have HSRC := hid (row_one_st W5 (2, (posS b (f A) : Int), (posS b (f B) : Int)) 57)
      have HRN := hid hoN
      have C96 := hid ((hb6.cell (World.block_lt_of_cell? _ _ q1)).trans q1)
      have F96 := hid ((hb6.frozen (p := ⟨w.heap.size + 1, 0, none⟩) (World.block_lt_of_cell? _ _ q1)).trans qf)
      have HXZ := hid (Nat.le_trans k5.size hb6.size)
      have hW02 : W0.heap.size ≤ W2.heap.size := by omega
      clear hW5 k5 m5 hol hoN e5 qf hrow5 hb6
      (try dsimp only at HSRC HK6 HM6 HRA C96 F96 HXZ)
      gi_wp2_with (gi_at_builtin; refine wpListIn_append_lie rfl _ _ 25 rfl W0.heap.size 57 el_step Tryz.underlying25 rfl (by decide) _ pre.length (stC (rbL b f pre)) rfl HRA.out _ 1 (stV (2, (posS b (f A) : Int), (posS b (f B) : Int))) rfl HSRC.out (by simp [stV, Value.oneCell']) (by decide) (by omega) (by omega) (by have := HXZ.out; omega) _ rfl ?_; intro g7 c7 w7 hown7 hgrow7 hat7 hlt7; have e97 := hgrow7.block (w.heap.size + 1) (World.block_lt_of_cell? _ _ C96.out) (fun e => by have := HRN.out _ e.symm; omega); have c97 := cell_same C96.out e97; have f97 := (World.frozen?_of_block (a := ⟨w.heap.size + 1, 0, none⟩) e97).trans F96.out)
      exact RbI.push (x := (k, x)) (S := W.heap.size) HI2.out (by omega) (by omega) (by omega) (by omega) (by omega) (by omega) (by omega) (by omega) (by omega) (by omega) (by omega) (by omega) (by omega) (by omega) (fun q hq => (HM.out q hq).2.2.1) HK6.out HM6.out HO1.out HO2.out HO3.out (by dsimp only; rw [HMV.out]; exact hown7) hgrow7 hat7 hlt7
  case refine_6 =>
    clear HST HSQ
    rintro xs M W rfl hI hD hMD
    obtain ⟨⟨uo, o1, o2, o3⟩, o4, o5, o6, ⟨n7, o7⟩, o8, o9⟩ := hI
    have hxl : (stayL p b p.length).length = (rebL p b f p.length).length := by rw [rebL_len, stayL_len]
    have hle : (rebL p b f p.length).length ≤ 60 := by rw [rebL_len]; have := posS_le b p.length; omega
    rw [rbL_stay, hxl] at o2
    obtain ⟨ua, uc, rfl⟩ := owns_slice o2
    have HRW := hid (show StepsAt W _ (rebL p b f p.length) from RowK.of_owns o2 (by omega))
    have HDD := hid hD
    have HO7 := hid o7
    have HO8 := hid o8
    clear o2 o3 o4 o6 o7 o8 hxl hle hD
    go_wp2
    go_quiet (fail)
    go_wp2
    have hD2 : (W.drewN nq).heap[W0.heap.size]? = some (.deferred (some [])) := HDD.out
    have e1 := putObj_cell (o' := .deferred none) hD2 rfl (show (W.drewN nq).cell? _ = _ from o1)
    have e2 := putObj_cell (o' := .deferred none) hD2 rfl (show (W.drewN nq).cell? _ = _ from o5)
    refine leave_mark (v := .tuple #[.slice ua (rebL p b f p.length).length uc, .map (some (w.heap.size + 1 + 1))]) hD2 (by simp [results, Tryz.results105, go_sem, e1, e2]) ?_
    exact ⟨_, _, n7, rfl, putObj_rowK (o' := .deferred none) hD2 rfl (HRW.out.below (below_self_drewN W nq)), (HO7.out.drewN nq).of_block (World.putObj_heap_other (by omega)), putObj_below (.deferred none) (below_drewN HO8.out nq) (by omega)⟩
  case refine_7 =>
    intro c pre M W h
    exact h.elim
end Go.Proofs.YtmpjaakkjhmpmaaGreatDoor
namespace Go.Proofs.YtmpjaakkjhmpmaaGreatDoor
open Go Go.RowKit Go.Maps
theorem short_trim1 (q bq n : Nat) (z : Bool) (i : Nat) (X : World) (hn : n ≤ 1000) (hc : X.cell? ⟨bq, 0, none⟩ = some (.slice (some ⟨q, 0, none⟩) n n)) (hi : i < n) (hv : X.cell? ⟨q, i, none⟩ = some (.bool z)) :
    Calls Tryz.prog 106 #[.int .i64 i, .pointer (some ⟨bq, 0, none⟩)] X fun e X' => e = .returned (.bool z) ∧ X = X' := by
  go_enter Tryz.func106, Tryz.ntmps106
  go_wp2
  go_ret
  exact ⟨rfl, rfl⟩
theorem short_itself (i : Int) (X : World) : Calls Tryz.prog 107 #[.int .i64 i] X fun e X' => e = .returned (.int .i64 i) ∧ X = X' := by
  go_enter Tryz.func107, Tryz.ntmps107
  go_wp2
  go_ret
  exact ⟨rfl, rfl⟩
set_option maxHeartbeats 4000000 in
set_option maxRecDepth 100000 in
theorem short_trimmed (g : Int) (v : Value) (p : List St) (w : World) (hv : StepsAt w v p) (hg : proofB g p = true) :
    Calls Tryz.prog 57 #[v] w fun e w' => ∃ u, e = .returned u ∧ StepsAt w' u (trimL p) ∧ Below w.heap.size w w' := by
  have h60 := proof60 hg
  have HN := hid (short_needed g v p w hv hg)
  have HP := hid hv
  have HG := hid hg
  obtain ⟨pa, pc, rfl, -⟩ := hv.open
  clear hv hg
  go_enter Tryz.func57, Tryz.ntmps57
  go_wp2_with fail
  refine HN.out.mono ?_
  rintro e w1 ⟨q, rfl, hq, hown, hb1⟩
  have k1 := cell_new1 w1 (.slice (some ⟨q, 0, none⟩) p.length p.length) 82
  obtain ⟨W1, hW1⟩ : ∃ W1, w1.alloc (.cells #[.slice (some ⟨q, 0, none⟩) p.length p.length] 82) = W1 := ⟨_, rfl⟩
  have b1 : Below w1.heap.size w1 W1 := hW1 ▸ (Below.refl _ _).alloc (Nat.le_refl _) _
  rw [hW1] at k1
  have hbw : Below w.heap.size w W1 := hb1.trans (b1.mono hb1.size)
  have HST : Hid (StayC 106 #[.pointer (some ⟨w1.heap.size, 0, none⟩)] p.length (needL p) W1) := hid (fun X hX i hi => by
    have c0 := (hX.cell (World.block_lt_of_cell? _ _ k1)).trans k1
    have c1 := hown.cellAt i (by omega)
    rw [bools_at (by rw [needL_len]; exact hi)] at c1
    have c2 := (b1.cell (World.block_lt_of_cell? _ _ c1)).trans c1
    have c3 := (hX.cell (World.block_lt_of_cell? _ _ c2)).trans c2
    exact short_trim1 q w1.heap.size p.length (stB (needL p) i) i X (by omega) c0 hi c3)
  have HBC : Hid (BecC 107 #[] p.length id W1) := hid (fun X _ i _ => short_itself (i : Int) X)
  have HR := hid (short_rebuilt g (.slice pa p.length pc) 106 107 #[.pointer (some ⟨w1.heap.size, 0, none⟩)] #[] p (needL p) id W1 (HP.out.below hbw) HG.out (ok_need HG.out) HST.out HBC.out (enters_of Tryz.func106 rfl rfl) (enters_of Tryz.func107 rfl rfl))
  have HB := hid hbw
  have HW := hid hW1
  clear hown hb1 k1 b1 hbw hW1 HST HBC
  go_wp2_with (rw [HW.out])
  refine HR.out.mono ?_
  rintro e w2 ⟨u, mb, n, rfl, hu, -, hb2⟩
  have HB2 := hid (HB.out.trans (hb2.mono HB.out.size))
  have HU := hid hu
  obtain ⟨ua, uc, rfl, -⟩ := hu.open
  clear hu hb2
  go_wp2
  go_ret
  exact ⟨_, rfl, HU.out, HB2.out⟩
end Go.Proofs.YtmpjaakkjhmpmaaGreatDoor
