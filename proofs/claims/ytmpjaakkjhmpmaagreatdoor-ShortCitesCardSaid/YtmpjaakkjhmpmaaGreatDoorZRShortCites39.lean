/-
  WHAT IT HOLDS: contracts of slices.Max at ints and of Times of package short. Conditions: the arguments read as data.
  WHAT IT HOLDS: plain words on how often the steps of a proof come and how many steps their trees have: the machine's sums are the numbers' own; the times of the steps that cite add up to half of the count of the last step, rounded up. No program in sight.
  WHAT IT HOLDS: contracts of counts of package short and of the reference of layer 7. Conditions: the steps read as data; the proof is valid.
  WHAT IT HOLDS: plain words on proofs in which givens are cited: what more general terms are detached to is more general; which given is cited; what both sides do, step by step. No program in sight.
  WHAT IT HOLDS: plain words on the proof in which givens are cited: which given a statement is cited from, what the proof becomes step by step, that it is a proof, and that it says something of which the old one is an instance. No program in sight.
  WHAT IT HOLDS: contract of given of package short: which given a statement is cited from. Conditions: the arguments read as data; a small sign, a small list.
-/
import Derived.Lib.Slices
import Derived.Lib.MinMax
import Derived.Deep.RegionHeld3
import Derived.Test.YtmpjaakkjhmpmaaGreatDoorZRShortCites38
import Derived.Test.YtmpjaakkjhmpmaaGreatDoorZRShortCites0
import Derived.Test.YtmpjaakkjhmpmaaGreatDoorZRShortCites22
import Derived.Test.YtmpjaakkjhmpmaaGreatDoorZRShortCites35
import Derived.Test.YtmpjaakkjhmpmaaGreatDoorZRShortCites16
import Derived.Test.YtmpjaakkjhmpmaaGreatDoorZRShortCites34
import Derived.Test.YtmpjaakkjhmpmaaGreatDoorZRShortCites30
import Derived.Test.YtmpjaakkjhmpmaaGreatDoorZRShortCites33
namespace Go.Proofs.YtmpjaakkjhmpmaaGreatDoor
open Go Go.RowKit Go.Maps
set_option maxHeartbeats 1000000 in
theorem sl_MaxI (b n c : Nat) (zs : List Int) (w : World) (hn : 0 < n) (hz : zs.length = n) (hbig : n ≤ 1000) (hc : ∀ j, j < n → w.cell? ⟨b, j, none⟩ = some (.int .i64 (tmA zs j))) :
    Calls Tryz.prog 80 #[.slice (some ⟨b, 0, none⟩) n c] w fun e w' => e = .returned (.int .i64 (Lib.maxOf zs)) ∧ w' = w := by
  have h0 := hc 0 hn
  have HC := hid hc
  have HZ := hid hz
  obtain ⟨z0, hz0⟩ : ∃ z, tmA zs 0 = z := ⟨_, rfl⟩
  have HZ0 := hid hz0
  rw [hz0] at h0
  have nlt : ((n : Int) < 1) = False := by simp; omega
  clear hz hc hz0
  go_enter Tryz.func80, Tryz.ntmps80
  go_wp2
  go_loopw [3, 4] (fun m i wr => ∃ k : Nat, 0 < k ∧ k ≤ n ∧ i = .int .i64 k ∧ m = .int .i64 (Lib.maxOf (zs.take k)) ∧ wr = w) (fun _ i _ => n - (intOf i).toNat)
  case atStart => exact ⟨1, by omega, by omega, rfl, by rw [Lib.maxOf_one, ← HZ0.out]; rfl, rfl⟩
  case round =>
    obtain ⟨k, hk0, hk, rfl, rfl, rfl⟩ := hrel
    by_cases hlt : k < n
    · have ck := HC.out k hlt
      obtain ⟨z, hzz⟩ : ∃ z, tmA zs k = z := ⟨_, rfl⟩
      have HS : Hid (Lib.maxOf (zs.take (k + 1)) = max (Lib.maxOf (zs.take k)) z) := hid (by rw [Lib.maxOf_step zs k hk0 (by rw [HZ.out]; omega), ← hzz]; rfl)
      rw [hzz] at ck
      have q1 : IntKind.i64.wrap ((k : Int) + 1) = ((k + 1 : Nat) : Int) := by rw [IntWalk.i64_in _ (by omega)]; omega
      obtain ⟨M, hM⟩ : ∃ M, Lib.maxOf (zs.take k) = M := ⟨_, rfl⟩
      rw [hM] at HS ⊢
      clear hzz hM h0
      go_wp2
      go_roundw
      case rel => exact ⟨k + 1, by omega, by omega, by simp, by rw [HS.out], by first | rfl | trivial⟩
      case measure => simp [intOf]; omega
    · obtain rfl : k = n := by omega
      have HM : Hid (zs.take k = zs) := hid (List.take_of_length_le (by rw [HZ.out]; omega))
      clear h0
      go_wp2
      go_ret
      exact ⟨by rw [HM.out]; rfl, rfl⟩
theorem mkT_len (x : St) (i : Nat) (b : List Int) : (mkT x i b).length = b.length := by
  unfold mkT
  split
  · simp
  · rfl
theorem tmF_len (p : List St) : ∀ (i : Nat) (b : List Int), (tmF p i b).length = b.length
  | 0, _ => rfl
  | i + 1, b => by rw [tmF, tmF_len p i, mkT_len]
theorem timL_len (p : List St) : (timL p).length = p.length := by unfold timL tm0; rw [tmF_len]; simp
theorem ints_nil7 (w : World) : Ints w (.slice none 0 0) [] := ⟨by simp, none, 0, rfl, Nat.le_refl _, by simp, fun _ => rfl, by simp⟩
def timE (g : Int) (p : List St) : Int := if vldB g p = true then (if 1000000000000000 < Lib.maxOf (timL p) then 4 else 0) else 1
def TimesQ (g : Int) (p : List St) (w : World) (e : Ending) (w' : World) : Prop := ∃ u, e = .returned (.tuple #[u, .int .i64 (timE g p)]) ∧ Ints w' u (if timE g p = 0 then timL p else []) ∧ Below w.heap.size w w'
set_option maxHeartbeats 2000000 in
theorem short_Times (g : Int) (v : Value) (p : List St) (w : World) (hv : StepsAt w v p) :
    Calls Tryz.prog 34 #[.int .i64 g, v] w fun e w' => TimesQ g p w e w' := by
  have HV := hid (short_valid g v p w hv)
  have HP := hid hv
  obtain ⟨pa, pc, rfl, -⟩ := hv.open
  clear hv
  unfold TimesQ
  cases hb : vldB g p
  · have hE : vldE g p = 1 := by unfold vldE; rw [hb]; rfl
    have hE2 : timE g p = 1 := by unfold timE; rw [hb]; rfl
    rw [hE] at HV
    rw [hE2]
    clear hb hE HP hE2
    go_enter Tryz.func34, Tryz.ntmps34
    go_wp2_with fail
    refine HV.out.mono ?_
    rintro e w1 ⟨rfl, hb1⟩
    go_wp2
    go_ret2
    exact ⟨_, rfl, ints_nil7 _, hb1⟩
  · have hE : vldE g p = 0 := by unfold vldE; rw [hb]; rfl
    have hp : proofB g p = true := by unfold vldB at hb; rw [Bool.and_eq_true] at hb; exact hb.2
    have hE2 : timE g p = if 1000000000000000 < Lib.maxOf (timL p) then 4 else 0 := by unfold timE; rw [hb]; rfl
    have h60 := proof60 hp
    have h1 := proof1 hp
    have hlen := timL_len p
    have HT := hid (fun (X : World) (hX : Below w.heap.size w X) => short_times g (.slice pa p.length pc) p X (HP.out.below hX) hp)
    rw [hE] at HV
    rw [hE2]
    obtain ⟨M, hM⟩ : ∃ M, Lib.maxOf (timL p) = M := ⟨_, rfl⟩
    rw [hM]
    have HMM := hid hM
    clear hb hE HP hE2 hp hM
    have hq : (1000000000000000 < M ∧ (if 1000000000000000 < M then (4 : Int) else 0) = 4) ∨ (¬ 1000000000000000 < M ∧ (if 1000000000000000 < M then (4 : Int) else 0) = 0) := by
      by_cases h : 1000000000000000 < M
      · exact Or.inl ⟨h, if_pos h⟩
      · exact Or.inr ⟨h, if_neg h⟩
    rcases hq with ⟨hlt, e1⟩ | ⟨hlt, e1⟩
    all_goals
      rw [e1]
      clear e1
      go_enter Tryz.func34, Tryz.ntmps34
      go_wp2_with fail
      refine HV.out.mono ?_
      rintro e w1 ⟨rfl, hb1⟩
      have HB1 := hid hb1
      have K := hid (HT.out w1 hb1)
      clear hb1
      go_wp2_with fail
      refine K.out.mono ?_
      rintro e w2 ⟨q, rfl, hq, hown, hb2⟩
      have HB2 := hid (HB1.out.trans (hb2.mono HB1.out.size))
      have HMX := hid (sl_MaxI q p.length p.length (timL p) w2 (by omega) hlen (by omega) (fun j hj => by
        have hc := hown.cellAt j (by omega)
        rwa [tms_at (by omega)] at hc))
      rw [HMM.out] at HMX
      rw [← hlen] at hown
      have HO := hid (Ints.of_owns hown (by omega))
      rw [hlen] at HO
      clear hown hb2 hlen K
      go_wp2_with fail
      refine HMX.out.mono ?_
      rintro e w3 ⟨rfl, rfl⟩
      clear HMX
      go_wp2
      go_ret2
      first | exact ⟨_, rfl, ints_nil7 _, HB2.out⟩ | exact ⟨_, rfl, HO.out, HB2.out⟩
end Go.Proofs.YtmpjaakkjhmpmaaGreatDoor
namespace Go.Proofs.YtmpjaakkjhmpmaaGreatDoor
open Go Go.RowKit
end Go.Proofs.YtmpjaakkjhmpmaaGreatDoor
namespace Go.Proofs.YtmpjaakkjhmpmaaGreatDoor
open Go Go.RowKit Go.Maps Go.Shelf
attribute [local go_sem] Oper.semAt_some
end Go.Proofs.YtmpjaakkjhmpmaaGreatDoor
namespace Go.Proofs.YtmpjaakkjhmpmaaGreatDoor
open Go Go.RowKit Go.Maps
theorem inst_total {s : Sg} {a b : List Int} (ha : IsT s 12 a) (h : Inst s 12 a b) : ∃ σ : Int → List Int, (∀ v, -12 ≤ v → v < 0 → IsT s 12 (σ v)) ∧ subL σ a = b := by
  obtain ⟨σ, h1, h2⟩ := h
  refine ⟨fun v => if v ∈ a then σ v else [v], fun v hv0 hv1 => ?_, ?_⟩
  · show IsT s 12 (if v ∈ a then σ v else [v])
    split
    · exact h1 v (by assumption) hv1
    · exact .var _ (by omega) hv1
  · rw [← h2]
    refine subL_congr fun n hn h0 => ?_
    show (if n ∈ a then σ n else [n]) = σ n
    rw [if_pos hn]
/-- what more general terms are detached to is more general. -/
theorem det_gen {s : Sg} {M N mm nn : List Int} {x y : List Int × Int} (h1 : instB s M mm = true) (h2 : instB s N nn = true) (hx : DetR s mm nn x) (hy : DetR s M N y) (hx0 : x.2 = 0) (hy4 : y.2 ≠ 4) (hy10 : y.2 ≠ 10) :
    y.2 = 0 ∧ instB s y.1 x.1 = true := by
  obtain ⟨vM, -, hi1⟩ := instB_iff.1 h1
  obtain ⟨vN, -, hi2⟩ := instB_iff.1 h2
  obtain ⟨l, lT, rfl⟩ := inst_total (termB_T vM) hi1
  obtain ⟨k, kT, rfl⟩ := inst_total (termB_T vN) hi2
  rcases hy with ⟨hf, -⟩ | ⟨-, -, ⟨-, rfl⟩ | ⟨C, D, rfl, tC, tD, hy⟩⟩
  · rw [vM, vN] at hf; cases hf
  · exact absurd rfl hy10
  rcases hx with ⟨-, rfl⟩ | ⟨vm, vn, ⟨-, rfl⟩ | ⟨A, B, hm, tA, tB, hx⟩⟩
  · cases hx0
  · cases hx0
  have hf := termB_facts vM
  have hs0 : subL l (0 :: (C ++ D)) = 0 :: (subL l C ++ subL l D) := by
    rw [subL_cons_app _ (by omega), subL_append]
  rw [hs0] at hm
  have tC' : IsT s 12 (subL l C) := tC.sub fun n hn h0 => lT n (by have := tC.vars n hn h0; omega) h0
  have tD' : IsT s 12 (subL l D) := tD.sub fun n hn h0 => lT n (by have := tD.vars n hn h0; omega) h0
  have hu := cut_unique [subL l C, subL l D] [A, B] [] [] (by intro a ha; simp at ha; rcases ha with rfl | rfl <;> assumption) (by intro a ha; simp at ha; rcases ha with rfl | rfl <;> assumption) rfl (by simpa using hm)
  simp only [List.cons.injEq, and_true] at hu
  obtain ⟨rfl, rfl⟩ := hu
  rcases hx with ⟨-, rfl⟩ | ⟨m', hm', ⟨hb', rfl⟩ | ⟨-, rfl⟩⟩
  · cases hx0
  rotate_left
  · cases hx0
  have tN := termB_T vN
  -- the unifier of the whole
  let θ : Int → List Int := fun v => if -12 ≤ v then subL (sg m') (l v) else subL (sg m') (aparL (k (v + 12)))
  have hsT := fun v h1 h2 => sg_T hm'.1 (n := v) h1 h2
  have θT : ∀ v, -24 ≤ v → v < 0 → IsT s 24 (θ v) := by
    intro v h1 h2
    show IsT s 24 (if -12 ≤ v then _ else _)
    split
    · rename_i h
      exact subL_T hsT ((lT v h h2).mono (by omega))
    · exact subL_T hsT (aparL_T (kT (v + 12) (by omega) (by omega)))
  have hTS : TS s θ := ⟨24, θT⟩
  have θ1 : ∀ {t : List Int}, IsT s 12 t → subL θ t = subL (sg m') (subL l t) := by
    intro t ht
    rw [subL_comp]
    refine subL_congr fun n hn h0 => ?_
    have := ht.vars n hn h0
    show (if -12 ≤ n then _ else _) = _
    rw [if_pos (by omega)]
  have θ2 : subL θ (aparL N) = subL (sg m') (aparL (subL k N)) := by
    have e1 : aparL (subL k N) = subL (fun n => aparL (k n)) N := by
      rw [aparL_sub, subL_comp]
      exact subL_congr fun n _ _ => (aparL_sub _).symm
    rw [e1, aparL_sub N, subL_comp, subL_comp]
    refine subL_congr fun n hn h0 => ?_
    have := tN.vars n hn h0
    rw [subL_one, if_pos (by omega)]
    show (if -12 ≤ n - 12 then _ else _) = _
    rw [if_neg (by omega), show n - 12 + 12 = n by omega]
  have hE : subL θ C = subL θ (aparL N) := by rw [θ1 tC, θ2]; exact hm'.sol
  rcases hy with ⟨hno, -⟩ | ⟨m, hm2, ⟨hb, rfl⟩ | ⟨-, rfl⟩⟩
  · exact absurd hE (hno θ hTS)
  rotate_left
  · exact absurd rfl hy4
  refine ⟨rfl, ?_⟩
  have hg := hm2.gen hTS hE D
  have hF := fw_T hm2.1 (tD.mono (m' := 24) (by omega))
  have hF' := fw_T hm'.1 (tD'.mono (m' := 24) (by omega))
  have hv := made_term hf.1 hF hb
  have hv' := made_term hf.1 hF' hb'
  refine instB_iff.2 ⟨hv, hv', Inst.down (q := 24) (by omega) (termB_T hv) (termB_T hv') (((inst_canon hF).trans ⟨θ, fun n hn h0 => θT n (by have := hF.vars n hn h0; omega) h0, ?_⟩).trans (canon_inst ((termB_T hv').mono (by omega)) (canonL_canon _).symm))⟩
  rw [hg, θ1 tD, fw_sub hm'.1]
end Go.Proofs.YtmpjaakkjhmpmaaGreatDoor
namespace Go.Proofs.YtmpjaakkjhmpmaaGreatDoor
open Go Go.RowKit Go.Maps
/-- the i-th given is at least as general as each one of which t is an instance, or apart from it. -/
def ovrB (s : Sg) (g : List (List Int)) (t : List Int) (i k : Nat) : Bool := !(instB s (g.getD k []) t) || !(instB s (g.getD k []) (g.getD i [])) || instB s (g.getD i []) (g.getD k [])
def bestB (s : Sg) (g : List (List Int)) (t : List Int) (i : Nat) : Bool := instB s (g.getD i []) t && (List.range g.length).all (ovrB s g t i)
def bestI (s : Sg) (g : List (List Int)) (t : List Int) : Int := match (List.range g.length).find? (bestB s g t) with | some i => (i : Int) | none => -1
theorem bestI_cases (s : Sg) (g : List (List Int)) (t : List Int) : bestI s g t = -1 ∨ ∃ i, i < g.length ∧ bestI s g t = (i : Int) ∧ instB s (g.getD i []) t = true := by
  unfold bestI
  cases h : (List.range g.length).find? (bestB s g t) with
  | none => exact Or.inl rfl
  | some i =>
    refine Or.inr ⟨i, List.mem_range.1 (List.mem_of_find?_eq_some h), rfl, ?_⟩
    have := List.find?_some h
    unfold bestB at this
    rw [Bool.and_eq_true] at this
    exact this.1
theorem find_range {f : Nat → Bool} {n i : Nat} (hi : i < n) (h1 : ∀ j, j < i → f j = false) (h2 : f i = true) : (List.range n).find? f = some i := by
  obtain ⟨m, rfl⟩ : ∃ m, n = i + 1 + m := ⟨n - (i + 1), by omega⟩
  rw [List.range_add, List.find?_append, List.range_succ, List.find?_append]
  have e : (List.range i).find? f = none := List.find?_eq_none.2 fun j hj => by rw [h1 j (List.mem_range.1 hj)]; simp
  rw [e]
  simp [h2]
theorem bestI_at {s : Sg} {g : List (List Int)} {t : List Int} {i : Nat} (hi : i < g.length) (h1 : ∀ j, j < i → bestB s g t j = false) (h2 : bestB s g t i = true) : bestI s g t = (i : Int) := by
  unfold bestI
  rw [find_range hi h1 h2]
theorem bestI_no {s : Sg} {g : List (List Int)} {t : List Int} (h1 : ∀ j, j < g.length → bestB s g t j = false) : bestI s g t = -1 := by
  unfold bestI
  have e : (List.range g.length).find? (bestB s g t) = none := List.find?_eq_none.2 fun j hj => by rw [h1 j (List.mem_range.1 hj)]; simp
  rw [e]
/-- the part of the givens that was looked at. -/
def ovrA (s : Sg) (g : List (List Int)) (t : List Int) (i k : Nat) : Bool := (List.range k).all (ovrB s g t i)
theorem ovrA_succ (s : Sg) (g : List (List Int)) (t : List Int) (i k : Nat) : ovrA s g t i (k + 1) = (ovrA s g t i k && ovrB s g t i k) := by
  unfold ovrA
  rw [List.range_succ, List.all_append]
  simp
theorem ovrA_0 (s : Sg) (g : List (List Int)) (t : List Int) (i : Nat) : ovrA s g t i 0 = true := rfl
theorem bestB_no {s : Sg} {g : List (List Int)} {t : List Int} {i : Nat} (h : instB s (g.getD i []) t = false) : bestB s g t i = false := by unfold bestB; rw [h]; rfl
theorem bestB_eq {s : Sg} {g : List (List Int)} {t : List Int} {i : Nat} (h : instB s (g.getD i []) t = true) : bestB s g t i = ovrA s g t i g.length := by unfold bestB; rw [h]; rfl
def citS (s : Sg) (g : List (List Int)) (x : St) (t : List Int) : St := if bestI s g t < 0 then x else (1, bestI s g t, 0)
def citT (s : Sg) (g : List (List Int)) (t : List Int) : List Int := if bestI s g t < 0 then t else canonL (g.getD (bestI s g t).toNat [])
/-- what the first k steps have become, and what they say. -/
inductive CiR (s : Sg) (g : List (List Int)) (p : List St) : Nat → List St → List (List Int) → Prop
  | zero : CiR s g p 0 [] []
  | cite {k : Nat} {o : List St} {l : List (List Int)} {x : St} : CiR s g p k o l → p[k]? = some x → x.1 = 1 → CiR s g p (k + 1) (o ++ [x]) (l ++ [canonL (g.getD x.2.1.toNat [])])
  | det {k : Nat} {o : List St} {l : List (List Int)} {x : St} {t : List Int} : CiR s g p k o l → p[k]? = some x → x.1 ≠ 1 → DetR s (l.getD x.2.1.toNat []) (l.getD x.2.2.toNat []) (t, 0) → CiR s g p (k + 1) (o ++ [citS s g x t]) (l ++ [citT s g t])
theorem CiR.len {s : Sg} {g : List (List Int)} {p : List St} {k : Nat} {o : List St} {l : List (List Int)} (h : CiR s g p k o l) : o.length = k ∧ l.length = k ∧ k ≤ p.length := by
  induction h with
  | zero => exact ⟨rfl, rfl, Nat.zero_le _⟩
  | cite h hx _ ih => have := (List.getElem?_eq_some_iff.1 hx).1; simp; omega
  | det h hx _ _ ih => have := (List.getElem?_eq_some_iff.1 hx).1; simp; omega
theorem CiR.unique {s : Sg} {g : List (List Int)} {p : List St} {k : Nat} {o o' : List St} {l l' : List (List Int)} (h : CiR s g p k o l) (h' : CiR s g p k o' l') : o = o' ∧ l = l' := by
  induction h generalizing o' l' with
  | zero => cases h'; exact ⟨rfl, rfl⟩
  | cite h hx h1 ih =>
    cases h' with
    | cite k kx k1 =>
      obtain ⟨rfl, rfl⟩ := ih k
      rw [hx] at kx; cases kx; exact ⟨rfl, rfl⟩
    | det k kx k1 _ => rw [hx] at kx; cases kx; exact absurd h1 k1
  | det h hx h1 hd ih =>
    cases h' with
    | cite k kx k1 => rw [hx] at kx; cases kx; exact absurd k1 h1
    | det k kx k1 kd =>
      obtain ⟨rfl, rfl⟩ := ih k
      rw [hx] at kx; cases kx
      have e := hd.unique kd
      cases e
      exact ⟨rfl, rfl⟩
theorem CiR.down {s : Sg} {g : List (List Int)} {p : List St} {n : Nat} {o : List St} {l : List (List Int)} (h : CiR s g p n o l) {k : Nat} (hk : k ≤ n) : ∃ o' l', CiR s g p k o' l' := by
  induction h with
  | zero => obtain rfl : k = 0 := by omega
            exact ⟨_, _, .zero⟩
  | @cite n o l x h hx h1 ih =>
    by_cases e : k = n + 1
    · subst e; exact ⟨_, _, .cite h hx h1⟩
    · exact ih (by omega)
  | @det n o l x t h hx h1 hd ih =>
    by_cases e : k = n + 1
    · subst e; exact ⟨_, _, .det h hx h1 hd⟩
    · exact ih (by omega)
/-- where a step says nothing the proof does not end. -/
theorem CiR.stuck {s : Sg} {g : List (List Int)} {p : List St} {n k : Nat} {o o' : List St} {l l' : List (List Int)} {x : St} {y : List Int × Int} (h : CiR s g p n o l) (hk : k < n) (h' : CiR s g p k o' l') (hx : p[k]? = some x) (h1 : x.1 ≠ 1) (hd : DetR s (l'.getD x.2.1.toNat []) (l'.getD x.2.2.toNat []) y) (hy : y.2 ≠ 0) : False := by
  obtain ⟨o2, l2, h2⟩ := h.down (show k + 1 ≤ n by omega)
  cases h2 with
  | cite k1 kx k2 => rw [hx] at kx; cases kx; exact h1 k2
  | det k1 kx k2 kd =>
    rw [hx] at kx; cases kx
    obtain ⟨rfl, rfl⟩ := k1.unique h'
    have e := hd.unique kd
    rw [e] at hy
    exact hy rfl
/-- what both sides answer. -/
def CitQ (s : Sg) (g : List (List Int)) (p : List St) (o : List St) (er : Int) : Prop :=
  ∃ lp e0, SaidQ s g p lp e0 ∧ ((e0 ≠ 0 ∧ o = [] ∧ er = e0) ∨ (e0 = 0 ∧ ((∃ l, CiR s g p p.length o l ∧ er = 0) ∨ (o = [] ∧ er = 11 ∧ ∃ k o' l' x y, CiR s g p k o' l' ∧ p[k]? = some x ∧ x.1 ≠ 1 ∧ DetR s (l'.getD x.2.1.toNat []) (l'.getD x.2.2.toNat []) y ∧ y.2 ≠ 0))))
theorem CitQ.unique {s : Sg} {g : List (List Int)} {p : List St} {o o' : List St} {e e' : Int} (h : CitQ s g p o e) (k : CitQ s g p o' e') : o = o' ∧ e = e' := by
  obtain ⟨lp, e0, h1, h2⟩ := h
  obtain ⟨lp', e0', k1, k2⟩ := k
  obtain ⟨rfl, rfl⟩ := h1.unique k1
  rcases h2 with ⟨n0, rfl, rfl⟩ | ⟨n0, h2⟩ <;> rcases k2 with ⟨m0, rfl, rfl⟩ | ⟨m0, k2⟩
  · exact ⟨rfl, rfl⟩
  · exact absurd m0 n0
  · exact absurd n0 m0
  · rcases h2 with ⟨l, h2, rfl⟩ | ⟨rfl, rfl, i, a, b, x, y, c1, c2, c3, c4, c5⟩ <;> rcases k2 with ⟨l', k2, rfl⟩ | ⟨rfl, rfl, i', a', b', x', y', d1, d2, d3, d4, d5⟩
    · exact ⟨(h2.unique k2).1, rfl⟩
    · exact (h2.stuck (List.getElem?_eq_some_iff.1 d2).1 d1 d2 d3 d4 d5).elim
    · exact (k2.stuck (List.getElem?_eq_some_iff.1 c2).1 c1 c2 c3 c4 c5).elim
    · exact ⟨rfl, rfl⟩
theorem run_add {s : Sg} {g : List (List Int)} {o : List St} {l : List (List Int)} {x : St} {t : List Int} (h : RunR s g o l 0) (hx : sayR s g l x (t, 0)) : RunR s g (o ++ [x]) (l ++ [t]) 0 := by
  have hl := run_len h
  refine ⟨fun i u hi => ?_, Or.inl ⟨rfl, by simp [hl]⟩⟩
  by_cases e : i < l.length
  · rw [List.getElem?_append_left e] at hi
    obtain ⟨st, h1, h2⟩ := h.1 i u hi
    exact ⟨st, by rw [List.getElem?_append_left (by omega)]; exact h1, by rw [List.take_append_of_le_length (by omega)]; exact h2⟩
  · have hi2 := (List.getElem?_eq_some_iff.1 hi).1
    rw [List.length_append] at hi2
    have e2 : i = l.length := by simp at hi2; omega
    subst e2
    rw [List.getElem?_append_right (Nat.le_refl _), Nat.sub_self] at hi
    simp at hi
    subst hi
    exact ⟨x, by rw [hl, List.getElem?_append_right (Nat.le_refl _), Nat.sub_self]; rfl, by rw [List.take_append_of_le_length (Nat.le_refl _), List.take_length]; exact hx⟩
theorem run_nil (s : Sg) (g : List (List Int)) : RunR s g [] [] 0 := ⟨fun i t h => by simp at h, Or.inl ⟨rfl, rfl⟩⟩
theorem CiR.run {s : Sg} {g : List (List Int)} {p : List St} {k : Nat} {o : List St} {l : List (List Int)} (h : CiR s g p k o l) : RunR s g o l 0 := by
  induction h with
  | zero => exact run_nil s g
  | cite h hx h1 ih => exact run_add ih (by unfold sayR; rw [if_pos h1])
  | @det k o l x t h hx h1 hd ih =>
    refine run_add ih ?_
    unfold citS citT
    by_cases c : bestI s g t < 0
    · rw [if_pos c, if_pos c]
      unfold sayR; rw [if_neg h1]; exact hd
    · rw [if_neg c, if_neg c]
      unfold sayR; rw [if_pos rfl]
theorem CiR.right {s : Sg} {g : List (List Int)} {p : List St} (hp : proofB g.length p = true) {k : Nat} {o : List St} {l : List (List Int)} (h : CiR s g p k o l) : ∀ j (hj : j < o.length), rightB g.length j o[j] = true := by
  induction h with
  | zero => intro j hj; cases hj
  | @cite k o l x h hx h1 ih =>
    intro j hj
    have hl := h.len
    obtain ⟨hk, hkx⟩ := List.getElem?_eq_some_iff.1 hx
    by_cases e : j < o.length
    · rw [List.getElem_append_left e]; exact ih j e
    · have e2 : j = o.length := by simp at hj; omega
      subst e2
      rw [List.getElem_append_right (Nat.le_refl _)]
      simp only [Nat.sub_self, List.getElem_cons_zero]
      have := proofB_at hp hk
      rw [hkx] at this
      rw [hl.1]; exact this
  | @det k o l x t h hx h1 hd ih =>
    intro j hj
    have hl := h.len
    obtain ⟨hk, hkx⟩ := List.getElem?_eq_some_iff.1 hx
    by_cases e : j < o.length
    · rw [List.getElem_append_left e]; exact ih j e
    · have e2 : j = o.length := by simp at hj; omega
      subst e2
      rw [List.getElem_append_right (Nat.le_refl _)]
      simp only [Nat.sub_self, List.getElem_cons_zero]
      have hr := proofB_at hp hk
      rw [hkx] at hr
      rw [hl.1]
      unfold citS
      rcases bestI_cases s g t with c | ⟨i, hi, c, -⟩
      · rw [if_pos (by omega)]; exact hr
      · rw [if_neg (by omega), c]
        unfold rightB
        rw [if_pos rfl, Bool.and_eq_true]
        exact ⟨inB_true.2 (by dsimp only; omega), by simp⟩
theorem CiR.valid {s : Sg} {g : List (List Int)} {p : List St} (hp : proofB g.length p = true) {k : Nat} {o : List St} {l : List (List Int)} (h : CiR s g p k o l) (hk : 0 < k) : proofB g.length o = true := by
  have h60 := proof60 hp
  have hl := h.len
  rw [proofB_all (h.right hp)]
  exact inB_true.2 (by omega)
theorem asked_of {s : Sg} {g : List (List Int)} {p : List St} (hg : givensB s g = true) (hp : proofB g.length p = true) : askedB s g p = true := by unfold askedB; rw [hg, hp]; rfl
theorem CiR.gen {s : Sg} {g : List (List Int)} {p : List St} {lp : List (List Int)} (ha : askedB s g p = true) (hr : RunR s g p lp 0) {k : Nat} {o : List St} {l : List (List Int)} (h : CiR s g p k o l) : ∀ j, j < k → instB s (l.getD j []) (lp.getD j []) = true := by
  obtain ⟨hg, hp⟩ := asked_parts ha
  have hpl := run_len hr
  induction h with
  | zero => intro j hj; cases hj
  | @cite k o l x h hx h1 ih =>
    intro j hj
    have hl := h.len
    obtain ⟨hk, hkx⟩ := List.getElem?_eq_some_iff.1 hx
    by_cases e : j < k
    · rw [getD_left (by omega)]; exact ih j e
    · have e2 : j = k := by omega
      subst e2
      have e3 : lp.getD j [] = lp[j]'(by omega) := by rw [List.getD_eq_getElem?_getD, List.getElem?_eq_getElem (by omega)]; rfl
      obtain ⟨st, s1, s2⟩ := hr.1 j (lp.getD j []) (by rw [e3]; exact List.getElem?_eq_getElem _)
      rw [hx] at s1; cases s1
      unfold sayR at s2
      rw [if_pos h1] at s2
      have e4 : lp.getD j [] = canonL (g.getD x.2.1.toNat []) := congrArg Prod.fst s2
      have e5 : (l ++ [canonL (g.getD x.2.1.toNat [])]).getD j [] = canonL (g.getD x.2.1.toNat []) := by rw [← hl.2.1]; exact getD_last
      rw [e5, ← e4, instB_refl]
      exact run_terms ha hr _ (by rw [e3]; exact List.getElem_mem _)
  | @det k o l x t h hx h1 hd ih =>
    intro j hj
    have hl := h.len
    obtain ⟨hk, hkx⟩ := List.getElem?_eq_some_iff.1 hx
    by_cases e : j < k
    · rw [getD_left (by omega)]; exact ih j e
    · have e2 : j = k := by omega
      subst e2
      have e3 : lp.getD j [] = lp[j]'(by omega) := by rw [List.getD_eq_getElem?_getD, List.getElem?_eq_getElem (by omega)]; rfl
      obtain ⟨st, s1, s2⟩ := hr.1 j (lp.getD j []) (by rw [e3]; exact List.getElem?_eq_getElem _)
      rw [hx] at s1; cases s1
      unfold sayR at s2
      rw [if_neg h1] at s2
      have hrt := proofB_at hp hk
      rw [hkx] at hrt
      have e5 : (l ++ [citT s g t]).getD j [] = citT s g t := by rw [← hl.2.1]; exact getD_last
      rw [e5]
      rcases right_step hrt with ⟨c1, -⟩ | ⟨-, c2, c3, c4, c5⟩
      · exact absurd c1 h1
      have ta : (lp.take j).getD x.2.1.toNat [] = lp.getD x.2.1.toNat [] := by rw [List.getD_eq_getElem?_getD, List.getElem?_take_of_lt (by omega), ← List.getD_eq_getElem?_getD]
      have tb : (lp.take j).getD x.2.2.toNat [] = lp.getD x.2.2.toNat [] := by rw [List.getD_eq_getElem?_getD, List.getElem?_take_of_lt (by omega), ← List.getD_eq_getElem?_getD]
      rw [ta, tb] at s2
      have hi := (det_gen (ih x.2.1.toNat (by omega)) (ih x.2.2.toNat (by omega)) s2 hd rfl (by show (0 : Int) ≠ 4; decide) (by show (0 : Int) ≠ 10; decide)).2
      have hi : instB s t (lp.getD j []) = true := hi
      unfold citT
      rcases bestI_cases s g t with c | ⟨i, hig, c, hb⟩
      · rw [if_pos (by omega)]; exact hi
      · rw [if_neg (by omega), c, Int.toNat_natCast]
        have hd2 : CiR s g p (j + 1) (o ++ [citS s g x t]) (l ++ [citT s g t]) := .det h hx h1 hd
        have hT := run_terms (asked_of hg (hd2.valid hp (by omega))) hd2.run (citT s g t) (by simp)
        have eT : citT s g t = canonL (g.getD i []) := by unfold citT; rw [if_neg (by omega), c, Int.toNat_natCast]
        rw [eT] at hT
        have hv := (instB_iff.1 hb).1
        have hq : instB s (canonL (g.getD i [])) (g.getD i []) = true := instB_iff.2 ⟨hT, hv, inst_canon (termB_T hv)⟩
        exact instB_trans hq (instB_trans hb hi)
/-- what the proof says in which givens are cited. -/
theorem cites_law {s : Sg} {g : List (List Int)} {p o : List St} (h : CitQ s g p o 0) : ∃ U V, SayP s g p (V, 0) ∧ SayP s g o (U, 0) ∧ o.length = p.length ∧ instB s U V = true := by
  obtain ⟨lp, e0, h1, ⟨n0, -, e⟩ | ⟨rfl, ⟨l, h2, -⟩ | ⟨-, e, -⟩⟩⟩ := h
  · exact absurd e.symm n0
  rotate_left
  · cases e
  obtain ⟨ha, hr⟩ := h1.good
  obtain ⟨hg, hp⟩ := asked_parts ha
  have hp1 := proof1 hp
  have hl := h2.len
  have hpl := run_len hr
  have h3 := h2.gen ha hr (p.length - 1) (by omega)
  have lastOf : ∀ m : List (List Int), m.length = p.length → m.getLast? = some (m.getD (p.length - 1) []) := fun m hm => by
    rw [List.getLast?_eq_getElem?, hm, List.getD_eq_getElem?_getD, List.getElem?_eq_getElem (by omega)]; rfl
  exact ⟨l.getD (p.length - 1) [], lp.getD (p.length - 1) [], say_ok hg hr hp (lastOf lp hpl), say_ok hg h2.run (h2.valid hp (by omega)) (lastOf l hl.2.1), hl.1, h3⟩
end Go.Proofs.YtmpjaakkjhmpmaaGreatDoor
namespace Go.Proofs.YtmpjaakkjhmpmaaGreatDoor
open Go Go.RowKit Go.Maps
set_option maxRecDepth 100000 in
theorem short_given1 (q : Nat) (vs vl vt : Value) (ps pl pt : Nat) (s : Sg) (l : List (List Int)) (t : List Int) (w : World) (hs : SignAt w vs s) (hv : Terms w vl l) (ht : Ints w vt t) (hs1 : s.length ≤ 1000) (hq : q < l.length)
    (c1 : w.cell? ⟨ps, 0, none⟩ = some vs) (c2 : w.cell? ⟨pl, 0, none⟩ = some vl) (c3 : w.cell? ⟨pt, 0, none⟩ = some vt) :
    Calls Tryz.prog 122 #[.int .i64 q, .pointer (some ⟨ps, 0, none⟩), .pointer (some ⟨pl, 0, none⟩), .pointer (some ⟨pt, 0, none⟩)] w fun e w' => e = .returned (.bool (instB s (l.getD q []) t)) ∧ Below w.heap.size w w' := by
  obtain ⟨sa, scap, rfl, _⟩ := hs.open
  obtain ⟨la, lcap, rfl, -, -, -, HC⟩ := hv.open
  obtain ⟨ta, tcap, rfl, _⟩ := ht.open
  obtain ⟨b, o, x, rfl, cx, hx⟩ := HC q hq
  obtain ⟨xa, xc, rfl, -⟩ := hx.open
  have e1 : l.getD q [] = l[q] := by simp [List.getD, hq]
  have HI := hid (unify_Instance (.slice sa s.length scap) (.slice xa l[q].length xc) (.slice ta t.length tcap) s l[q] t (w.drewN 1) (hs.drewN 1) (hx.drewN 1) (ht.drewN 1) hs1)
  rw [e1]
  have z0 : (0 : Int) ≤ (q : Int) := by omega
  have z1 : (q : Int) < (l.length : Int) := by omega
  obtain ⟨z, hz⟩ : ∃ z, instB s l[q] t = z := ⟨_, rfl⟩
  rw [hz] at HI ⊢
  obtain ⟨m, hm⟩ : ∃ m, l[q].length = m := ⟨_, rfl⟩
  rw [hm] at HI cx
  clear HC hs hv ht hx e1 hz hm
  go_enter Tryz.func122, Tryz.ntmps122
  go_wp2
  go_region_held3 (fun w' => w'.cell? ⟨ps, 0, none⟩ = some (.slice sa s.length scap) ∧ w'.cell? ⟨pl, 0, none⟩ = some (.slice (some ⟨b, o, none⟩) l.length lcap) ∧ w'.cell? ⟨pt, 0, none⟩ = some (.slice ta t.length tcap) ∧ w'.cell? ⟨b, o + q, none⟩ = some (.slice xa m xc))
    (first | exact ⟨by assumption, by assumption, by assumption, by assumption⟩ | go_keep)
    (first
    | (go_at_call 104; refine HI.out.mono ?_; rintro e w1 ⟨rfl, hb1'⟩
       have hb1 : Below w.heap.size w w1 := (below_self_drewN w 1).trans hb1'
       have d1 := (hb1.cell (World.block_lt_of_cell? _ _ c1)).trans c1
       have d2 := (hb1.cell (World.block_lt_of_cell? _ _ c2)).trans c2
       have d3 := (hb1.cell (World.block_lt_of_cell? _ _ c3)).trans c3
       have d4 := (hb1.cell (World.block_lt_of_cell? _ _ cx)).trans cx))
  go_wp2
  go_ret
  exact ⟨rfl, hb1⟩
theorem alikeB_and (s : Sg) (a b : List Int) : alikeB s a b = (instB s a b && instB s b a) := by
  rw [Bool.eq_iff_iff, alikeB_iff, Bool.and_eq_true]
set_option maxHeartbeats 4000000 in
set_option maxRecDepth 100000 in
theorem short_given (vs vg vt : Value) (s : Sg) (g : List (List Int)) (t : List Int) (w : World) (hs : SignAt w vs s) (hg : Terms w vg g) (ht : Ints w vt t) (hs1 : s.length ≤ 1000) (hl1 : g.length ≤ 1000) :
    Calls Tryz.prog 87 #[vs, vg, vt] w fun e w' => e = .returned (.int .i64 (bestI s g t)) ∧ Below w.heap.size w w' := by
  obtain ⟨sa, scap, rfl, _⟩ := hs.open
  obtain ⟨la, lcap, rfl, -, -, -, HC⟩ := hg.open
  obtain ⟨ta, tcap, rfl, _⟩ := ht.open
  obtain ⟨k1, k2, k3, k4⟩ := boxes3 w (.slice sa s.length scap) (.slice la g.length lcap) (.slice ta t.length tcap) 23 24 34
  obtain ⟨W, hW⟩ : ∃ W, ((w.alloc (.cells #[.slice sa s.length scap] 23)).alloc (.cells #[.slice la g.length lcap] 24)).alloc (.cells #[.slice ta t.length tcap] 34) = W := ⟨_, rfl⟩
  have hsz : W.heap.size = w.heap.size + 3 := by rw [← hW]; simp
  rw [hW] at k1 k2 k3 k4
  have HSW := hid (hs.below k4)
  have HOV : Hid (∀ (q : Nat), q < g.length → ∀ X, Below W.heap.size W X → Calls Tryz.prog 122 #[.int .i64 q, .pointer (some ⟨w.heap.size, 0, none⟩), .pointer (some ⟨w.heap.size + 1, 0, none⟩), .pointer (some ⟨w.heap.size + 1 + 1, 0, none⟩)] X fun e w' => e = .returned (.bool (instB s (g.getD q []) t)) ∧ Below X.heap.size X w') := hid (fun q hq X hX => by
    have hbX := k4.trans (hX.mono k4.size)
    refine short_given1 q _ _ _ w.heap.size (w.heap.size + 1) (w.heap.size + 1 + 1) s g t X (hs.below hbX) (hg.below hbX) (ht.below hbX) hs1 hq ?_ ?_ ?_
    · rw [hX.cell (p := ⟨w.heap.size, 0, none⟩) (by rw [hsz]; show w.heap.size < _; omega)]; exact k1
    · rw [hX.cell (p := ⟨w.heap.size + 1, 0, none⟩) (by rw [hsz]; show w.heap.size + 1 < _; omega)]; exact k2
    · rw [hX.cell (p := ⟨w.heap.size + 1 + 1, 0, none⟩) (by rw [hsz]; show w.heap.size + 1 + 1 < _; omega)]; exact k3)
  have HCW := hid (fun (q : Nat) (hq : q < g.length) (X : World) (hX : Below W.heap.size W X) => (show ∃ b o x, la = some ⟨b, o, none⟩ ∧ X.cell? ⟨b, o + q, none⟩ = some x ∧ Ints X x (g.getD q []) from by
    obtain ⟨b, o, x, e, c, hx⟩ := HC q hq
    have hbX := k4.trans (hX.mono k4.size)
    refine ⟨b, o, x, e, (hbX.cell (World.block_lt_of_cell? _ _ c)).trans c, ?_⟩
    have e1 : g.getD q [] = g[q] := by simp [List.getD, hq]
    rw [e1]
    exact hx.below hbX))
  have HKC := hid (fun (X : World) (hX : Below W.heap.size W X) => (show X.cell? ⟨w.heap.size, 0, none⟩ = some (.slice sa s.length scap) ∧ X.cell? ⟨w.heap.size + 1, 0, none⟩ = some (.slice la g.length lcap) from by
    refine ⟨?_, ?_⟩
    · rw [hX.cell (p := ⟨w.heap.size, 0, none⟩) (by rw [hsz]; show w.heap.size < _; omega)]; exact k1
    · rw [hX.cell (p := ⟨w.heap.size + 1, 0, none⟩) (by rw [hsz]; show w.heap.size + 1 < _; omega)]; exact k2))
  have HK4 := hid k4
  have HBW := hid (Below.refl W.heap.size W)
  clear hs hg ht HC k4 hsz
  go_enter Tryz.func87, Tryz.ntmps87
  go_wp2
  clear hW k3
  go_loopw [16] (fun kv wr => ∃ i : Nat, i ≤ g.length ∧ kv = .int .i64 i ∧ (∀ j, j < i → bestB s g t j = false) ∧ Below W.heap.size W wr) (fun kv _ => g.length - (intOf kv).toNat)
  case atStart => exact ⟨0, by omega, rfl, fun j hj => by omega, HBW.out⟩
  case round =>
    obtain ⟨i, hi, rfl, hno, hb⟩ := hrel
    obtain ⟨WI, hWI⟩ : ∃ X, X = wr := ⟨wr, rfl⟩
    subst hWI
    have HNO := hid hno
    have HB := hid hb
    by_cases hlt : i < g.length
    · obtain ⟨b, o, x, rfl, cx, hx⟩ := HCW.out i hlt WI hb
      have HX := hid hx
      have K := hid (HOV.out i hlt WI hb)
      obtain ⟨X, hXe⟩ : ∃ X, g.getD i [] = X := ⟨_, rfl⟩
      have hl2 : (i : Int) < (g.length : Int) := by omega
      cases hz : instB s (g.getD i []) t
      · have HN2 := hid (bestB_no hz)
        rw [hz] at K
        clear hno hb hx hz
        go_wp2_with fail
        refine K.out.mono ?_
        rintro e w2 ⟨rfl, hb2⟩
        have HB2 := hid (HB.out.trans (hb2.mono HB.out.size))
        clear hb2
        go_wp2
        go_roundw
        case rel =>
          refine ⟨i + 1, by omega, by go_num, fun j hj => ?_, HB2.out⟩
          by_cases e : j = i
          · subst e; exact HN2.out
          · exact HNO.out j (by omega)
        case measure => simp [intOf]; omega
      have HBE := hid (bestB_eq hz)
      rw [hz] at K
      clear hno hb hz
      go_wp2_with fail
      refine K.out.mono ?_
      rintro e w2 ⟨rfl, hb2⟩
      have HB2 := hid (HB.out.trans (hb2.mono HB.out.size))
      have HX2 := hid (HX.out.below hb2)
      have kc2 := (HKC.out w2 HB2.out).2
      clear hb2
      go_wp2
      go_loopw [10, 27] (fun mv kv wr => ∃ k : Nat, k ≤ g.length ∧ kv = .int .i64 k ∧ mv = .bool (ovrA s g t i k) ∧ Below W.heap.size W wr ∧ Ints wr x (g.getD i [])) (fun _ kv _ => g.length - (intOf kv).toNat)
      case atStart => exact ⟨0, by omega, rfl, by rw [ovrA_0], HB2.out, HX2.out⟩
      case round =>
        clear HX2 HB2
        obtain ⟨k, hk, rfl, rfl, hb3, hx3⟩ := hrel
        have HB3 := hid hb3
        have HX3 := hid hx3
        obtain ⟨c1, c2⟩ := HKC.out wr hb3
        by_cases hkl : k < g.length
        · obtain ⟨b', o', y, eb, cy, hy⟩ := HCW.out k hkl wr hb3
          cases eb
          have HY := hid hy
          have hk2 : (k : Int) < (g.length : Int) := by omega
          have K3 := hid (HOV.out k hkl wr hb3)
          have hsucc := ovrA_succ s g t i k
          cases hm : ovrA s g t i k
          · rw [hm] at hsucc
            have HS := hid (show ovrA s g t i (k + 1) = false from hsucc)
            clear hsucc hm hb3 hx3 hy K3
            go_wp2
            go_roundw
            case rel => exact ⟨k + 1, by omega, by go_num, by rw [HS.out], HB3.out, HX3.out⟩
            case measure => simp [intOf]; omega
          rw [hm] at hsucc
          cases hz : instB s (g.getD k []) t
          · have HS := hid (show ovrA s g t i (k + 1) = true from by rw [hsucc]; unfold ovrB; rw [hz]; rfl)
            rw [hz] at K3
            clear hsucc hm hb3 hx3 hy hz
            go_wp2_with fail
            refine K3.out.mono ?_
            rintro e w4 ⟨rfl, hb4⟩
            have HB4 := hid (HB3.out.trans (hb4.mono HB3.out.size))
            have HX4 := hid (HX3.out.below hb4)
            clear hb4
            go_wp2
            go_roundw
            case rel => exact ⟨k + 1, by omega, by go_num, by rw [HS.out], HB4.out, HX4.out⟩
            case measure => simp [intOf]; omega
          rw [hz] at K3
          have HSU := hid (show ovrA s g t i (k + 1) = (!(instB s (g.getD k []) (g.getD i [])) || instB s (g.getD i []) (g.getD k [])) from by rw [hsucc]; unfold ovrB; rw [hz]; simp)
          clear hsucc hm hb3 hx3 hy hz
          go_wp2_with fail
          refine K3.out.mono ?_
          rintro e w4 ⟨rfl, hb4⟩
          have HB4 := hid (HB3.out.trans (hb4.mono HB3.out.size))
          have HX4 := hid (HX3.out.below hb4)
          have HY4 := hid (HY.out.below hb4)
          have c4 := (HKC.out w4 HB4.out).1
          have K4 := hid (unify_Instance _ _ _ s _ _ w4 (HSW.out.below HB4.out) HY4.out HX4.out hs1)
          clear hb4 K3
          cases hq : instB s (g.getD k []) (g.getD i [])
          · have HS := hid (show ovrA s g t i (k + 1) = true from by rw [HSU.out, hq]; rfl)
            rw [hq] at K4
            clear hq HSU
            go_wp2_with fail
            refine K4.out.mono ?_
            rintro e w5 ⟨rfl, hb5⟩
            have HB5 := hid (HB4.out.trans (hb5.mono HB4.out.size))
            have HX5 := hid (HX4.out.below hb5)
            clear hb5
            go_wp2
            go_roundw
            case rel => exact ⟨k + 1, by omega, by go_num, by rw [HS.out], HB5.out, HX5.out⟩
            case measure => simp [intOf]; omega
          rw [hq] at K4
          have hal := alikeB_and s (g.getD i []) (g.getD k [])
          rw [hq, Bool.and_true] at hal
          have HS := hid (show ovrA s g t i (k + 1) = alikeB s (g.getD i []) (g.getD k []) from by rw [HSU.out, hq, hal]; rfl)
          obtain ⟨z, hz⟩ : ∃ z, alikeB s (g.getD i []) (g.getD k []) = z := ⟨_, rfl⟩
          rw [hz] at HS
          have HZ := hid hz
          clear hq HSU hal hz
          go_wp2_with fail
          refine K4.out.mono ?_
          rintro e w5 ⟨rfl, hb5⟩
          have HB5 := hid (HB4.out.trans (hb5.mono HB4.out.size))
          have HX5 := hid (HX4.out.below hb5)
          have HY5 := hid (HY4.out.below hb5)
          have c5 := (HKC.out w5 HB5.out).1
          have K5 := hid (term_Alike _ _ _ s _ _ w5 (HSW.out.below HB5.out) HX5.out HY5.out hs1)
          rw [HZ.out] at K5
          clear hb5 K4
          go_wp2_with fail
          refine K5.out.mono ?_
          rintro e w6 ⟨rfl, hb6⟩
          have HB6 := hid (HB5.out.trans (hb6.mono HB5.out.size))
          have HX6 := hid (HX5.out.below hb6)
          clear hb6
          go_wp2
          go_roundw
          case rel => exact ⟨k + 1, by omega, by go_num, by rw [HS.out], HB6.out, HX6.out⟩
          case measure => simp [intOf]; omega
        · have hke : k = g.length := by omega
          subst hke
          rw [← HBE.out]
          cases hbe : bestB s g t i
          · have HN2 := hid hbe
            clear hbe hb3 hx3
            go_wp2
            go_roundw
            case rel =>
              refine ⟨i + 1, by omega, by go_num, fun j hj => ?_, HB3.out⟩
              by_cases e : j = i
              · subst e; exact HN2.out
              · exact HNO.out j (by omega)
            case measure => simp [intOf]; omega
          · have HR := hid (bestI_at hlt HNO.out hbe)
            clear hbe hb3 hx3
            go_wp2
            go_ret
            exact ⟨by rw [HR.out]; rfl, HK4.out.trans (HB3.out.mono HK4.out.size)⟩
    · have hie : i = g.length := by omega
      subst hie
      have HR := hid (bestI_no HNO.out)
      clear hno hb
      go_wp2
      go_ret
      exact ⟨by rw [HR.out]; rfl, HK4.out.trans (HB.out.mono HK4.out.size)⟩
end Go.Proofs.YtmpjaakkjhmpmaaGreatDoor
