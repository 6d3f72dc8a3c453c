/-
  WHAT IT HOLDS: contracts of slices.Max at ints and of Times of package short. Conditions: the arguments read as data.
  WHAT IT HOLDS: plain words on how often the steps of a proof come and how many steps their trees have: the machine's sums are the numbers' own; the times of the steps that cite add up to half of the count of the last step, rounded up. No program in sight.
  WHAT IT HOLDS: contracts of counts of package short and of the reference of layer 7. Conditions: the steps read as data; the proof is valid.
-/
import Derived.Lib.Slices
import Derived.Lib.MinMax
import Derived.Test.YtmpjaakkjhmpmaaGreatDoorZRShortTimes34
import Derived.Test.YtmpjaakkjhmpmaaGreatDoorZRShortTimes0
namespace Go.Proofs.YtmpjaakkjhmpmaaGreatDoor
open Go Go.RowKit Go.Maps
set_option maxHeartbeats 1000000 in
theorem sl_MaxI (b n c : Nat) (zs : List Int) (w : World) (hn : 0 < n) (hz : zs.length = n) (hbig : n ≤ 1000) (hc : ∀ j, j < n → w.cell? ⟨b, j, none⟩ = some (.int .i64 (tmA zs j))) :
    Calls Tryz.prog 80 #[.slice (some ⟨b, 0, none⟩) n c] w fun e w' => e = .returned (.int .i64 (Lib.maxOf zs)) ∧ w' = w := by
  have h0 := hc 0 hn
  have HC := hid hc
  have HZ := hid hz
  obtain ⟨z0, hz0⟩ : ∃ z, tmA zs 0 = z := ⟨_, rfl⟩
  have HZ0 := hid hz0
  rw [hz0] at h0
  have nlt : ((n : Int) < 1) = False := by simp; omega
  clear hz hc hz0
  go_enter Tryz.func80, Tryz.ntmps80
  go_wp2
  go_loopw [3, 4] (fun m i wr => ∃ k : Nat, 0 < k ∧ k ≤ n ∧ i = .int .i64 k ∧ m = .int .i64 (Lib.maxOf (zs.take k)) ∧ wr = w) (fun _ i _ => n - (intOf i).toNat)
  case atStart => exact ⟨1, by omega, by omega, rfl, by rw [Lib.maxOf_one, ← HZ0.out]; rfl, rfl⟩
  case round =>
    obtain ⟨k, hk0, hk, rfl, rfl, rfl⟩ := hrel
    by_cases hlt : k < n
    · have ck := HC.out k hlt
      obtain ⟨z, hzz⟩ : ∃ z, tmA zs k = z := ⟨_, rfl⟩
      have HS : Hid (Lib.maxOf (zs.take (k + 1)) = max (Lib.maxOf (zs.take k)) z) := hid (by rw [Lib.maxOf_step zs k hk0 (by rw [HZ.out]; omega), ← hzz]; rfl)
      rw [hzz] at ck
      have q1 : IntKind.i64.wrap ((k : Int) + 1) = ((k + 1 : Nat) : Int) := by rw [IntWalk.i64_in _ (by omega)]; omega
      obtain ⟨M, hM⟩ : ∃ M, Lib.maxOf (zs.take k) = M := ⟨_, rfl⟩
      rw [hM] at HS ⊢
      clear hzz hM h0
      go_wp2
      go_roundw
      case rel => exact ⟨k + 1, by omega, by omega, by simp, by rw [HS.out], by first | rfl | trivial⟩
      case measure => simp [intOf]; omega
    · obtain rfl : k = n := by omega
      have HM : Hid (zs.take k = zs) := hid (List.take_of_length_le (by rw [HZ.out]; omega))
      clear h0
      go_wp2
      go_ret
      exact ⟨by rw [HM.out]; rfl, rfl⟩
theorem mkT_len (x : St) (i : Nat) (b : List Int) : (mkT x i b).length = b.length := by
  unfold mkT
  split
  · simp
  · rfl
theorem tmF_len (p : List St) : ∀ (i : Nat) (b : List Int), (tmF p i b).length = b.length
  | 0, _ => rfl
  | i + 1, b => by rw [tmF, tmF_len p i, mkT_len]
theorem timL_len (p : List St) : (timL p).length = p.length := by unfold timL tm0; rw [tmF_len]; simp
theorem ints_nil7 (w : World) : Ints w (.slice none 0 0) [] := ⟨by simp, none, 0, rfl, Nat.le_refl _, by simp, fun _ => rfl, by simp⟩
def timE (g : Int) (p : List St) : Int := if vldB g p = true then (if 1000000000000000 < Lib.maxOf (timL p) then 4 else 0) else 1
def TimesQ (g : Int) (p : List St) (w : World) (e : Ending) (w' : World) : Prop := ∃ u, e = .returned (.tuple #[u, .int .i64 (timE g p)]) ∧ Ints w' u (if timE g p = 0 then timL p else []) ∧ Below w.heap.size w w'
set_option maxHeartbeats 2000000 in
theorem short_Times (g : Int) (v : Value) (p : List St) (w : World) (hv : StepsAt w v p) :
    Calls Tryz.prog 34 #[.int .i64 g, v] w fun e w' => TimesQ g p w e w' := by
  have HV := hid (short_valid g v p w hv)
  have HP := hid hv
  obtain ⟨pa, pc, rfl, -⟩ := hv.open
  clear hv
  unfold TimesQ
  cases hb : vldB g p
  · have hE : vldE g p = 1 := by unfold vldE; rw [hb]; rfl
    have hE2 : timE g p = 1 := by unfold timE; rw [hb]; rfl
    rw [hE] at HV
    rw [hE2]
    clear hb hE HP hE2
    go_enter Tryz.func34, Tryz.ntmps34
    go_wp2_with fail
    refine HV.out.mono ?_
    rintro e w1 ⟨rfl, hb1⟩
    go_wp2
    go_ret2
    exact ⟨_, rfl, ints_nil7 _, hb1⟩
  · have hE : vldE g p = 0 := by unfold vldE; rw [hb]; rfl
    have hp : proofB g p = true := by unfold vldB at hb; rw [Bool.and_eq_true] at hb; exact hb.2
    have hE2 : timE g p = if 1000000000000000 < Lib.maxOf (timL p) then 4 else 0 := by unfold timE; rw [hb]; rfl
    have h60 := proof60 hp
    have h1 := proof1 hp
    have hlen := timL_len p
    have HT := hid (fun (X : World) (hX : Below w.heap.size w X) => short_times g (.slice pa p.length pc) p X (HP.out.below hX) hp)
    rw [hE] at HV
    rw [hE2]
    obtain ⟨M, hM⟩ : ∃ M, Lib.maxOf (timL p) = M := ⟨_, rfl⟩
    rw [hM]
    have HMM := hid hM
    clear hb hE HP hE2 hp hM
    have hq : (1000000000000000 < M ∧ (if 1000000000000000 < M then (4 : Int) else 0) = 4) ∨ (¬ 1000000000000000 < M ∧ (if 1000000000000000 < M then (4 : Int) else 0) = 0) := by
      by_cases h : 1000000000000000 < M
      · exact Or.inl ⟨h, if_pos h⟩
      · exact Or.inr ⟨h, if_neg h⟩
    rcases hq with ⟨hlt, e1⟩ | ⟨hlt, e1⟩
    all_goals
      rw [e1]
      clear e1
      go_enter Tryz.func34, Tryz.ntmps34
      go_wp2_with fail
      refine HV.out.mono ?_
      rintro e w1 ⟨rfl, hb1⟩
      have HB1 := hid hb1
      have K := hid (HT.out w1 hb1)
      clear hb1
      go_wp2_with fail
      refine K.out.mono ?_
      rintro e w2 ⟨q, rfl, hq, hown, hb2⟩
      have HB2 := hid (HB1.out.trans (hb2.mono HB1.out.size))
      have HMX := hid (sl_MaxI q p.length p.length (timL p) w2 (by omega) hlen (by omega) (fun j hj => by
        have hc := hown.cellAt j (by omega)
        rwa [tms_at (by omega)] at hc))
      rw [HMM.out] at HMX
      rw [← hlen] at hown
      have HO := hid (Ints.of_owns hown (by omega))
      rw [hlen] at HO
      clear hown hb2 hlen K
      go_wp2_with fail
      refine HMX.out.mono ?_
      rintro e w3 ⟨rfl, rfl⟩
      clear HMX
      go_wp2
      go_ret2
      first | exact ⟨_, rfl, ints_nil7 _, HB2.out⟩ | exact ⟨_, rfl, HO.out, HB2.out⟩
end Go.Proofs.YtmpjaakkjhmpmaaGreatDoor
namespace Go.Proofs.YtmpjaakkjhmpmaaGreatDoor
open Go Go.RowKit
def upd7 (b : Nat → Int) (A : Nat) (v : Int) : Nat → Int := fun j => if j = A then v else b j
def wsum (c b : Nat → Int) : Nat → Int
  | 0 => 0
  | i + 1 => wsum c b i + b i * (c i + 1)
theorem wsum_congr (c : Nat → Int) {b b' : Nat → Int} : ∀ (i : Nat), (∀ j, j < i → b' j = b j) → wsum c b' i = wsum c b i
  | 0, _ => rfl
  | i + 1, h => by rw [wsum, wsum, wsum_congr c i (fun j hj => h j (by omega)), h i (by omega)]
theorem wsum_upd (c b : Nat → Int) (A : Nat) (v : Int) : ∀ (i : Nat), A < i → wsum c (upd7 b A v) i = wsum c b i + (v - b A) * (c A + 1)
  | 0, h => absurd h (Nat.not_lt_zero _)
  | i + 1, h => by
    rw [wsum, wsum]
    by_cases e : A = i
    · subst e
      rw [wsum_congr c A (b := b) (fun j hj => by unfold upd7; rw [if_neg (by omega)])]
      have : upd7 b A v A = v := by unfold upd7; rw [if_pos rfl]
      rw [this, Int.sub_mul]; omega
    · rw [wsum_upd c b A v i (by omega)]
      have : upd7 b A v i = b i := by unfold upd7; rw [if_neg (fun h => e h.symm)]
      rw [this]; omega
theorem wsum_nonneg (b : Nat → Int) (h : ∀ j, 0 ≤ b j) : ∀ i, 0 ≤ wsum (fun _ => 0) b i
  | 0 => Int.le_refl _
  | i + 1 => by
    have h1 := wsum_nonneg b h i
    have h2 := h i
    rw [wsum]; omega
theorem wsum_le (b : Nat → Int) (h : ∀ j, 0 ≤ b j) {j : Nat} : ∀ {i : Nat}, j < i → b j ≤ wsum (fun _ => 0) b i
  | 0, hj => absurd hj (Nat.not_lt_zero _)
  | i + 1, hj => by
    have h1 := wsum_nonneg b h i
    have h2 := h i
    rw [wsum]
    by_cases e : j = i
    · subst e; omega
    · have := wsum_le b h (show j < i by omega); omega
def csum (p : List St) (b : Nat → Int) : Nat → Int
  | 0 => 0
  | i + 1 => csum p b i + (if (p.getD i st0).1 = 2 then 0 else b i)
theorem csum_tail (p : List St) {b b' : Nat → Int} {i : Nat} (h : ∀ j, i ≤ j → b' j = b j) : ∀ d, csum p b' (i + d) - csum p b' i = csum p b (i + d) - csum p b i
  | 0 => by simp
  | d + 1 => by
    have := csum_tail p h d
    rw [← Nat.add_assoc, csum, csum, h (i + d) (by omega)]
    omega
/-- how many steps the trees of the first k steps have. -/
def cntL (p : List St) : Nat → List Int
  | 0 => []
  | k + 1 => cntL p k ++ [if (p.getD k st0).1 = 2 then 1 + ((cntL p k).getD (nA (p.getD k st0)) 0 + (cntL p k).getD (nB (p.getD k st0)) 0) else 1]
theorem cntL_len (p : List St) : ∀ k, (cntL p k).length = k
  | 0 => rfl
  | k + 1 => by rw [cntL, List.length_append, cntL_len p k]; rfl
def cntA (p : List St) (i : Nat) : Int := (cntL p (i + 1)).getD i 0
theorem cntL_at (p : List St) {i : Nat} : ∀ {k : Nat}, i < k → (cntL p k).getD i 0 = cntA p i
  | 0, h => absurd h (Nat.not_lt_zero _)
  | k + 1, h => by
    by_cases e : i = k
    · subst e; rfl
    · rw [cntL, List.getD_eq_getElem?_getD, List.getElem?_append_left (by rw [cntL_len]; omega), ← List.getD_eq_getElem?_getD]
      exact cntL_at p (by omega)
theorem cntA_eq (p : List St) (i : Nat) : cntA p i = if (p.getD i st0).1 = 2 then 1 + ((cntL p i).getD (nA (p.getD i st0)) 0 + (cntL p i).getD (nB (p.getD i st0)) 0) else 1 := by
  unfold cntA
  rw [cntL, List.getD_eq_getElem?_getD, List.getElem?_append_right (by rw [cntL_len]; exact Nat.le_refl _), cntL_len, Nat.sub_self]
  rfl
theorem pow_le7 {a b : Nat} (h : a ≤ b) : (2 : Int) ^ a ≤ 2 ^ b := by
  have := Nat.pow_le_pow_right (n := 2) (by decide) h
  exact_mod_cast this
theorem cnt_bound {p : List St} (hp : backP p) : ∀ (i : Nat), i < p.length → 1 ≤ cntA p i ∧ cntA p i ≤ 2 ^ (i + 1) - 1 := by
  intro i
  induction i using Nat.strongRecOn with
  | ind i ih =>
    intro hi
    rw [cntA_eq]
    by_cases h2 : (p.getD i st0).1 = 2
    · obtain ⟨ha, hb⟩ := hp i hi h2
      rw [if_pos h2, cntL_at p ha, cntL_at p hb]
      obtain ⟨a1, a2⟩ := ih _ ha (by omega)
      obtain ⟨b1, b2⟩ := ih _ hb (by omega)
      have e1 := pow_le7 (show nA (p.getD i st0) + 1 ≤ i by omega)
      have e2 := pow_le7 (show nB (p.getD i st0) + 1 ≤ i by omega)
      have e3 : (2 : Int) ^ (i + 1) = 2 ^ i * 2 := Int.pow_succ ..
      omega
    · rw [if_neg h2]
      have e1 := pow_le7 (show 1 ≤ i + 1 by omega)
      have e2 : (2 : Int) ^ 1 = 2 := rfl
      omega
theorem cntA_det {p : List St} (hp : backP p) {i : Nat} (hi : i < p.length) (h2 : (p.getD i st0).1 = 2) : cntA p i = 1 + (cntA p (nA (p.getD i st0)) + cntA p (nB (p.getD i st0))) := by
  obtain ⟨ha, hb⟩ := hp i hi h2
  rw [cntA_eq, if_pos h2, cntL_at p ha, cntL_at p hb]
theorem cntA_cite {p : List St} {i : Nat} (h2 : ¬ (p.getD i st0).1 = 2) : cntA p i = 1 := by rw [cntA_eq, if_neg h2]
theorem tmA_set {b : List Int} {A : Nat} (h : A < b.length) (v : Int) : tmA (b.set A v) = upd7 (tmA b) A v := by
  funext j
  unfold tmA upd7
  rw [List.getD_eq_getElem?_getD, List.getElem?_set]
  by_cases e : A = j
  · subst e; rw [if_pos rfl, if_pos h, if_pos rfl]; rfl
  · rw [if_neg e, if_neg (fun h => e h.symm)]
    show _ = b.getD j 0
    rw [List.getD_eq_getElem?_getD]
/-- what holds while the times are gone through: the times of the steps from i on are done. -/
structure TmI (p : List St) (i : Nat) (b : List Int) : Prop where
  len : b.length = p.length
  nn : ∀ j, 0 ≤ tmA b j
  ub : ∀ j, tmA b j ≤ 1152921504606846976
  sm : wsum (fun _ => 0) (tmA b) i ≤ 2 ^ (p.length - i)
  law : wsum (cntA p) (tmA b) i + 2 * (csum p (tmA b) p.length - csum p (tmA b) i) = cntA p (p.length - 1) + 1
theorem mkT_inv {p : List St} (hp : backP p) (h60 : p.length ≤ 60) {i : Nat} (hi : i < p.length) {b : List Int} (h : TmI p (i + 1) b) : TmI p i (mkT (p.getD i st0) i b) := by
  obtain ⟨hl, hn, hub, hs, hw⟩ := h
  rw [wsum, csum] at hw
  rw [wsum] at hs
  have hni := hn i
  have hS := wsum_nonneg (tmA b) hn i
  have e1 : (2 : Int) ^ (p.length - i) = 2 ^ (p.length - (i + 1)) * 2 := by
    rw [show p.length - i = (p.length - (i + 1)) + 1 by omega]; exact Int.pow_succ ..
  have e2 := pow_le7 (show p.length - (i + 1) ≤ 59 by omega)
  have e3 : (2 : Int) ^ 59 = 576460752303423488 := by decide
  unfold mkT
  by_cases h2 : (p.getD i st0).1 = 2
  · obtain ⟨ha, hb⟩ := hp i hi h2
    have hc := cntA_det hp hi h2
    rw [if_pos h2]
    rw [if_pos h2] at hw
    obtain ⟨A, hA⟩ : ∃ A, nA (p.getD i st0) = A := ⟨_, rfl⟩
    obtain ⟨B, hB⟩ : ∃ B, nB (p.getD i st0) = B := ⟨_, rfl⟩
    rw [hA] at ha hc ⊢
    rw [hB] at hb hc ⊢
    have hAle := wsum_le (tmA b) hn ha
    have hBle := wsum_le (tmA b) hn hb
    have hAn := hn A
    have hBn := hn B
    have w1 : IntKind.i64.wrap (tmA b A + tmA b i) = tmA b A + tmA b i := IntWalk.i64_in _ (by omega)
    rw [w1]
    obtain ⟨v, hv⟩ : ∃ v, tmA b A + tmA b i = v := ⟨_, rfl⟩
    rw [hv]
    have s1 := tmA_set (b := b) (A := A) (by omega) v
    have f1 : tmA (b.set A v) i = tmA b i := by rw [s1]; unfold upd7; rw [if_neg (by omega)]
    have f2 : tmA (b.set A v) B = if B = A then v else tmA b B := by rw [s1]; rfl
    have f3 : tmA (b.set A v) B ≤ tmA b B + tmA b i ∧ tmA b B ≤ tmA (b.set A v) B := by
      rw [f2]; split
      · rename_i e; subst e; omega
      · omega
    have w2 : IntKind.i64.wrap (tmA (b.set A v) B + tmA (b.set A v) i) = tmA (b.set A v) B + tmA (b.set A v) i := IntWalk.i64_in _ (by omega)
    rw [w2, f1]
    have s2 := tmA_set (b := b.set A v) (A := B) (by rw [List.length_set]; omega) (tmA (b.set A v) B + tmA b i)
    have key : ∀ c : Nat → Int, wsum c (tmA ((b.set A v).set B (tmA (b.set A v) B + tmA b i))) i = wsum c (tmA b) i + tmA b i * (c A + 1) + tmA b i * (c B + 1) := fun c => by
      rw [s2, wsum_upd c _ B _ i hb, s1, wsum_upd c _ A _ i ha, ← s1]
      have d1 : v - tmA b A = tmA b i := by omega
      have d2 : tmA (b.set A v) B + tmA b i - tmA (b.set A v) B = tmA b i := by omega
      rw [d1, d2]
    refine ⟨by simp [hl], fun j => ?_, fun j => ?_, ?_, ?_⟩
    · rw [s2]; unfold upd7
      split
      · omega
      · rw [s1]; unfold upd7; split
        · omega
        · exact hn j
    · rw [s2]; unfold upd7
      split
      · omega
      · rw [s1]; unfold upd7; split
        · omega
        · exact hub j
    · rw [key]; omega
    · have ht := csum_tail p (b := tmA b) (b' := tmA ((b.set A v).set B (tmA (b.set A v) B + tmA b i))) (i := i) (fun j hj => by
        rw [s2]; unfold upd7; rw [if_neg (by omega), s1]; unfold upd7; rw [if_neg (by omega)]) (p.length - i)
      rw [show i + (p.length - i) = p.length by omega] at ht
      have e5 : tmA b i * (cntA p i + 1) = tmA b i * (cntA p A + 1) + tmA b i * (cntA p B + 1) := by rw [← Int.mul_add, hc]; congr 1; omega
      rw [key, ht]
      omega
  · rw [if_neg h2]
    rw [if_neg h2] at hw
    rw [cntA_cite h2] at hw
    exact ⟨hl, hn, hub, by omega, by omega⟩
theorem tmF_inv {p : List St} (hp : backP p) (h60 : p.length ≤ 60) : ∀ (i : Nat) (b : List Int), i ≤ p.length → TmI p i b → TmI p 0 (tmF p i b)
  | 0, _, _, h => h
  | i + 1, b, hi, h => by rw [tmF]; exact tmF_inv hp h60 i _ (by omega) (mkT_inv hp h60 (by omega) h)
theorem tm0_inv {p : List St} (h1 : 1 ≤ p.length) : TmI p p.length (tm0 p) := by
  have e : tmA (tm0 p) = upd7 (fun _ => 0) (p.length - 1) 1 := by
    unfold tm0
    rw [tmA_set (by simp; omega)]
    congr 1
    funext j
    unfold tmA
    rw [List.getD_eq_getElem?_getD]
    by_cases hj : j < p.length
    · simp [hj]
    · rw [List.getElem?_eq_none (by simp; omega)]; rfl
  have w0 : ∀ (c : Nat → Int) i, wsum c (fun _ => 0) i = 0 := fun c i => by
    induction i with
    | zero => rfl
    | succ i ih => rw [wsum, ih]; simp
  refine ⟨by unfold tm0; simp, fun j => ?_, fun j => ?_, ?_, ?_⟩
  · rw [e]; unfold upd7; split
    · decide
    · exact Int.le_refl _
  · rw [e]; unfold upd7; split
    · decide
    · show (0 : Int) ≤ _; decide
  · rw [e, wsum_upd _ _ _ _ _ (by omega), w0, Nat.sub_self]; decide
  · rw [e, wsum_upd _ _ _ _ _ (by omega), w0]; omega
theorem times_inv {p : List St} (hp : backP p) (h60 : p.length ≤ 60) (h1 : 1 ≤ p.length) : TmI p 0 (timL p) := tmF_inv hp h60 p.length _ (Nat.le_refl _) (tm0_inv h1)
/-- THE LAW: the times of the steps that cite, and the count of the last step. -/
theorem times_law {p : List St} (hp : backP p) (h60 : p.length ≤ 60) (h1 : 1 ≤ p.length) : 2 * csum p (tmA (timL p)) p.length = cntA p (p.length - 1) + 1 := by
  have h := (times_inv hp h60 h1).law
  rw [wsum, csum] at h
  omega
theorem foldl_max_ge (l : List Int) : ∀ (a : Int), a ≤ l.foldl max a ∧ ∀ x ∈ l, x ≤ l.foldl max a := by
  induction l with
  | nil => intro a; exact ⟨Int.le_refl _, by simp⟩
  | cons y l ih =>
    intro a
    obtain ⟨h1, h2⟩ := ih (max a y)
    rw [List.foldl_cons]
    refine ⟨by omega, fun x hx => ?_⟩
    rcases List.mem_cons.1 hx with rfl | hx
    · omega
    · exact h2 x hx
theorem foldl_max_mem (l : List Int) : ∀ (a : Int), l.foldl max a = a ∨ l.foldl max a ∈ l := by
  induction l with
  | nil => intro a; exact Or.inl rfl
  | cons y l ih =>
    intro a
    rw [List.foldl_cons]
    rcases ih (max a y) with h | h
    · rw [h]
      by_cases e : a ≤ y
      · exact Or.inr (by rw [Int.max_eq_right e]; simp)
      · exact Or.inl (by omega)
    · exact Or.inr (List.mem_cons_of_mem _ h)
theorem maxOf_lt {l : List Int} {M : Int} (h0 : l ≠ []) : M < Lib.maxOf l ↔ ∃ x ∈ l, M < x := by
  unfold Lib.maxOf
  constructor
  · intro h
    rcases foldl_max_mem l (l.headD 0) with e | e
    · rw [e] at h
      cases l with
      | nil => exact absurd rfl h0
      | cons y l => exact ⟨y, by simp, h⟩
    · exact ⟨_, e, h⟩
  · rintro ⟨x, hx, h⟩
    have := (foldl_max_ge l (l.headD 0)).2 x hx
    omega
end Go.Proofs.YtmpjaakkjhmpmaaGreatDoor
namespace Go.Proofs.YtmpjaakkjhmpmaaGreatDoor
open Go Go.RowKit Go.Maps Go.Shelf
attribute [local go_sem] Oper.semAt_some
theorem cnt_small {p : List St} (hp : backP p) (h60 : p.length ≤ 60) {i : Nat} (hi : i < p.length) : 1 ≤ cntA p i ∧ cntA p i ≤ 1152921504606846976 := by
  obtain ⟨h1, h2⟩ := cnt_bound hp i hi
  have := pow_le7 (show i + 1 ≤ 60 by omega)
  have e : (2 : Int) ^ 60 = 1152921504606846976 := by decide
  omega
theorem cnt_half {p : List St} (hp : backP p) (h60 : p.length ≤ 60) {i : Nat} (hi : i + 1 < p.length) : 1 ≤ cntA p i ∧ cntA p i ≤ 576460752303423488 := by
  obtain ⟨h1, h2⟩ := cnt_bound hp i (by omega)
  have := pow_le7 (show i + 1 ≤ 59 by omega)
  have e : (2 : Int) ^ 59 = 576460752303423488 := by decide
  omega
theorem cntL_succ (p : List St) (k : Nat) : cntL p (k + 1) = cntL p k ++ [cntA p k] := by rw [cntA_eq]; rfl
def CntQ (p : List St) (w : World) (e : Ending) (w' : World) : Prop := ∃ q c, e = .returned (.slice (some ⟨q, 0, none⟩) p.length c) ∧ w.heap.size ≤ q ∧ w'.ownsRow w.heap.size 3 1 (.slice (some ⟨q, 0, none⟩) p.length c) p.length ((cntL p p.length).map (Value.int .i64)) ∧ Below w.heap.size w w'
set_option maxHeartbeats 4000000 in
set_option maxRecDepth 100000 in
theorem short_counts (g : Int) (v : Value) (p : List St) (w : World) (hv : StepsAt w v p) (hg : proofB g p = true) :
    Calls Tryz.prog 118 #[v] w fun e w' => CntQ p w e w' := by
  have h60 := proof60 hg
  have h1 := proof1 hg
  have HBK := hid (back_of hg)
  have HSA := hid (fun (i : Nat) (hi : i < p.length) => st_at hg hi)
  obtain ⟨pa, pc, rfl, hc, hl, -, HC⟩ := hv.open
  have HC' := hid HC
  clear HC hv hg
  unfold CntQ
  go_enter Tryz.func118, Tryz.ntmps118
  go_wp2
  go_loopw [3, 9] (fun uo kv wr => ∃ k : Nat, k ≤ p.length ∧ kv = .int .i64 k ∧ wr.ownsRow w.heap.size 3 1 uo k ((cntL p k).map (Value.int .i64)) ∧ Below w.heap.size w wr) (fun _ kv _ => p.length - (intOf kv).toNat)
  case atStart => exact ⟨0, by omega, rfl, World.ownsRow_nil _ _ _ _, Below.refl _ _⟩
  case round =>
    obtain ⟨k, hk, rfl, hown, hb⟩ := hrel
    have hsz := hb.size
    by_cases hlt : k < p.length
    · obtain ⟨eg, hx⟩ := HSA.out k hlt
      obtain ⟨xb, xo, rfl, y0, y1, y2⟩ := HC'.out k hlt
      have x0 := (hb.cell (World.block_lt_of_cell? _ _ y0)).trans y0
      have x1 := (hb.cell (World.block_lt_of_cell? _ _ y1)).trans y1
      have x2 := (hb.cell (World.block_lt_of_cell? _ _ y2)).trans y2
      have hcs := cntL_succ p k
      have hdet := fun h => cntA_det HBK.out hlt h
      have hcit := fun h => cntA_cite (p := p) (i := k) h
      rw [eg] at hdet hcit
      obtain ⟨x, hxx⟩ : ∃ x, p[k] = x := ⟨_, rfl⟩
      rw [hxx] at x0 x1 x2 hx hdet hcit
      clear y0 y1 y2 hxx eg
      rcases hx with ⟨h1, -⟩ | ⟨h1, h2, h3, h4, h5⟩
      · rw [h1] at x0
        have HS : Hid (cntL p (k + 1) = cntL p k ++ [1]) := hid (by rw [hcs, hcit (by omega)])
        obtain ⟨y, hy⟩ : ∃ y, x.2.1 = y := ⟨_, rfl⟩
        obtain ⟨z, hz⟩ : ∃ z, x.2.2 = z := ⟨_, rfl⟩
        rw [hy] at x1
        rw [hz] at x2
        have hbX := hb.alloc hsz (.cells #[.int .i64 1, .int .i64 y, .int .i64 z] 57)
        have HB := hid (hbX.alloc hbX.size (.cells #[.int .i64 1] 3))
        have HO := hid ((hown.alloc (.cells #[.int .i64 1, .int .i64 y, .int .i64 z] 57)).alloc (.cells #[.int .i64 1] 3))
        have HSRC := hid (row_one_new (wr.alloc (.cells #[.int .i64 1, .int .i64 y, .int .i64 z] 57)) (.int .i64 1) 3)
        rw [World.size_alloc] at HSRC
        clear hcs hdet hcit hy hz h1 hown hb hbX
        go_wp2_with (at_builtin; refine wpList_append_row rfl _ _ 33 rfl w.heap.size 3 el_int Tryz.underlying33 rfl (by decide) _ _ _ rfl HO.out _ 1 [.int .i64 1] rfl HSRC.out (oneCell_one rfl) (by omega) (by omega) HB.out.size ?_; intro v' w4 hown4 hgrow4 _)
        go_roundw
        case rel =>
          refine ⟨k + 1, by omega, by go_num, ?_, HB.out.grown hgrow4 HB.out.size (fun q hq => (HO.out.lt q hq).1)⟩
          rw [HS.out, List.map_append]; exact hown4
        case measure => simp [intOf]; omega
      · have hd := hdet h1
        obtain ⟨A, hA⟩ : ∃ A, nA x = A := ⟨_, rfl⟩
        obtain ⟨B, hBq⟩ : ∃ B, nB x = B := ⟨_, rfl⟩
        rw [hA] at h2 h4 hd
        rw [hBq] at h3 h5 hd
        have ba := cnt_half HBK.out h60 (i := A) (by omega)
        have bb := cnt_half HBK.out h60 (i := B) (by omega)
        obtain ⟨oq, oc, rfl⟩ : ∃ q c, u3 = .slice (some ⟨q, 0, none⟩) k c := by
          rcases hown.2 with ⟨rfl, h⟩ | ⟨c, cap, cur, rfl, -⟩
          · omega
          · exact ⟨c, cap, rfl⟩
        have cA := hown.cellAt A (by omega)
        rw [tms_at (by rw [cntL_len]; exact h4)] at cA
        have cB := hown.cellAt B (by omega)
        rw [tms_at (by rw [cntL_len]; exact h5)] at cB
        have tA : tmA (cntL p k) A = cntA p A := cntL_at p h4
        have tB : tmA (cntL p k) B = cntA p B := cntL_at p h5
        rw [tA] at cA
        rw [tB] at cB
        obtain ⟨a, ha⟩ : ∃ a, cntA p A = a := ⟨_, rfl⟩
        obtain ⟨b, hbq⟩ : ∃ b, cntA p B = b := ⟨_, rfl⟩
        rw [ha] at cA hd ba
        rw [hbq] at cB hd bb
        have q1 : IntKind.i64.wrap (a + b) = a + b := IntWalk.i64_in _ (by omega)
        have q2 : IntKind.i64.wrap (1 + (a + b)) = 1 + (a + b) := IntWalk.i64_in _ (by omega)
        have HS : Hid (cntL p (k + 1) = cntL p k ++ [1 + (a + b)]) := hid (by rw [hcs, hd])
        rw [h1] at x0
        rw [h2] at x1
        rw [h3] at x2
        have hlo := (hown.lt _ rfl).2
        have HOY := hid (hown.alloc (.cells #[.int .i64 2, .int .i64 (A : Int), .int .i64 (B : Int)] 57)).drew
        have HBY := hid (below_drewN (hb.alloc hsz (.cells #[.int .i64 2, .int .i64 (A : Int), .int .i64 (B : Int)] 57)) 1)
        clear hcs hdet hcit h1 h2 h3 hA hBq ha hbq tA tB hown hb hd
        go_wp2
        go_region
        obtain ⟨Y, hY⟩ : ∃ Y, (wr.alloc (.cells #[.int .i64 2, .int .i64 (A : Int), .int .i64 (B : Int)] 57)).drew = Y := ⟨_, rfl⟩
        rw [hY] at HOY ⊢
        have hbY : Below w.heap.size w Y := hY ▸ HBY.out
        have HB := hid (hbY.alloc hbY.size (.cells #[.int .i64 (1 + (a + b))] 3))
        have HO := hid (HOY.out.alloc (.cells #[.int .i64 (1 + (a + b))] 3))
        have HSRC := hid (row_one_new Y (.int .i64 (1 + (a + b))) 3)
        clear HBY hY hbY HOY cA cB x0 x1 x2 hlo
        go_wp2_with (at_builtin; refine wpList_append_row rfl _ _ 33 rfl w.heap.size 3 el_int Tryz.underlying33 rfl (by decide) _ _ _ rfl HO.out _ 1 [.int .i64 (1 + (a + b))] rfl HSRC.out (oneCell_one rfl) (by omega) (by omega) HB.out.size ?_; intro v' w4 hown4 hgrow4 _)
        go_roundw
        case rel =>
          refine ⟨k + 1, by omega, by go_num, ?_, HB.out.grown hgrow4 HB.out.size (fun q hq => (HO.out.lt q hq).1)⟩
          rw [HS.out, List.map_append]; exact hown4
        case measure => simp [intOf]; omega
    · have hkl : k = p.length := by omega
      subst hkl
      obtain ⟨oq, oc, rfl⟩ : ∃ q c, u3 = .slice (some ⟨q, 0, none⟩) p.length c := by
        rcases hown.2 with ⟨rfl, h⟩ | ⟨c, cap, cur, rfl, -⟩
        · omega
        · exact ⟨c, cap, rfl⟩
      have hq0 := (hown.lt _ rfl).1
      have HO := hid hown
      have HB := hid hb
      clear hown hb
      go_wp2
      go_ret
      exact ⟨oq, oc, rfl, hq0, HO.out, HB.out⟩
theorem cz_at {p : List St} {k n : Nat} {v : Int} (h : k < n) : (cntL p k ++ List.replicate (n - k) v).set k (cntA p k) = cntL p (k + 1) ++ List.replicate (n - (k + 1)) v := by
  rw [List.set_append_right _ _ (by rw [cntL_len]; exact Nat.le_refl _), cntL_len, Nat.sub_self, cntL_succ, show n - k = (n - (k + 1)) + 1 by omega, List.replicate_succ, List.set_cons_zero, List.append_assoc]; rfl
theorem cz_get {p : List St} {k n i : Nat} {v : Int} (h : i < k) : tmA (cntL p k ++ List.replicate (n - k) v) i = cntA p i := by
  unfold tmA
  rw [List.getD_eq_getElem?_getD, List.getElem?_append_left (by rw [cntL_len]; exact h), ← List.getD_eq_getElem?_getD]
  exact cntL_at p h
set_option maxHeartbeats 4000000 in
set_option maxRecDepth 100000 in
theorem ref7_counts (g : Int) (v : Value) (p : List St) (w : World) (hv : StepsAt w v p) (hg : proofB g p = true) :
    Calls Tryz.prog 83 #[v] w fun e w' => CntQ p w e w' := by
  have h60 := proof60 hg
  have h1 := proof1 hg
  have HBK := hid (back_of hg)
  have HSA := hid (fun (i : Nat) (hi : i < p.length) => st_at hg hi)
  obtain ⟨pa, pc, rfl, hc, hl, -, HC⟩ := hv.open
  have HC' := hid HC
  clear HC hv hg
  unfold CntQ
  go_enter Tryz.func83, Tryz.ntmps83
  go_wp2_with (at_make; refine wpList_make_row rfl _ _ 33 rfl w.heap.size 3 el_int Tryz.underlying33 rfl p.length rfl rfl (by omega) (by omega) (by simp) ?_; intro q w1 hq0 hq1 hown1 hgrow1)
  have HB1 := hid ((Below.refl _ _).grown hgrow1 (by simp) (fun _ h => by cases h) : Below w.heap.size w w1)
  have HO1 := hid hown1
  clear hown1 hgrow1
  go_loopw [4] (fun kv wr => ∃ k : Nat, k ≤ p.length ∧ kv = .int .i64 k ∧ wr.ownsRow w.heap.size 3 1 (.slice (some ⟨q, 0, none⟩) p.length p.length) p.length ((cntL p k ++ List.replicate (p.length - k) 0).map (Value.int .i64)) ∧ Below w.heap.size w wr) (fun kv _ => p.length - (intOf kv).toNat)
  case atStart => exact ⟨0, by omega, rfl, by simpa [cntL] using HO1.out, HB1.out⟩
  case round =>
    clear HO1 HB1
    obtain ⟨k, hk, rfl, hown, hb⟩ := hrel
    by_cases hlt : k < p.length
    · obtain ⟨eg, hx⟩ := HSA.out k hlt
      obtain ⟨xb, xo, rfl, y0, y1, y2⟩ := HC'.out k hlt
      have hxq := World.block_lt_of_cell? _ _ y0
      have hne : xb ≠ q := by have h : xb < w.heap.size := hxq; omega
      have x0 := (hb.cell (World.block_lt_of_cell? _ _ y0)).trans y0
      have x1 := (hb.cell (World.block_lt_of_cell? _ _ y1)).trans y1
      have x2 := (hb.cell (World.block_lt_of_cell? _ _ y2)).trans y2
      have hdet := fun h => cntA_det HBK.out hlt h
      have hcit := fun h => cntA_cite (p := p) (i := k) h
      have hcz := cz_at (p := p) (v := 0) hlt
      rw [eg] at hdet hcit
      obtain ⟨x, hxx⟩ : ∃ x, p[k] = x := ⟨_, rfl⟩
      rw [hxx] at x0 x1 x2 hx hdet hcit
      clear y0 y1 y2 hxx eg hxq
      have hll : (cntL p k ++ List.replicate (p.length - k) (0 : Int)).length = p.length := by rw [List.length_append, cntL_len, List.length_replicate]; omega
      obtain ⟨L, hL⟩ : ∃ L, cntL p k ++ List.replicate (p.length - k) (0 : Int) = L := ⟨_, rfl⟩
      have hget := fun (i : Nat) (hi : i < k) => cz_get (p := p) (n := p.length) (v := 0) hi
      rw [hL] at hown hcz hll
      simp only [hL] at hget
      have ck := hown.cellAt k (by omega)
      rw [tms_at (by omega)] at ck
      have fk := hown.frozenAt k
      have hst := (hown.stored k (.int .i64 1)).1
      rw [← List.map_set] at hst
      have oth : ∀ (c : Nat) (v : Value), wr.cell? ⟨xb, c, none⟩ = some v → ∀ u, (wr.setCell ⟨q, k, none⟩ u).cell? ⟨xb, c, none⟩ = some v := fun c v h u => (World.cell?_of_block (Below.heap_setCell _ _ _ _ (fun e => hne e))).trans h
      rcases hx with ⟨h1, -⟩ | ⟨h1, h2, h3, h4, h5⟩
      · rw [h1] at x0
        have z0 := oth _ _ x0 (.int .i64 1)
        rw [hcit (by omega)] at hcz
        rw [hcz] at hst
        have HST := hid hst
        have HBS := hid (hb.setCell (p := ⟨q, k, none⟩) hq0 (.int .i64 1))
        clear hcz hdet hcit hget oth hst hown hb hL h1 x1 x2
        go_wp2
        go_roundw
        case rel => exact ⟨k + 1, by omega, by go_num, HST.out, HBS.out⟩
        case measure => simp [intOf]; omega
      · have hd := hdet h1
        obtain ⟨A, hA⟩ : ∃ A, nA x = A := ⟨_, rfl⟩
        obtain ⟨B, hBq⟩ : ∃ B, nB x = B := ⟨_, rfl⟩
        rw [hA] at h2 h4 hd
        rw [hBq] at h3 h5 hd
        have ba := cnt_half HBK.out h60 (i := A) (by omega)
        have bb := cnt_half HBK.out h60 (i := B) (by omega)
        have gA := hget A h4
        have gB := hget B h5
        have sA : tmA (L.set k 1) A = cntA p A := by rw [tmA_set (by omega)]; unfold upd7; rw [if_neg (by omega)]; exact gA
        have sB : tmA (L.set k 1) B = cntA p B := by rw [tmA_set (by omega)]; unfold upd7; rw [if_neg (by omega)]; exact gB
        have cA := hst.cellAt A (by omega)
        rw [tms_at (by rw [List.length_set]; omega), sA] at cA
        have cB := hst.cellAt B (by omega)
        rw [tms_at (by rw [List.length_set]; omega), sB] at cB
        have ck2 := hst.cellAt k (by omega)
        rw [tms_at (by rw [List.length_set]; omega)] at ck2
        have fk2 := hst.frozenAt k
        obtain ⟨a, ha⟩ : ∃ a, cntA p A = a := ⟨_, rfl⟩
        obtain ⟨b, hbq⟩ : ∃ b, cntA p B = b := ⟨_, rfl⟩
        rw [ha] at cA hd ba
        rw [hbq] at cB hd bb
        have q1 : IntKind.i64.wrap (1 + a) = 1 + a := IntWalk.i64_in _ (by omega)
        have q2 : IntKind.i64.wrap (1 + a + b) = 1 + a + b := IntWalk.i64_in _ (by omega)
        have hst2 := (hst.stored k (.int .i64 (1 + a + b))).1
        rw [← List.map_set, List.set_set, show 1 + a + b = cntA p k by rw [hd]; omega, hcz] at hst2
        have e9 : cntA p k = 1 + a + b := by rw [hd]; omega
        rw [h1] at x0
        rw [h2] at x1
        rw [h3] at x2
        have z0 := oth _ _ x0 (.int .i64 1)
        have z1 := oth _ _ x1 (.int .i64 1)
        have z2 := oth _ _ x2 (.int .i64 1)
        have hbs := (hb.setCell (p := ⟨q, k, none⟩) hq0 (.int .i64 1))
        have hbs2 := hbs.setCell (p := ⟨q, k, none⟩) hq0 (.int .i64 (1 + a + b))
        rw [e9] at hst2
        have HST := hid hst2
        have HBS := hid hbs2
        obtain ⟨X, hX⟩ : ∃ X, wr.setCell ⟨q, k, none⟩ (.int .i64 1) = X := ⟨_, rfl⟩
        have HXE := hid hX
        rw [hX] at HST HBS cA cB ck2 fk2 z0 z1 z2
        clear hcz hdet hcit hget oth hst hst2 hown hb hL h1 h2 h3 hA hBq ha hbq gA gB sA sB hd hX hbs hbs2 e9 x1 x2
        go_wp2_with fail
        rw [HXE.out]
        clear HXE x0
        go_region
        go_wp2
        go_roundw
        case rel => exact ⟨k + 1, by omega, by go_num, HST.out.drew, below_drewN HBS.out 1⟩
        case measure => simp [intOf]; omega
    · have hkl : k = p.length := by omega
      subst hkl
      rw [Nat.sub_self, List.replicate_zero, List.append_nil] at hown
      have HO := hid hown
      have HB := hid hb
      clear hown hb
      go_wp2
      go_ret
      exact ⟨q, _, rfl, hq0, HO.out, HB.out⟩
end Go.Proofs.YtmpjaakkjhmpmaaGreatDoor
