/-
  WHAT IT HOLDS: contracts of the small methods of package unify's solver: after, look, comes. Conditions: the solver reads as data (SolvW); the parts are terms.
-/
import Derived.Deep.RegionHeld3
import Derived.Deep.QuietTactic
import Derived.Deep.LoopGhost
import Derived.Test.YtmpjaakkjhmpmaaGreatDoorZRShortCites7
import Derived.Test.YtmpjaakkjhmpmaaGreatDoorZRShortCites9
namespace Go.Proofs.YtmpjaakkjhmpmaaGreatDoor
open Go Go.RowKit Go.Maps
set_option maxRecDepth 100000 in
theorem unify_gafter (vs vt : Value) (s : Sg) (m : Int) (t p r : List Int) (i : Nat) (w : World) (hs : SignAt w vs s) (ht : Ints w vt t) (hp : IsT s m p) (hd : t.drop i = p ++ r) (hsg : ∀ x ∈ t, x < s.length) (hl : t.length ≤ 1000) (hi : i < t.length) :
    Calls Tryz.prog 214 #[.agg #[vs], vt, .int .i64 i] w fun e w' => e = .returned (.int .i64 ((i + p.length : Nat) : Int)) ∧ Below w.heap.size w w' := by
  obtain ⟨sa, scap, rfl, -⟩ := hs.open
  have hb : Below w.heap.size w (w.alloc (.cells #[.slice sa s.length scap] 205)) := (Below.refl _ _).alloc (Nat.le_refl _) _
  have HC := hid (unify_after _ _ s m t p r i _ (hs.below hb) (ht.below hb) hp hd hsg hl hi)
  have HB := hid hb
  clear hs ht hp hd hsg hb
  go_enter Tryz.func214, Tryz.ntmps214
  go_wp2_with (go_at_call 178; refine HC.out.mono ?_; rintro e w1 ⟨rfl, rfl⟩)
  go_ret
  exact ⟨rfl, HB.out⟩
/-- a solver in memory: its sign, and what variables become. -/
structure SolvW (w : World) (px bm : Nat) (vs : Value) (s : Sg) (M : Int → Option VT) : Prop where
  c0 : w.cell? ⟨px, 0, none⟩ = some vs
  c1 : w.cell? ⟨px, 1, none⟩ = some (.map (some bm))
  sgn : SignAt w vs s
  map : ∃ n, TMap w bm n M
  its : ∀ x v l, M x = some (v, l) → Ints w v l
theorem SolvW.below {w w' : World} {px bm : Nat} {vs : Value} {s : Sg} {M : Int → Option VT} (h : SolvW w px bm vs s M) (hb : Below w.heap.size w w') : SolvW w' px bm vs s M := by
  obtain ⟨h1, h2, h3, ⟨n, h4⟩, h5⟩ := h
  exact ⟨(hb.cell (World.block_lt_of_cell? _ _ h1)).trans h1, (hb.cell (World.block_lt_of_cell? _ _ h2)).trans h2, h3.below hb, ⟨n, h4.belowS hb⟩, fun x v l hx => (h5 x v l hx).below hb⟩
/-- a part, looked up as long as it is a bound variable. -/
def lookT (M : Int → Option VT) : Nat → VT → VT
  | 0, t => t
  | k + 1, t => match t.2 with
    | [] => t
    | y :: _ => if y < 0 then (match M y with | some u => lookT M k u | none => t) else t
theorem lookT_sym {M : Int → Option VT} (k : Nat) {v : Value} {y : Int} {r : List Int} (h : 0 ≤ y) : lookT M k (v, y :: r) = (v, y :: r) := by
  cases k with
  | zero => rfl
  | succ k => simp only [lookT]; rw [if_neg (by omega)]
theorem lookT_none {M : Int → Option VT} (k : Nat) {v : Value} {y : Int} {r : List Int} (h : M y = none) : lookT M k (v, y :: r) = (v, y :: r) := by
  cases k with
  | zero => rfl
  | succ k => simp only [lookT, h]; split <;> rfl
theorem lookT_some {M : Int → Option VT} (k : Nat) {v : Value} {y : Int} {r : List Int} {u : VT} (h0 : y < 0) (h : M y = some u) : lookT M (k + 1) (v, y :: r) = lookT M k u := by
  simp only [lookT, h, if_pos h0]
theorem lookT_ok {s : Sg} {w : World} {M : Int → Option VT} (h : ∀ x v l, M x = some (v, l) → Ints w v l) (hm : MOK s (mOf M)) {r : Int → Nat} (hr : Rk (mOf M) r) : ∀ (k : Nat) (v : Value) (t : List Int), Ints w v t → IsT s 24 t → t.length ≤ 60 → (∀ x ∈ t, x < 0 → r x < k) →
    Ints w (lookT M k (v, t)).1 (lookT M k (v, t)).2 ∧ Lk s (mOf M) t (lookT M k (v, t)).2 ∧ ∀ y, (lookT M k (v, t)).2.head? = some y → y < 0 → mOf M y = none
  | 0, v, t, hi, ht, hl, hk => ⟨hi, .refl ht hl, fun y hy hy0 => absurd (hk y (List.mem_of_mem_head? hy) hy0) (by omega)⟩
  | k + 1, v, t, hi, ht, hl, hk => by
    cases t with
    | nil => exact absurd rfl ht.nonempty
    | cons y q =>
      by_cases hy : y < 0
      · obtain ⟨rfl, _⟩ := ht.head_var hy
        cases hM : M y with
        | none =>
          rw [lookT_none _ hM]
          exact ⟨hi, .refl ht hl, fun x hx _ => by simp at hx; subst hx; simp [mOf, hM]⟩
        | some u =>
          obtain ⟨v', t'⟩ := u
          rw [lookT_some _ hy hM]
          have hmy : mOf M y = some t' := by simp [mOf, hM]
          have hv := hm.val y t' hmy
          obtain ⟨g1, g2, g3⟩ := lookT_ok h hm hr k v' t' (h _ _ _ hM) hv.2.2.1 hv.2.2.2 (fun x hx hx0 => by
            have := hr y t' hmy x hx hx0
            have := hk y (by simp) hy
            omega)
          exact ⟨g1, ((Lk.refl ht hl).next hm hmy).trans g2, g3⟩
      · rw [lookT_sym _ (by omega)]
        exact ⟨hi, .refl ht hl, fun x hx hx0 => by simp at hx; omega⟩
set_option maxHeartbeats 400000 in
set_option maxRecDepth 100000 in
theorem unify_look (px bm : Nat) (vs vt : Value) (s : Sg) (M : Int → Option VT) (t : List Int) (w : World) (hS : SolvW w px bm vs s M) (hm : MOK s (mOf M)) (ht : Ints w vt t) (hT : IsT s 24 t) :
    Calls Tryz.prog 212 #[.pointer (some ⟨px, 0, none⟩), vt] w fun e w' => e = .returned (lookT M 25 (vt, t)).1 ∧ ∃ n, w' = w.drewN n := by
  obtain ⟨r, hr, hr24⟩ := hm.rank
  obtain ⟨n, hM⟩ := hS.map
  have HMV := hid hm.val
  have HR := hid hr
  have HR24 := hid hr24
  have HTT := hid hT
  have c1 := hS.c1
  have HI := hid hS.its
  have HL := hid (fun (y : Int) (vl : Option VT) (hy : M y = vl) (h1 : -24 ≤ y) (h2 : y < 0) (nq : Nat) => hM.drewN nq |>.run_lookup (int_keyed Tryz.underlying3) eI_inj Tryz.underlying153 (zero_term _) y (int_key y (wf_small (by omega) (by omega))) true)
  clear hm hr hr24 hT hS hM
  go_enter Tryz.func212, Tryz.ntmps212
  go_wp2
  go_loopg [1] 25 (fun k tv wr => ∃ (q : Nat) (v' : Value) (t' : List Int), tv = v' ∧ wr = w.drewN q ∧ Ints w v' t' ∧ IsT s 24 t' ∧ (lookT M k (v', t')).1 = (lookT M 25 (vt, t)).1 ∧ ∀ x ∈ t', x < 0 → r x < k)
  case atStart => exact ⟨0, vt, t, rfl, rfl, ht, HTT.out, rfl, fun x _ _ => by have := HR24.out x; omega⟩
  case round =>
    obtain ⟨q, v', t', rfl, rfl, hi, hT, he, hk⟩ := hrel
    have HIT := hid hi
    obtain ⟨ta, tc, rfl, ht1, ht2, -, TC⟩ := hi.open
    cases t' with
    | nil => exact absurd rfl hT.nonempty
    | cons y rr =>
      obtain ⟨tb, to, rfl, cy⟩ := TC 0 (by simp)
      simp only [Nat.add_zero, List.getElem_cons_zero] at cy
      have HE := hid he
      have HT := hid hT
      have HK := hid hk
      clear TC he hT hk hi
      by_cases hy : y < 0
      · obtain ⟨hr0, h24⟩ := HT.out.head_var hy
        subst hr0
        have hk1 := HK.out y (by simp) hy
        obtain ⟨k', rfl⟩ : ∃ k', gk = k' + 1 := ⟨gk - 1, by omega⟩
        cases hMy : M y with
        | none =>
          have hlk := HL.out y none hMy (by omega) hy
          simp only [hMy, Option.map_none, Option.getD_none, Option.isSome_none, if_true, eI] at hlk
          have HEND : Hid ((lookT M 25 (vt, t)).1 = .slice (some ⟨tb, to, none⟩) 1 tc) := hid (by rw [← HE.out, lookT_none _ hMy]; rfl)
          clear hMy
          go_wp2
          go_quiet (fail)
          go_wp2
          go_ret
          exact ⟨congrArg Ending.returned HEND.out.symm, _, (by first | rfl | exact World.drewN_drewN _ _ _)⟩
        | some u =>
          obtain ⟨v1, t1⟩ := u
          have hlk := HL.out y _ hMy (by omega) hy
          simp only [hMy, Option.map_some, Option.getD_some, Option.isSome_some, if_true, eI, eV] at hlk
          have hmy : mOf M y = some t1 := by simp [mOf, hMy]
          have HV := hid (HMV.out y t1 hmy)
          have HE2 : Hid ((lookT M k' (v1, t1)).1 = (lookT M 25 (vt, t)).1) := hid (by rw [← HE.out, lookT_some _ hy hMy])
          have HK2 : Hid (∀ x ∈ t1, x < 0 → r x < k') := hid (fun x hx hx0 => by have := HR.out y t1 hmy x hx hx0; omega)
          have HI1 := hid (HI.out y v1 t1 hMy)
          clear hMy hmy
          go_wp2
          go_quiet (fail)
          go_wp2
          go_roundg k'
          case measure => omega
          case rel => exact ⟨_, v1, t1, rfl, (by first | rfl | exact World.drewN_drewN _ _ _), HI1.out, HV.out.2.2.1, HE2.out, HK2.out⟩
      · have HEND : Hid ((lookT M 25 (vt, t)).1 = .slice (some ⟨tb, to, none⟩) (rr.length + 1) tc) := hid (by rw [← HE.out, lookT_sym _ (by omega)]; rfl)
        go_wp2
        go_ret
        exact ⟨congrArg Ending.returned HEND.out.symm, q, rfl⟩
theorem SolvW.grown {κ ε : Type} {w w' : World} {px bm : Nat} {vs : Value} {s : Sg} {M : Int → Option VT} (h : SolvW w px bm vs s M) {P : Program} {k : TypeId} {ek : κ → Value} {ev : ε → Value} {b n : Nat} {m : κ → Option ε} (hm : MapK P k ek ev w b n m) (hg : w.grownBy w' (some b)) (hne : bm ≠ b) : SolvW w' px bm vs s M := by
  obtain ⟨h1, h2, h3, ⟨q, h4⟩, h5⟩ := h
  exact ⟨hm.cell rfl hg h1, hm.cell rfl hg h2, hm.signAt rfl hg h3, ⟨q, h4.kept hg (fun e => hne (by simpa using e))⟩, fun x v l hx => hm.ints rfl hg (h5 x v l hx)⟩
def setM (S : List Int) : Int → Option Bool := fun y => if y ∈ S then some true else none
theorem setM_ins (S : List Int) (x : Int) : (fun y => if y = x then some true else setM S y) = setM (x :: S) := by
  funext y
  unfold setM
  by_cases h : y = x <;> simp [h]
abbrev BMap (w : World) (b n : Nat) (S : List Int) : Prop := MapK Tryz.prog 3 eI Value.bool w b n (setM S)
def cntV (S : List Int) : Nat := ((List.range 24).filter fun i : Nat => decide (-(i : Int) - 1 ∉ S)).length
theorem cntV_ins {S : List Int} {n : Int} (h1 : -24 ≤ n) (h2 : n < 0) (h : n ∉ S) : cntV (n :: S) < cntV S := by
  refine filter_lt _ _ _ (fun i _ hi => ?_) ⟨(-n - 1).toNat, List.mem_range.2 (by omega), ?_, ?_⟩
  · simp only [decide_eq_true_eq, List.mem_cons, not_or] at hi ⊢; exact hi.2
  · rw [show -(((-n - 1).toNat : Nat) : Int) - 1 = n by omega]; simp
  · rw [show -(((-n - 1).toNat : Nat) : Int) - 1 = n by omega]; simpa using h
theorem filter_le {α : Type} (P Q : α → Bool) : ∀ (l : List α), (∀ a ∈ l, P a = true → Q a = true) → (l.filter P).length ≤ (l.filter Q).length
  | [], _ => by simp
  | b :: l, h => by
    have := filter_le P Q l fun x hx => h x (by simp [hx])
    have hb := h b (by simp)
    simp only [List.filter_cons]
    cases hP : P b
    · cases hQ : Q b <;> simp <;> omega
    · rw [hb hP]; simp; omega
theorem cntV_le {S S' : List Int} (h : ∀ x ∈ S, x ∈ S') : cntV S' ≤ cntV S :=
  filter_le _ _ _ fun a _ ha => by
    simp only [decide_eq_true_eq] at ha ⊢
    exact fun hh => ha (h _ hh)
/-- what a walk that did not find v has seen. -/
def Dfs (m : MM) (v : Int) (S t S' : List Int) : Prop := (∀ x ∈ S, x ∈ S') ∧ v ∉ t ∧ (∀ x ∈ t, x < 0 → x ∈ S') ∧ ∀ n ∈ S', n ∉ S → ∀ p, m n = some p → v ∉ p ∧ ∀ x ∈ p, x < 0 → x ∈ S'
theorem Dfs.nil (m : MM) (v : Int) (S : List Int) : Dfs m v S [] S := ⟨fun _ h => h, by simp, by simp, fun n h h' => absurd h h'⟩
theorem Dfs.skip {m : MM} {v : Int} {S t S' : List Int} {n : Int} (h : Dfs m v S t S') (h1 : n ≠ v) (h2 : n < 0 → n ∈ S') : Dfs m v S (t ++ [n]) S' := by
  refine ⟨h.1, ?_, fun x hx hx0 => ?_, h.2.2.2⟩
  · simp only [List.mem_append, List.mem_singleton, not_or]; exact ⟨h.2.1, fun e => h1 e.symm⟩
  · rcases List.mem_append.1 hx with hx | hx
    · exact h.2.2.1 x hx hx0
    · simp at hx; subst hx; exact h2 hx0
theorem Dfs.free {m : MM} {v : Int} {S t S' : List Int} {n : Int} (h : Dfs m v S t S') (h1 : n ≠ v) (h2 : m n = none) : Dfs m v S (t ++ [n]) (n :: S') := by
  refine ⟨fun x hx => by simp [h.1 x hx], ?_, fun x hx hx0 => ?_, fun x hx hxS p hp => ?_⟩
  · simp only [List.mem_append, List.mem_singleton, not_or]; exact ⟨h.2.1, fun e => h1 e.symm⟩
  · rcases List.mem_append.1 hx with hx | hx
    · simp [h.2.2.1 x hx hx0]
    · simp at hx; simp [hx]
  · rcases List.mem_cons.1 hx with rfl | hx
    · rw [h2] at hp; cases hp
    · have := h.2.2.2 x hx hxS p hp
      exact ⟨this.1, fun y hy hy0 => by simp [this.2 y hy hy0]⟩
theorem Dfs.into {m : MM} {v : Int} {S t S' S2 p : List Int} {n : Int} (h : Dfs m v S t S') (h1 : n ≠ v) (h2 : m n = some p) (k : Dfs m v (n :: S') p S2) : Dfs m v S (t ++ [n]) S2 := by
  have hS : ∀ x ∈ S', x ∈ S2 := fun x hx => k.1 x (by simp [hx])
  refine ⟨fun x hx => hS x (h.1 x hx), ?_, fun x hx hx0 => ?_, fun x hx hxS q hq => ?_⟩
  · simp only [List.mem_append, List.mem_singleton, not_or]; exact ⟨h.2.1, fun e => h1 e.symm⟩
  · rcases List.mem_append.1 hx with hx | hx
    · exact hS x (h.2.2.1 x hx hx0)
    · simp at hx; subst hx; exact k.1 x (by simp)
  · by_cases e : x = n
    · subst e
      rw [h2] at hq
      cases hq
      exact ⟨k.2.1, k.2.2.1⟩
    · by_cases hx' : x ∈ S'
      · have := h.2.2.2 x hx' hxS q hq
        exact ⟨this.1, fun y hy hy0 => hS y (this.2 y hy hy0)⟩
      · exact k.2.2.2 x hx (by simp [e, hx']) q hq
theorem Dfs.no {m : MM} {v : Int} {t S' : List Int} (h : Dfs m v [] t S') : ¬ Reach m t v := by
  intro H
  obtain ⟨_, h2, h3, h4⟩ := h
  induction H with
  | here t v g1 g2 => exact h2 g1
  | step t v n p g1 g2 g3 g4 ih =>
    have := h4 n (h3 n g1 g2) (by simp) p g3
    exact ih this.1 this.2 h4
def fnC (pv pm pxb pw : Nat) : Value := .func (.func 226) #[] #[.pointer (some ⟨pv, 0, none⟩), .pointer (some ⟨pm, 0, none⟩), .pointer (some ⟨pxb, 0, none⟩), .pointer (some ⟨pw, 0, none⟩)]
set_option maxHeartbeats 1000000 in
set_option maxRecDepth 100000 in
theorem unify_comes1 (px bm bmet pv pm pxb pw : Nat) (vs : Value) (s : Sg) (M : Int → Option VT) (v : Int) (hv : v < 0) (hv2 : -1000 ≤ v) (hm : MOK s (mOf M)) (hne : bm ≠ bmet) : ∀ (k : Nat) (S t : List Int) (vt : Value) (cn : Nat) (w : World),
    cntV S < k → IsT s 24 t → t.length ≤ 60 → Ints w vt t → SolvW w px bm vs s M → BMap w bmet cn S → w.cell? ⟨pv, 0, none⟩ = some (.int .i64 v) → w.cell? ⟨pm, 0, none⟩ = some (.map (some bmet)) → w.cell? ⟨pxb, 0, none⟩ = some (.pointer (some ⟨px, 0, none⟩)) → w.cell? ⟨pw, 0, none⟩ = some (fnC pv pm pxb pw) →
    Calls Tryz.prog 226 #[vt, .pointer (some ⟨pv, 0, none⟩), .pointer (some ⟨pm, 0, none⟩), .pointer (some ⟨pxb, 0, none⟩), .pointer (some ⟨pw, 0, none⟩)] w
      fun e w' => w.grownBy w' (some bmet) ∧ ((e = .returned (.bool true) ∧ Reach (mOf M) t v) ∨ (e = .returned (.bool false) ∧ ∃ S' n, BMap w' bmet n S' ∧ Dfs (mOf M) v S t S')) := by
  intro k
  induction k with
  | zero => intro S t vt cn w hcnt; omega
  | succ k ih =>
    intro S t vt cn w hcnt hT hl ra hS hB cv cm cx cw
    obtain ⟨ta, tc, rfl, ht1, ht2, -, TC⟩ := ra.open
    have HT := hid hT
    have HTC := hid TC
    have HMV := hid hm.val
    have HS0 := hid hS
    have HB0 := hid hB
    have CV := hid cv
    have CM := hid cm
    have CX := hid cx
    have CW := hid cw
    have IH := hid ih
    clear hT TC ra hm hS hB cv cm cx cw ih
    go_enter Tryz.func226, Tryz.ntmps226
    go_wp2
    go_loopw [13] (fun iv wr => ∃ (i cn' : Nat) (S' : List Int), i ≤ t.length ∧ iv = .int .i64 i ∧ BMap wr bmet cn' S' ∧ Dfs (mOf M) v S (t.take i) S' ∧ cntV S' < k + 1 ∧ w.grownBy wr (some bmet)) (fun iv _ => t.length - (intOf iv).toNat)
    case atStart => exact ⟨0, cn, S, by omega, rfl, HB0.out, .nil _ _ _, hcnt, World.grownBy.refl _ _⟩
    case round =>
      obtain ⟨i, cn', S', hi, rfl, hB, hD, hc', hg⟩ := hrel
      have cv := HB0.out.cell rfl hg CV.out
      have cm := HB0.out.cell rfl hg CM.out
      have cx := HB0.out.cell rfl hg CX.out
      have cw := HB0.out.cell rfl hg CW.out
      have hSr := HS0.out.grown HB0.out hg hne
      have c1 := hSr.c1
      have HD := hid hD
      have HSR := hid hSr
      clear hD hSr
      by_cases hlt : i < t.length
      · obtain ⟨tb, to, rfl, cy0⟩ := HTC.out i hlt
        have cy := HB0.out.cell rfl hg cy0
        have HTK := hid (List.take_succ_eq_append_getElem hlt)
        have hmem := List.getElem_mem hlt
        obtain ⟨y, hy⟩ : ∃ y, t[i] = y := ⟨_, rfl⟩
        rw [hy] at cy hmem
        have hrng := HT.out.range y hmem
        have HMEM := hid hmem
        have HY := hid hy
        clear cy0 hy hmem
        by_cases e1 : y = v
        · subst e1
          go_wp2
          go_ret
          exact ⟨hg, Or.inl ⟨rfl, .here _ _ HMEM.out hv⟩⟩
        · have b1 : (y == v) = false := by simpa using e1
          have HNE := hid e1
          clear e1
          by_cases e2 : 0 ≤ y
          · have b2 : decide (y ≥ 0) = true := by simpa using e2
            go_wp2
            go_roundw
            case rel => exact ⟨i + 1, cn', S', by omega, by go_num, hB, by rw [HTK.out, HY.out]; exact HD.out.skip HNE.out (fun h => by omega), hc', hg⟩
            case measure => simp [intOf]; omega
          · have b2 : decide (y ≥ 0) = false := by simpa using e2
            have hy0 : y < 0 := by omega
            have hy24 : -24 ≤ y := by omega
            have HKEY := hid (int_key y (wf_small (by omega) (by omega)))
            clear hrng
            by_cases e3 : y ∈ S'
            · have HLU := hid (show setM S' y = some true by unfold setM; rw [if_pos e3])
              have HE3 := hid e3
              clear e3
              go_wp2_with (at_lookup; refine wpList_lookup_mapK rfl _ _ 237 false rfl (int_keyed Tryz.underlying3) eI_inj Tryz.underlying237 (zero_bool _) rfl hB y rfl HKEY.out (.bool true) (by rw [HLU.out]; rfl) ?_)
              go_roundw
              case rel => exact ⟨i + 1, cn', S', by omega, by go_num, hB, by rw [HTK.out, HY.out]; exact HD.out.skip HNE.out (fun _ => HE3.out), hc', hg⟩
              case measure => simp [intOf]; omega
            · have HLU := hid (show setM S' y = none by unfold setM; rw [if_neg e3])
              have HINS := hid (setM_ins S' y)
              have hcl := cntV_ins hy24 hy0 e3
              have HE3 := hid e3
              clear e3
              obtain ⟨nM, hM⟩ := HSR.out.map
              cases hMy : M y with
              | none =>
                have hmy : mOf M y = none := by simp [mOf, hMy]
                have HMY := hid hmy
                have HMy := hid hMy
                clear hmy hMy
                go_wp2_with (first
                  | (at_lookup; refine wpList_lookup_mapK rfl _ _ 237 false rfl (int_keyed Tryz.underlying3) eI_inj Tryz.underlying237 (zero_bool _) rfl hB y rfl HKEY.out (.bool false) (by rw [HLU.out]; rfl) ?_)
                  | (at_mapUpdate; refine wpList_update_mapK rfl _ _ _ 237 rfl (int_keyed Tryz.underlying3) eI_inj Tryz.underlying237 rfl hB y true rfl rfl HKEY.out ?_; intro w2 hB2 hg2; have cx2 := hB.cell rfl hg2 cx; have c12 := hB.cell rfl hg2 c1; have hM2 := hM.kept hg2 (fun e => hne (by simpa using e)))
                  | (at_lookup; refine wpList_lookup_mapK rfl _ _ 153 true rfl (int_keyed Tryz.underlying3) eI_inj Tryz.underlying153 (zero_term _) rfl hM2 y rfl HKEY.out (.tuple #[.slice none 0 0, .bool false]) (by rw [HMy.out]; rfl) ?_))
                rw [HINS.out] at hB2
                go_roundw
                case rel => exact ⟨i + 1, _, y :: S', by omega, by go_num, hB2, by rw [HTK.out, HY.out]; exact HD.out.free HNE.out HMY.out, by omega, grown_trans hg hg2⟩
                case measure => simp [intOf]; omega
              | some u =>
                obtain ⟨v1, t1⟩ := u
                have hmy : mOf M y = some t1 := by simp [mOf, hMy]
                have hv1 := HMV.out y t1 hmy
                have hi1 := HSR.out.its y v1 t1 hMy
                have HMY := hid hmy
                have HMy := hid hMy
                have HCALL := hid (fun (w2 : World) (n2 : Nat) (g1 : wr.grownBy w2 (some bmet)) (g2 : BMap w2 bmet n2 (y :: S')) => IH.out (y :: S') t1 v1 n2 w2 (by omega) hv1.2.2.1 hv1.2.2.2 (hB.ints rfl g1 hi1) (HSR.out.grown hB g1 hne) g2 (hB.cell rfl g1 cv) (hB.cell rfl g1 cm) (hB.cell rfl g1 cx) (hB.cell rfl g1 cw))
                have cw1 : wr.cell? ⟨pw, 0, none⟩ = some (.func (.func 226) #[] #[.pointer (some ⟨pv, 0, none⟩), .pointer (some ⟨pm, 0, none⟩), .pointer (some ⟨pxb, 0, none⟩), .pointer (some ⟨pw, 0, none⟩)]) := cw
                clear hmy hMy hv1 hi1
                go_wp2_with (first
                  | (at_lookup; refine wpList_lookup_mapK rfl _ _ 237 false rfl (int_keyed Tryz.underlying3) eI_inj Tryz.underlying237 (zero_bool _) rfl hB y rfl HKEY.out (.bool false) (by rw [HLU.out]; rfl) ?_)
                  | (at_mapUpdate; refine wpList_update_mapK rfl _ _ _ 237 rfl (int_keyed Tryz.underlying3) eI_inj Tryz.underlying237 rfl hB y true rfl rfl HKEY.out ?_; intro w2 hB2 hg2; have cx2 := hB.cell rfl hg2 cx; have c12 := hB.cell rfl hg2 c1; have cw2 := hB.cell rfl hg2 cw1; have hM2 := hM.kept hg2 (fun e => hne (by simpa using e)))
                  | (at_lookup; refine wpList_lookup_mapK rfl _ _ 153 true rfl (int_keyed Tryz.underlying3) eI_inj Tryz.underlying153 (zero_term _) rfl hM2 y rfl HKEY.out (.tuple #[v1, .bool true]) (by rw [HMy.out]; rfl) ?_)
                  | fail)
                rw [HINS.out] at hB2
                refine (HCALL.out w2 _ hg2 hB2).mono ?_
                rintro e w3 ⟨hg3, ⟨rfl, hr3⟩ | ⟨rfl, S3, n3, hB3, hD3⟩⟩
                · have HR3 := hid hr3
                  clear hr3
                  go_wp2
                  go_ret
                  exact ⟨grown_trans hg (grown_trans hg2 hg3), Or.inl ⟨rfl, .step _ _ y t1 HMEM.out hy0 HMY.out HR3.out⟩⟩
                · have HD3 := hid hD3
                  clear hD3
                  go_wp2
                  go_roundw
                  case rel => exact ⟨i + 1, _, S3, by omega, by go_num, hB3, by rw [HTK.out, HY.out]; exact HD.out.into HNE.out HMY.out HD3.out, by
                    have h9 := cntV_le HD3.out.1
                    omega, grown_trans hg (grown_trans hg2 hg3)⟩
                  case measure => simp [intOf]; omega
      · have hit : i = t.length := by omega
        have HE : Hid (Dfs (mOf M) v S t S') := hid (by
          have := HD.out
          rwa [List.take_of_length_le (by omega)] at this)
        go_wp2
        go_ret
        exact ⟨hg, Or.inr ⟨rfl, S', _, hB, HE.out⟩⟩
set_option maxHeartbeats 400000 in
set_option maxRecDepth 100000 in
theorem unify_comes (px bm : Nat) (vs vt : Value) (s : Sg) (M : Int → Option VT) (v : Int) (t : List Int) (w : World) (hv : v < 0) (hv2 : -1000 ≤ v) (hm : MOK s (mOf M)) (hT : IsT s 24 t) (hl : t.length ≤ 60) (ra : Ints w vt t) (hS : SolvW w px bm vs s M) :
    Calls Tryz.prog 213 #[.pointer (some ⟨px, 0, none⟩), .int .i64 v, vt] w fun e w' => ∃ b, e = .returned (.bool b) ∧ (b = true ↔ Reach (mOf M) t v) ∧ Below w.heap.size w w' := by
  have hbm : bm < w.heap.size := by obtain ⟨n, h⟩ := hS.map; exact h.lt
  have hmm := @run_makeMap Tryz.prog
  have HC := hid (fun (W : World) (hb : Below w.heap.size w W) => unify_comes1 px bm (w.heap.size + 1 + 1) (w.heap.size + 1) (w.heap.size + 1 + 1 + 1) w.heap.size (w.heap.size + 1 + 1 + 1 + 1) vs s M v hv hv2 hm (by omega) (cntV [] + 1) [] t vt 0 W (by omega) hT hl (ra.below hb) (hS.below hb))
  obtain ⟨ta, tc, hte, -⟩ := ra.open
  subst hte
  clear hm hT hS ra
  go_enter Tryz.func213, Tryz.ntmps213
  go_wp2_with fail
  clear hmm
  have k1 := cell_new1 w (.pointer (some ⟨px, 0, none⟩)) 173
  have k2 := cell_new1 (w.alloc (.cells #[.pointer (some ⟨px, 0, none⟩)] 173)) (.int .i64 v) 3
  have k3 := MapK.made Tryz.prog 3 eI Value.bool ((w.alloc (.cells #[.pointer (some ⟨px, 0, none⟩)] 173)).alloc (.cells #[.int .i64 v] 3))
  have k4 := cell_new1 (((w.alloc (.cells #[.pointer (some ⟨px, 0, none⟩)] 173)).alloc (.cells #[.int .i64 v] 3)).alloc (.map #[] 0)) (.map (some (w.heap.size + 1 + 1))) 237
  have k5 := cell_new1 ((((w.alloc (.cells #[.pointer (some ⟨px, 0, none⟩)] 173)).alloc (.cells #[.int .i64 v] 3)).alloc (.map #[] 0)).alloc (.cells #[.map (some (w.heap.size + 1 + 1))] 237)) (fnC (w.heap.size + 1) (w.heap.size + 1 + 1 + 1) w.heap.size (w.heap.size + 1 + 1 + 1 + 1)) 160
  simp only [World.size_alloc] at k2 k3 k4 k5
  have hB : ∀ o1 o2 o3 o4 o5, Below w.heap.size w (((((w.alloc o1).alloc o2).alloc o3).alloc o4).alloc o5) := fun o1 o2 o3 o4 o5 => (((((Below.refl _ _).alloc (Nat.le_refl _) _).alloc (by simp) _).alloc (by simp; omega) _).alloc (by simp; omega) _).alloc (by simp; omega) _
  have hc := HC.out _ (hB _ _ _ _ _) (by
    have h := (k3.alloc (.cells #[.map (some (w.heap.size + 1 + 1))] 237)).alloc (.cells #[fnC (w.heap.size + 1) (w.heap.size + 1 + 1 + 1) w.heap.size (w.heap.size + 1 + 1 + 1 + 1)] 160)
    unfold BMap
    rw [show setM [] = fun _ => none from funext fun x => by simp [setM]]
    exact h) (cell_alloc_keep _ (cell_alloc_keep _ (cell_alloc_keep _ k2))) (cell_alloc_keep _ k4) (cell_alloc_keep _ (cell_alloc_keep _ (cell_alloc_keep _ (cell_alloc_keep _ k1)))) k5
  refine Calls.mono hc ?_
  have hbx := hB (.cells #[.pointer (some ⟨px, 0, none⟩)] 173) (.cells #[.int .i64 v] 3) (.map #[] 0) (.cells #[.map (some (w.heap.size + 1 + 1))] 237) (.cells #[fnC (w.heap.size + 1) (w.heap.size + 1 + 1 + 1) w.heap.size (w.heap.size + 1 + 1 + 1 + 1)] 160)
  clear k1 k2 k3 k4 k5 hB hc
  rintro e w1 ⟨hg, ⟨rfl, hr⟩ | ⟨rfl, S', n', hm', hd⟩⟩
  · have HB := hid (hbx.grown hg hbx.size (fun q hq => by cases hq; omega))
    have HR := hid hr
    clear hg hbx hr
    go_wp2
    go_ret
    exact ⟨true, rfl, by simpa using HR.out, HB.out⟩
  · have HB := hid (hbx.grown hg hbx.size (fun q hq => by cases hq; omega))
    have HR := hid hd.no
    clear hg hbx hd hm'
    go_wp2
    go_ret
    exact ⟨false, rfl, by simpa using HR.out, HB.out⟩
end Go.Proofs.YtmpjaakkjhmpmaaGreatDoor
