/-
  WHAT IT HOLDS: what Chain answers (ChaR); the sides of a statement in one contract; the closure of Chain; small facts on cells.
  WHAT IT HOLDS: the plain law of CarryChains: what Chain answers is one thing, and its entry holds and says just what it says. No program in sight.
  WHAT IT HOLDS: the contract of Chain of package carry. Conditions: the arguments read as data; small signs, small libraries.
-/
import Derived.Test.YtalodmochkodiaaGreatZRTopCarried41
import Derived.Test.YtalodmochkodiaaGreatZRTopCarried38
namespace Go.Proofs.YtalodmochkodiaaGreat
open Go Go.RowKit Go.Maps
def SidR (s : Sg) (m : List Int) (z : Bool) (A B : List Int) : Prop := (z = false ∧ m.head? ≠ some 0 ∧ A = [] ∧ B = []) ∨ (z = true ∧ m = 0 :: (A ++ B) ∧ IsT s 12 A ∧ IsT s 12 B)
def SidQ (s : Sg) (m : List Int) (w : World) (e : Ending) (w' : World) : Prop := ∃ ua ub z A B, SidR s m z A B ∧ e = .returned (.tuple #[ua, ub, .bool z]) ∧ Ints w' ua A ∧ Ints w' ub B ∧ Below w.heap.size w w'
theorem carry_sidesU (vs vm : Value) (s : Sg) (m : List Int) (w : World) (hv : termB s m = true) (hs : SignAt w vs s) (rm : Ints w vm m) (hs1 : s.length ≤ 1000) :
    Calls Tryz.prog 174 #[vs, vm] w fun e w' => SidQ s m w e w' := by
  by_cases h0 : m.head? = some 0
  · obtain ⟨A, B, hm, tA, tB, lA, lB⟩ := halves_T hv h0
    refine (carry_sides vs vm s m A B w hm hv tA tB hs rm hs1).mono ?_
    rintro e w1 ⟨ua, ub, rfl, ia, ib, hb⟩
    exact ⟨ua, ub, true, A, B, Or.inr ⟨rfl, hm, tA, tB⟩, rfl, ia, ib, hb⟩
  · refine (carry_sides0 vs vm s m w (termB_T hv).ne h0 rm).mono ?_
    rintro e w1 ⟨rfl, hb⟩
    exact ⟨_, _, false, [], [], Or.inl ⟨rfl, h0, rfl, rfl⟩, rfl, Ints.nil _, Ints.nil _, hb⟩
def noN : Nm := ⟨#[]⟩
def atI (U : List Nm) (n : Nm) : Int := firstI U.length fun i => decide (n = U.getD i ByteArray.empty)
def chP (U : List Nm) (i k n a : Nm) : List St := [(1, atI U i, 0), (1, atI U k, 0), (1, atI U n, 0), (2, 1, 2), (2, 0, 3), (1, atI U a, 0), (2, 4, 5)]
/-- the last part: the proof says something or does not. -/
def ChaE (s : Sg) (l : List En) (a n o b i k : Nm) (x : En) (e : Int) : Prop := ∃ g y, givL l (usedL [a, n, i, k]) = some g ∧ SayP s g (chP (usedL [a, n, i, k]) i k n a) y ∧
  ((y.2 ≠ 0 ∧ x = en0 ∧ e = 4) ∨ (y.2 = 0 ∧ x = ⟨o, b, y.1, usedL [a, n, i, k], chP (usedL [a, n, i, k]) i k n a⟩ ∧ e = 0))
/-- what Chain answers. -/
def ChaR (s : Sg) (l : List En) (a n o b : Nm) (x : En) (e : Int) : Prop :=
  (frI s l o b [a, n] ≠ 0 ∧ x = en0 ∧ e = frI s l o b [a, n]) ∨ (frI s l o b [a, n] = 0 ∧ ∃ p q z1 z2 A B C D, saysN l a = some p ∧ saysN l n = some q ∧ SidR s p z1 A B ∧ SidR s q z2 C D ∧
    (((z1 = false ∨ z2 = false) ∧ x = en0 ∧ e = 10) ∨ (z1 = true ∧ z2 = true ∧ ∃ z, MeetsA s B C z ∧
      (((z = false ∨ sayN s l sL = noN ∨ sayN s l kL = noN) ∧ x = en0 ∧ e = 8) ∨ (z = true ∧ sayN s l sL ≠ noN ∧ sayN s l kL ≠ noN ∧ ChaE s l a n o b (sayN s l sL) (sayN s l kL) x e)))))
theorem txts_lit4 (w : World) (x y z t : Nm) (T : TypeId) (hx : x.size ≤ 140737488355328) (hy : y.size ≤ 140737488355328) (hz : z.size ≤ 140737488355328) (ht : t.size ≤ 140737488355328) : TxtsAt (w.alloc (.cells #[.string x, .string y, .string z, .string t] T)) (.slice (some ⟨w.heap.size, 0, none⟩) 4 4) [x, y, z, t] :=
  txts_of (l := [x, y, z, t]) (by simp) (by simp; exact ⟨hx, hy, hz, ht⟩) fun j h => by
    match j, h with
    | 0, _ => rw [World.cell?_alloc_new]; rfl
    | 1, _ => rw [World.cell?_alloc_new]; rfl
    | 2, _ => rw [World.cell?_alloc_new]; rfl
    | 3, _ => rw [World.cell?_alloc_new]; rfl
/-- numbers stay where a cell is written that holds none. -/
theorem ints_set {w : World} {v : Value} {l : List Int} (h : Ints w v l) {b k : Nat} {u y : Value} (hc : w.cell? ⟨b, k, none⟩ = some u) (hu : ∀ n, u ≠ .int .i64 n) : Ints (w.setCell ⟨b, k, none⟩ y) v l := by
  obtain ⟨h1, a, cap, h2, h3, h4, h5, h6⟩ := h
  refine ⟨h1, a, cap, h2, h3, h4, h5, fun j x hj => ?_⟩
  obtain ⟨g, o, e, hg⟩ := h6 j x hj
  refine ⟨g, o, e, ?_⟩
  rw [World.cell?_setCell_other _ _ _ _ ?_]
  · exact hg
  · intro e
    rw [← e, hc] at hg
    cases hg
    rw [List.getElem?_map] at hj
    cases hq : l[j]? with
    | none => rw [hq] at hj; simp at hj
    | some n => rw [hq] at hj; simp at hj; exact hu n hj.symm
theorem C5.set2 {w : World} {b : Nat} {x0 x1 x2 x3 x4 : Value} (h : C5 w b x0 x1 x2 x3 x4) (y : Value) : C5 (w.setCell ⟨b, 2, none⟩ y) b x0 x1 y x3 x4 := by
  refine ⟨?_, ?_, World.cell?_setCell_same _ _ _ h.c2, ?_, ?_, ?_, ?_, ?_, ?_, ?_⟩
  · rw [World.cell?_setCell_other _ _ _ _ (by simp)]; exact h.c0
  · rw [World.cell?_setCell_other _ _ _ _ (by simp)]; exact h.c1
  · rw [World.cell?_setCell_other _ _ _ _ (by simp)]; exact h.c3
  · rw [World.cell?_setCell_other _ _ _ _ (by simp)]; exact h.c4
  · rw [World.frozen?_setCell]; exact h.z0
  · rw [World.frozen?_setCell]; exact h.z1
  · rw [World.frozen?_setCell]; exact h.z2
  · rw [World.frozen?_setCell]; exact h.z3
  · rw [World.frozen?_setCell]; exact h.z4
theorem cell_off {w : World} {b i j : Nat} {y : Value} (h : j ≠ i) : (w.setCell ⟨b, i, none⟩ y).cell? ⟨b, j, none⟩ = w.cell? ⟨b, j, none⟩ := World.cell?_setCell_other _ _ _ _ (fun e => h (by cases e; rfl))
/-- numbers stay where five such cells are written. -/
theorem ints_set5 {w : World} {v : Value} {l : List Int} (h : Ints w v l) {b : Nat} {x0 x1 x2 x3 x4 : Value} (hc : C5 w b x0 x1 x2 x3 x4) (h0 : ∀ n, x0 ≠ .int .i64 n) (h1 : ∀ n, x1 ≠ .int .i64 n) (h2 : ∀ n, x2 ≠ .int .i64 n) (h3 : ∀ n, x3 ≠ .int .i64 n) (h4 : ∀ n, x4 ≠ .int .i64 n) (y0 y1 y2 y3 y4 : Value) : Ints (set5 w b y0 y1 y2 y3 y4) v l := by
  unfold set5
  have k0 := ints_set (b := b) (k := 0) (y := y0) h hc.c0 h0
  have k1 := ints_set (b := b) (k := 1) (y := y1) k0 (by rw [cell_off (by decide)]; exact hc.c1) h1
  have k2 := ints_set (b := b) (k := 2) (y := y2) k1 (by rw [cell_off (by decide), cell_off (by decide)]; exact hc.c2) h2
  have k3 := ints_set (b := b) (k := 3) (y := y3) k2 (by rw [cell_off (by decide), cell_off (by decide), cell_off (by decide)]; exact hc.c3) h3
  exact ints_set (b := b) (k := 4) (y := y4) k3 (by rw [cell_off (by decide), cell_off (by decide), cell_off (by decide), cell_off (by decide)]; exact hc.c4) h4
theorem sayN_in {s : Sg} {l : List En} {t : List Int} (h : sayN s l t ≠ noN) : 0 ≤ sayI s l t ∧ ∃ i, ∃ h : i < l.length, sayI s l t = i ∧ sayN s l t = l[i].name := by
  unfold sayN at h ⊢
  split at h
  · exact absurd rfl h
  · rename_i h0
    have hb := firstI_bound l.length (fun i => alikeB s ((l.map En.says).getD i []) t)
    have hI : sayI s l t = firstI l.length (fun i => alikeB s ((l.map En.says).getD i []) t) := rfl
    rw [← hI] at hb
    obtain ⟨i, hi⟩ : ∃ i : Nat, sayI s l t = i := ⟨(sayI s l t).toNat, by omega⟩
    have hlt : i < l.length := by omega
    refine ⟨by omega, i, hlt, hi, ?_⟩
    rw [if_neg h0, hi, Int.toNat_natCast, List.getD_eq_getElem?_getD, List.getElem?_eq_getElem hlt]; rfl
theorem name_saysN {l : List En} {i : Nat} (h : i < l.length) : ∃ t, saysN l l[i].name = some t := by
  cases e : idxN l l[i].name with
  | none => exact absurd rfl (idxN_none e _ (List.getElem_mem h))
  | some j => exact ⟨_, (saysN_some e).2⟩
theorem sayN_says {s : Sg} {l : List En} {t : List Int} (h : sayN s l t ≠ noN) : ∃ u, saysN l (sayN s l t) = some u := by
  obtain ⟨-, i, hi, -, e⟩ := sayN_in h
  rw [e]; exact name_saysN hi
theorem givL_all {l : List En} : ∀ {ns : List Nm}, (∀ n ∈ ns, ∃ t, saysN l n = some t) → ∃ ts, givL l ns = some ts
  | [], _ => ⟨[], rfl⟩
  | n :: ns, h => by
    obtain ⟨t, ht⟩ := h n (by simp)
    obtain ⟨ts, hts⟩ := givL_all (ns := ns) (fun m hm => h m (by simp [hm]))
    exact ⟨t :: ts, by simp [givL, ht, hts]⟩
theorem chain_giv {s : Sg} {l : List En} {a n : Nm} {p q : List Int} (h1 : saysN l a = some p) (h2 : saysN l n = some q) (h3 : sayN s l sL ≠ noN) (h4 : sayN s l kL ≠ noN) : ∃ g, givL l (usedL [a, n, sayN s l sL, sayN s l kL]) = some g := by
  refine givL_all fun m hm => ?_
  have := ((usedL_facts [a, n, sayN s l sL, sayN s l kL]).2.1 m).1 hm
  simp at this
  rcases this with rfl | rfl | rfl | rfl
  · exact ⟨_, h1⟩
  · exact ⟨_, h2⟩
  · exact sayN_says h3
  · exact sayN_says h4
theorem carry_Chain1 (px : Nat) (vU : Value) (U : List Nm) (n : Nm) (w : World) (hc : w.cell? ⟨px, 3, none⟩ = some vU) (hU : TxtsAt w vU U) :
    Calls Tryz.prog 180 #[.string n, .pointer (some ⟨px, 0, none⟩)] w fun e w' => e = .returned (.agg #[.int .i64 1, .int .i64 (atI U n), .int .i64 0]) ∧ Below w.heap.size w w' := by
  have hb0 : Below w.heap.size w (w.alloc (.cells #[.int .i64 0, .int .i64 0, .int .i64 0] 123)) := (Below.refl _ _).alloc (Nat.le_refl _) _
  have HIX := hid (sl_Index_strs vU U n _ (hU.below hb0))
  obtain ⟨ua, uc, rfl, -⟩ := hU.open
  have hlt := World.block_lt_of_cell? _ _ hc
  have c0 : (w.alloc (.cells #[.int .i64 0, .int .i64 0, .int .i64 0] 123)).cell? ⟨w.heap.size, 0, none⟩ = some (.int .i64 0) := by rw [World.cell?_alloc_new]; rfl
  have c1 : (w.alloc (.cells #[.int .i64 0, .int .i64 0, .int .i64 0] 123)).cell? ⟨w.heap.size, 1, none⟩ = some (.int .i64 0) := by rw [World.cell?_alloc_new]; rfl
  have c2 : (w.alloc (.cells #[.int .i64 0, .int .i64 0, .int .i64 0] 123)).cell? ⟨w.heap.size, 2, none⟩ = some (.int .i64 0) := by rw [World.cell?_alloc_new]; rfl
  have z0 : (w.alloc (.cells #[.int .i64 0, .int .i64 0, .int .i64 0] 123)).frozen? ⟨w.heap.size, 0, none⟩ = false := World.frozen?_alloc_new _ _ _ _
  have z1 : (w.alloc (.cells #[.int .i64 0, .int .i64 0, .int .i64 0] 123)).frozen? ⟨w.heap.size, 1, none⟩ = false := World.frozen?_alloc_new _ _ _ _
  have z2 : (w.alloc (.cells #[.int .i64 0, .int .i64 0, .int .i64 0] 123)).frozen? ⟨w.heap.size, 2, none⟩ = false := World.frozen?_alloc_new _ _ _ _
  obtain ⟨W, hW⟩ : ∃ W, w.alloc (.cells #[.int .i64 0, .int .i64 0, .int .i64 0] 123) = W := ⟨_, rfl⟩
  have hc' := (hb0.cell hlt).trans hc
  rw [hW] at HIX hb0 c0 c1 c2 z0 z1 z2
  have HB0 := hid hb0
  have HW := hid hW
  obtain ⟨I, hI⟩ : ∃ I, atI U n = I := ⟨_, rfl⟩
  rw [show (firstI U.length fun i => decide (n = U.getD i ByteArray.empty)) = atI U n from rfl, hI] at HIX
  rw [hI]
  have HC := hid (And.intro c0 (And.intro c1 c2))
  have HZ := hid (And.intro z0 (And.intro z1 z2))
  clear hU hc hb0 hW hI c0 c1 c2 z0 z1 z2
  go_enter Tryz.func180, Tryz.ntmps180
  go_wp2_with fail
  rw [HW.out]
  refine HIX.out.mono ?_
  rintro e w1 ⟨rfl, rfl⟩
  go_wp2_with fail
  refine (carry_cite I W).mono ?_
  rintro e w2 ⟨rfl, hb2⟩
  have hb := HB0.out.trans (hb2.mono HB0.out.size)
  obtain ⟨c0, c1, c2⟩ := HC.out
  obtain ⟨z0, z1, z2⟩ := HZ.out
  have d0 := (hb2.cell (World.block_lt_of_cell? _ _ c0)).trans c0
  have d1 := (hb2.cell (World.block_lt_of_cell? _ _ c1)).trans c1
  have d2 := (hb2.cell (World.block_lt_of_cell? _ _ c2)).trans c2
  have y0 := (hb2.frozen (World.block_lt_of_cell? _ _ c0)).trans z0
  have y1 := (hb2.frozen (World.block_lt_of_cell? _ _ c1)).trans z1
  have y2 := (hb2.frozen (World.block_lt_of_cell? _ _ c2)).trans z2
  clear c0 c1 c2 z0 z1 z2
  go_wp2
  (try simp only [Exit.inBlock, Exit.then])
  refine bodyPost_ret (v := .agg #[.int .i64 1, .int .i64 I, .int .i64 0]) ?_ rfl ?_
  · simp only [results, Tryz.results180]
    go_simp
  · exact ⟨rfl, ((hb.setCell (Nat.le_refl _) _).setCell (Nat.le_refl _) _).setCell (Nat.le_refl _) _⟩
end Go.Proofs.YtalodmochkodiaaGreat
namespace Go.Proofs.YtalodmochkodiaaGreat
open Go Go.RowKit Go.Maps
theorem givL_append {l : List En} (m : List En) : ∀ {ns : List Nm} {g : List (List Int)}, givL l ns = some g → givL (l ++ m) ns = some g
  | [], g, h => by simpa [givL] using h
  | n :: ns, g, h => by
    unfold givL at h ⊢
    cases h1 : saysN l n with
    | none => rw [h1] at h; simp at h
    | some t =>
      cases h2 : givL l ns with
      | none => rw [h1, h2] at h; simp at h
      | some ts =>
        rw [h1, h2] at h
        rw [saysN_append h1 m, givL_append m h2]
        exact h
theorem chain_holds {s : Sg} {l : List En} {a n o b : Nm} {x : En} (h : ChaR s l a n o b x 0) :
    LibOK s l ∧ entryB s x = true ∧ x.name = o ∧ idxN l o = none ∧ (l.length ≠ 60 → HoldR s (l ++ [x]) o true 0 ∧ StgR s (l ++ [x]) o x.says 0) := by
  rcases h with ⟨h1, -, h2⟩ | ⟨h1, p, q, z1, z2, A, B, C, D, hp, hq, -, -, ⟨-, -, h⟩ | ⟨-, -, z, -, ⟨-, -, h⟩ | ⟨-, hI, hK, g, y, hg, hsay, ⟨h2, -, h⟩ | ⟨h2, rfl, -⟩⟩⟩⟩
  · exact absurd h2.symm h1
  · cases h
  · cases h
  · cases h
  obtain ⟨hl, ho, hb, hnm, hix⟩ := frI_0 h1
  have HL := libB_iff.1 hl
  obtain ⟨f1, f2, f3⟩ := usedL_facts [a, n, sayN s l sL, sayN s l kL]
  obtain ⟨u1, hu1⟩ := sayN_says hI
  obtain ⟨u2, hu2⟩ := sayN_says hK
  obtain ⟨I, hIe⟩ : ∃ I, sayN s l sL = I := ⟨_, rfl⟩
  obtain ⟨K, hKe⟩ : ∃ K, sayN s l kL = K := ⟨_, rfl⟩
  rw [hIe] at hu1
  rw [hKe] at hu2
  rw [hIe, hKe] at f1 f2 f3 hg hsay ⊢
  obtain ⟨U, hU⟩ : ∃ U, usedL [a, n, I, K] = U := ⟨_, rfl⟩
  rw [hU] at f1 f2 f3 hg hsay ⊢
  obtain ⟨P, hP⟩ : ∃ P, chP U I K n a = P := ⟨_, rfl⟩
  have hP6 : P[6]? = some (2, 4, 5) := by rw [← hP]; rfl
  have hPl : P.length = 7 := by rw [← hP]; rfl
  rw [hP] at hsay ⊢
  obtain ⟨y1, y2⟩ := y
  simp only at h2
  subst h2
  have hgl : g.length = U.length := givL_len hg
  have hsp := hsay
  rcases hsay with ⟨-, h⟩ | ⟨hask, ls, hr, ⟨-, hlast⟩ | ⟨h, -⟩⟩
  · simp at h
  · have hpf := (asked_parts hask).2
    rw [hgl] at hpf
    have hll : ls.length = 7 := by
      rcases hr.2 with ⟨-, h⟩ | ⟨h, -⟩
      · rw [h, hPl]
      · exact absurd rfl h
    have hl6 : ls[6]? = some y1 := by rw [List.getLast?_eq_getElem?, hll] at hlast; exact hlast
    obtain ⟨st, hst, hsr⟩ := hr.1 6 y1 hl6
    rw [hP6] at hst
    cases hst
    unfold sayR at hsr
    rw [if_neg (by decide)] at hsr
    obtain ⟨ty, cy⟩ := det_term hsr
    have hE : entryB s ⟨o, b, y1, U, P⟩ = true := by
      refine entryB_iff.2 ⟨ho, hb, ty, cy, ?_, f3, ?_, ?_, ?_⟩
      · show U.length ≤ 12; simp at f1; omega
      · intro u hu
        have := (f2 u).1 hu
        simp at this
        rcases this with rfl | rfl | rfl | rfl
        · exact (saysN_name HL hp).1
        · exact (saysN_name HL hq).1
        · exact (saysN_name HL hu1).1
        · exact (saysN_name HL hu2).1
      · intro h0; exact absurd h0 (by show P.length ≠ 0; omega)
      · intro _; exact hpf
    refine ⟨HL, hE, rfl, hix, fun h60 => ?_⟩
    have HM := lib_add HL hE hix h60
    have hi := idxN_last HM
    obtain ⟨X, hX⟩ : ∃ X, (⟨o, b, y1, U, P⟩ : En) = X := ⟨_, rfl⟩
    have hlt : l.length < (l ++ [X]).length := by simp
    have hgX : (l ++ [X])[l.length] = X := by simp
    have hS : StrP s (l ++ [X]) X (y1, true) := by
      subst hX
      exact Or.inr ⟨by show P.length ≠ 0; omega, Or.inr ⟨g, (y1, 0), givL_append _ hg, hsp, by simp⟩⟩
    have hXs : X.says = y1 := by rw [← hX]
    have hXn : X.name = o := by rw [← hX]
    rw [hX] at HM hi ⊢
    rw [hXn] at hi
    refine ⟨Or.inr ⟨libB_iff.2 HM, Or.inr ⟨l.length, hlt, hi, ?_, rfl⟩⟩, Or.inr ⟨libB_iff.2 HM, Or.inr ⟨l.length, hlt, hi, (y1, true), ?_, Or.inl ⟨rfl, hXs, rfl⟩⟩⟩⟩
    · rw [hgX]
      exact ⟨_, hS, by simp [hXs, instB_refl, ty]⟩
    · rw [hgX]; exact hS
  · exact absurd rfl h
end Go.Proofs.YtalodmochkodiaaGreat
namespace Go.Proofs.YtalodmochkodiaaGreat
open Go Go.RowKit Go.Maps
theorem nm_nil {I : Nm} (h : I = noN) : ByteArray.toList I = [] := by subst h; rw [ByteArray.toList_eq]; rfl
theorem nm_ne {I : Nm} (h : I ≠ noN) : ¬ ByteArray.toList I = [] ∧ (ByteArray.toList I).isEmpty = false := by
  have h1 : ¬ ByteArray.toList I = [] := fun e => h (WideShapes.bytes_inj (by rw [ByteArray.toList_eq] at e; rw [e]; rfl))
  refine ⟨h1, ?_⟩
  cases e : ByteArray.toList I with
  | nil => exact absurd e h1
  | cons x r => rfl
set_option maxHeartbeats 8000000 in
set_option maxRecDepth 100000 in
theorem carry_Chain (vs vl : Value) (s : Sg) (l : List En) (a n o b : Nm) (w : World) (hs : SignAt w vs s) (hl : EntsAt w vl l) (hs1 : s.length ≤ 1000) (hl1 : l.length ≤ 1000) (ha : a.size ≤ 140737488355328) (hn : n.size ≤ 140737488355328) (ho : o.size ≤ 140737488355328) (hbn : b.size ≤ 140737488355328) :
    Calls Tryz.prog 82 #[vs, vl, .string a, .string n, .string o, .string b] w fun e w' => EntQ (ChaR s l a n o b) w e w' := by
  have hC5 := C5.new w (.string ⟨#[]⟩) (.string ⟨#[]⟩) (.slice none 0 0) (.slice none 0 0) (.slice none 0 0) 41
  have hbC : Below w.heap.size w (w.alloc (.cells #[.string ⟨#[]⟩, .string ⟨#[]⟩, .slice none 0 0, .slice none 0 0, .slice none 0 0] 41)) := (Below.refl _ _).alloc (Nat.le_refl _) _
  obtain ⟨W, hW⟩ : ∃ W, w.alloc (.cells #[.string ⟨#[]⟩, .string ⟨#[]⟩, .slice none 0 0, .slice none 0 0, .slice none 0 0] 41) = W := ⟨_, rfl⟩
  have hWz : W.heap.size = w.heap.size + 1 := by rw [← hW]; simp
  rw [hW] at hC5 hbC
  have hlit := txts_lit2 W a n 9 ha hn
  have hb0 : Below W.heap.size W (W.alloc (.cells #[.string a, .string n] 9)) := (Below.refl _ _).alloc (Nat.le_refl _) _
  have hbw := hbC.trans (hb0.mono hbC.size)
  have HFR := hid (carry_fresh vs vl _ s l o b [a, n] _ (hs.below hbw) (hl.below hbw) hlit hs1 hl1 (by simp) ho hbn)
  have HB0 := hid hb0
  have HBC := hid hbC
  have HC := hid (fun (X : World) (hX : Below W.heap.size W X) => hC5.below hX)
  have HSG := hid (fun (X : World) (hX : Below W.heap.size W X) => (hs.below hbC).below hX)
  have HLL := hid (fun (X : World) (hX : Below W.heap.size W X) => (hl.below hbC).below hX)
  have HBW := hid (fun (X : World) (hX : Below W.heap.size W X) => hbC.trans (hX.mono hbC.size))
  have HW := hid hW
  have HWZ := hid hWz
  clear hlit hb0 hl hs hC5 hbC hW hbw hWz
  go_enter Tryz.func82, Tryz.ntmps82
  go_wp2_with fail
  rw [HW.out]
  rw [← HWZ.out]
  refine HFR.out.mono ?_
  rintro e w1 ⟨u, ts, rfl, hz, hb1⟩
  have HB1 := hid (HB0.out.trans (hb1.mono HB0.out.size))
  obtain ⟨er, he⟩ : ∃ er, frI s l o b [a, n] = er := ⟨_, rfl⟩
  have HE := hid he
  rw [he] at hz ⊢
  clear he hb1 HFR
  by_cases h0 : er = 0
  case neg =>
    have HX : Hid (ChaR s l a n o b en0 er) := hid (Or.inl ⟨by rw [HE.out]; exact h0, rfl, HE.out.symm⟩)
    have n0 : (er != 0) = true := by simpa using h0
    have HC1 := hid (HC.out w1 HB1.out)
    clear hz h0
    obtain ⟨c0, c1, c2, c3, c4, z0, z1, z2, z3, z4⟩ := HC1.out
    go_wp2
    (try simp only [Exit.inBlock, Exit.then])
    clear c0 c1 c2 c3 c4 z0 z1 z2 z3 z4
    obtain ⟨c0, c1, c2, c3, c4, -, -, -, -, -⟩ := HC1.out.store (.string ⟨#[]⟩) (.string ⟨#[]⟩) (.slice none 0 0) (.slice none 0 0) (.slice none 0 0)
    refine bodyPost_ret (v := .tuple #[.agg #[.string ⟨#[]⟩, .string ⟨#[]⟩, .slice none 0 0, .slice none 0 0, .slice none 0 0], .int .i64 er]) ?_ rfl (EntQ.zero HX.out (set5_below (HBW.out w1 HB1.out) (Nat.le_refl _) _ _ _ _ _))
    unfold set5 at c0 c1 c2 c3 c4
    simp only [results, Tryz.results82]
    go_simp
  subst h0
  obtain ⟨hg, hT⟩ := hz rfl
  obtain ⟨p, q, rfl, hp, hq⟩ := givL_two hg
  have HLOK := hid (libB_iff.1 (frI_0 HE.out).1)
  have tp := (saysN_name HLOK.out hp).2.1
  have tq := (saysN_name HLOK.out hq).2.1
  have HR : Hid (∀ z1 z2 A B C D x e, SidR s p z1 A B → SidR s q z2 C D → (((z1 = false ∨ z2 = false) ∧ x = en0 ∧ e = 10) ∨ (z1 = true ∧ z2 = true ∧ ∃ z, MeetsA s B C z ∧
      (((z = false ∨ sayN s l sL = noN ∨ sayN s l kL = noN) ∧ x = en0 ∧ e = 8) ∨ (z = true ∧ sayN s l sL ≠ noN ∧ sayN s l kL ≠ noN ∧ ChaE s l a n o b (sayN s l sL) (sayN s l kL) x e)))) → ChaR s l a n o b x e) :=
    hid fun z1 z2 A B C D x e h1 h2 h3 => Or.inr ⟨HE.out, p, q, z1, z2, A, B, C, D, hp, hq, h1, h2, h3⟩
  have HG4 := hid (fun h3 h4 => chain_giv (s := s) hp hq h3 h4)
  obtain ⟨ta, tc, rfl, tcap, -, -, TC⟩ := hT.open
  obtain ⟨tb, to, up, rfl, k0, i0⟩ := TC 0 (by simp)
  obtain ⟨tb', to', uq, he', k1, i1⟩ := TC 1 (by simp)
  obtain ⟨rfl, rfl⟩ : tb = tb' ∧ to = to' := by simpa using he'
  simp only [List.getElem_cons_zero, List.getElem_cons_succ, Nat.add_zero, List.length_cons, List.length_nil, Nat.zero_add, Nat.reduceAdd] at k0 k1 tcap i0 i1 ⊢
  have HS1 := hid (carry_sidesU vs up s p w1 tp (HSG.out w1 HB1.out) i0 hs1)
  have HS2 := hid (fun (X : World) (hX : Below w1.heap.size w1 X) => carry_sidesU vs uq s q X tq (HSG.out X (HB1.out.trans (hX.mono HB1.out.size))) (i1.below hX) hs1)
  obtain ⟨pa, pc, rfl, -⟩ := i0.open
  obtain ⟨qa, qc, rfl, -⟩ := i1.open
  clear hz hg hp hq TC he' hT i0 i1 tp tq
  go_wp2_with fail
  refine HS1.out.mono ?_
  rintro e w2 ⟨ua, ub, y1, A, B, hsd1, rfl, iA, iB, hb2⟩
  have HS2' := hid (HS2.out w2 hb2)
  have HB2 := hid (HB1.out.trans (hb2.mono HB1.out.size))
  have k1' := (hb2.cell (World.block_lt_of_cell? _ _ k1)).trans k1
  have HSD1 := hid hsd1
  have HIB := hid iB
  obtain ⟨aa, ac, rfl, -⟩ := iA.open
  obtain ⟨ba, bc, rfl, -⟩ := iB.open
  clear hb2 k0 k1 iA iB hsd1 HS1 HS2
  go_wp2_with fail
  refine HS2'.out.mono ?_
  rintro e w3 ⟨uc, ud, y2, C, D, hsd2, rfl, iC, iD, hb3⟩
  have HB3 := hid (HB2.out.trans (hb3.mono HB2.out.size))
  have HSD2 := hid hsd2
  have HIB3 := hid (HIB.out.below hb3)
  have HIC3 := hid iC
  obtain ⟨ca, cc, rfl, -⟩ := iC.open
  obtain ⟨da, dc, rfl, -⟩ := iD.open
  clear hb3 k1' iC iD hsd2 HS2'
  have HC3 := hid (HC.out w3 HB3.out)
  cases y1 with
  | false =>
    have HX : Hid (ChaR s l a n o b en0 10) := hid (HR.out _ _ _ _ _ _ _ _ HSD1.out HSD2.out (Or.inl ⟨Or.inl rfl, rfl, rfl⟩))
    obtain ⟨c0, c1, c2, c3, c4, z0, z1, z2, z3, z4⟩ := HC3.out
    go_wp2
    (try simp only [Exit.inBlock, Exit.then])
    clear c0 c1 c2 c3 c4 z0 z1 z2 z3 z4
    obtain ⟨c0, c1, c2, c3, c4, -, -, -, -, -⟩ := HC3.out.store (.string ⟨#[]⟩) (.string ⟨#[]⟩) (.slice none 0 0) (.slice none 0 0) (.slice none 0 0)
    refine bodyPost_ret (v := .tuple #[.agg #[.string ⟨#[]⟩, .string ⟨#[]⟩, .slice none 0 0, .slice none 0 0, .slice none 0 0], .int .i64 10]) ?_ rfl (EntQ.zero HX.out (set5_below (HBW.out w3 HB3.out) (Nat.le_refl _) _ _ _ _ _))
    unfold set5 at c0 c1 c2 c3 c4
    simp only [results, Tryz.results82]
    go_simp
  | true =>
  cases y2 with
  | false =>
    have HX : Hid (ChaR s l a n o b en0 10) := hid (HR.out _ _ _ _ _ _ _ _ HSD1.out HSD2.out (Or.inl ⟨Or.inr rfl, rfl, rfl⟩))
    obtain ⟨c0, c1, c2, c3, c4, z0, z1, z2, z3, z4⟩ := HC3.out
    go_wp2
    (try simp only [Exit.inBlock, Exit.then])
    clear c0 c1 c2 c3 c4 z0 z1 z2 z3 z4
    obtain ⟨c0, c1, c2, c3, c4, -, -, -, -, -⟩ := HC3.out.store (.string ⟨#[]⟩) (.string ⟨#[]⟩) (.slice none 0 0) (.slice none 0 0) (.slice none 0 0)
    refine bodyPost_ret (v := .tuple #[.agg #[.string ⟨#[]⟩, .string ⟨#[]⟩, .slice none 0 0, .slice none 0 0, .slice none 0 0], .int .i64 10]) ?_ rfl (EntQ.zero HX.out (set5_below (HBW.out w3 HB3.out) (Nat.le_refl _) _ _ _ _ _))
    unfold set5 at c0 c1 c2 c3 c4
    simp only [results, Tryz.results82]
    go_simp
  | true =>
  have HR2 : Hid (∀ x e z, MeetsA s B C z → (((z = false ∨ sayN s l sL = noN ∨ sayN s l kL = noN) ∧ x = en0 ∧ e = 8) ∨ (z = true ∧ sayN s l sL ≠ noN ∧ sayN s l kL ≠ noN ∧ ChaE s l a n o b (sayN s l sL) (sayN s l kL) x e)) → ChaR s l a n o b x e) :=
    hid fun x e z h1 h2 => HR.out _ _ _ _ _ _ _ _ HSD1.out HSD2.out (Or.inr ⟨rfl, rfl, z, h1, h2⟩)
  clear HR HC3 HSD1 HSD2
  go_wp2_with fail
  refine (carry_isS w3).mono ?_
  rintro e w4 ⟨u4, rfl, i4, hb4⟩
  have HB4 := hid (HB3.out.trans (hb4.mono HB3.out.size))
  have H34 := hid hb4
  have HSA := hid (carry_saying vs vl u4 s l sL w4 (HSG.out w4 HB4.out) (HLL.out w4 HB4.out) i4 hs1)
  obtain ⟨v4a, v4c, rfl, -⟩ := i4.open
  clear hb4 i4
  go_wp2_with fail
  refine HSA.out.mono ?_
  rintro e w5 ⟨rfl, hb5⟩
  have HB5 := hid (HB4.out.trans (hb5.mono HB4.out.size))
  have H35 := hid (H34.out.trans (hb5.mono H34.out.size))
  clear hb5 HSA
  go_wp2_with fail
  refine (carry_isK w5).mono ?_
  rintro e w6 ⟨u6, rfl, i6, hb6⟩
  have HB6 := hid (HB5.out.trans (hb6.mono HB5.out.size))
  have H36 := hid (H35.out.trans (hb6.mono H35.out.size))
  have HSB := hid (carry_saying vs vl u6 s l kL w6 (HSG.out w6 HB6.out) (HLL.out w6 HB6.out) i6 hs1)
  obtain ⟨v6a, v6c, rfl, -⟩ := i6.open
  clear hb6 i6
  go_wp2_with fail
  refine HSB.out.mono ?_
  rintro e w7 ⟨rfl, hb7⟩
  have HB7 := hid (HB6.out.trans (hb7.mono HB6.out.size))
  have H37 := hid (H36.out.trans (hb7.mono H36.out.size))
  obtain ⟨I, hI⟩ : ∃ I, sayN s l sL = I := ⟨_, rfl⟩
  obtain ⟨K, hK⟩ : ∃ K, sayN s l kL = K := ⟨_, rfl⟩
  rw [hI, hK] at HR2 HG4
  have HIS : Hid (I ≠ noN → I.size ≤ 140737488355328) := hid (fun h => by
    rw [← hI] at h ⊢
    obtain ⟨-, i, hi, -, e⟩ := sayN_in h
    rw [e]
    obtain ⟨vv, hvv⟩ := HLL.out w7 HB7.out
    exact (hvv.2.2 i hi (by rw [hvv.2.1]; exact hi)).n1)
  have HKS : Hid (K ≠ noN → K.size ≤ 140737488355328) := hid (fun h => by
    rw [← hK] at h ⊢
    obtain ⟨-, i, hi, -, e⟩ := sayN_in h
    rw [e]
    obtain ⟨vv, hvv⟩ := HLL.out w7 HB7.out
    exact (hvv.2.2 i hi (by rw [hvv.2.1]; exact hi)).n1)
  rw [hI]
  rw [hK]
  have HME := hid (unify_Meets vs _ _ s B C w7 (HSG.out w7 HB7.out) (HIB3.out.below H37.out) (HIC3.out.below H37.out) hs1)
  clear hb7 HSB hI hK H34 H35 H36 H37 HIB HIB3 HIC3
  go_wp2_with fail
  refine HME.out.mono ?_
  rintro e w8 ⟨z, hz, rfl, hb8⟩
  have HB8 := hid (HB7.out.trans (hb8.mono HB7.out.size))
  have HC8 := hid (HC.out w8 HB8.out)
  have HZ := hid hz
  clear hb8 HME hz
  cases z with
  | false =>
    have HX : Hid (ChaR s l a n o b en0 8) := hid (HR2.out _ _ _ HZ.out (Or.inl ⟨Or.inl rfl, rfl, rfl⟩))
    obtain ⟨c0, c1, c2, c3, c4, z0, z1, z2, z3, z4⟩ := HC8.out
    go_wp2
    (try simp only [Exit.inBlock, Exit.then])
    clear c0 c1 c2 c3 c4 z0 z1 z2 z3 z4
    obtain ⟨c0, c1, c2, c3, c4, -, -, -, -, -⟩ := HC8.out.store (.string ⟨#[]⟩) (.string ⟨#[]⟩) (.slice none 0 0) (.slice none 0 0) (.slice none 0 0)
    refine bodyPost_ret (v := .tuple #[.agg #[.string ⟨#[]⟩, .string ⟨#[]⟩, .slice none 0 0, .slice none 0 0, .slice none 0 0], .int .i64 8]) ?_ rfl (EntQ.zero HX.out (set5_below (HBW.out w8 HB8.out) (Nat.le_refl _) _ _ _ _ _))
    unfold set5 at c0 c1 c2 c3 c4
    simp only [results, Tryz.results82]
    go_simp
  | true =>
  by_cases hI : I = noN
  case pos =>
    have q1 := nm_nil hI
    have HX : Hid (ChaR s l a n o b en0 8) := hid (HR2.out _ _ _ HZ.out (Or.inl ⟨Or.inr (Or.inl hI), rfl, rfl⟩))
    clear hI
    obtain ⟨c0, c1, c2, c3, c4, z0, z1, z2, z3, z4⟩ := HC8.out
    go_wp2
    (try simp only [Exit.inBlock, Exit.then])
    clear c0 c1 c2 c3 c4 z0 z1 z2 z3 z4
    obtain ⟨c0, c1, c2, c3, c4, -, -, -, -, -⟩ := HC8.out.store (.string ⟨#[]⟩) (.string ⟨#[]⟩) (.slice none 0 0) (.slice none 0 0) (.slice none 0 0)
    refine bodyPost_ret (v := .tuple #[.agg #[.string ⟨#[]⟩, .string ⟨#[]⟩, .slice none 0 0, .slice none 0 0, .slice none 0 0], .int .i64 8]) ?_ rfl (EntQ.zero HX.out (set5_below (HBW.out w8 HB8.out) (Nat.le_refl _) _ _ _ _ _))
    unfold set5 at c0 c1 c2 c3 c4
    simp only [results, Tryz.results82]
    go_simp
  obtain ⟨q1, q1'⟩ := nm_ne hI
  by_cases hK : K = noN
  case pos =>
    have q2 := nm_nil hK
    have HX : Hid (ChaR s l a n o b en0 8) := hid (HR2.out _ _ _ HZ.out (Or.inl ⟨Or.inr (Or.inr hK), rfl, rfl⟩))
    clear hK
    obtain ⟨c0, c1, c2, c3, c4, z0, z1, z2, z3, z4⟩ := HC8.out
    go_wp2
    (try simp only [Exit.inBlock, Exit.then])
    clear c0 c1 c2 c3 c4 z0 z1 z2 z3 z4
    obtain ⟨c0, c1, c2, c3, c4, -, -, -, -, -⟩ := HC8.out.store (.string ⟨#[]⟩) (.string ⟨#[]⟩) (.slice none 0 0) (.slice none 0 0) (.slice none 0 0)
    refine bodyPost_ret (v := .tuple #[.agg #[.string ⟨#[]⟩, .string ⟨#[]⟩, .slice none 0 0, .slice none 0 0, .slice none 0 0], .int .i64 8]) ?_ rfl (EntQ.zero HX.out (set5_below (HBW.out w8 HB8.out) (Nat.le_refl _) _ _ _ _ _))
    unfold set5 at c0 c1 c2 c3 c4
    simp only [results, Tryz.results82]
    go_simp
  obtain ⟨q2, q2'⟩ := nm_ne hK
  have his := HIS.out hI
  have hks := HKS.out hK
  obtain ⟨g, hg⟩ := HG4.out hI hK
  have HR3 : Hid (∀ x e, ChaE s l a n o b I K x e → ChaR s l a n o b x e) := hid fun x e h => HR2.out _ _ _ HZ.out (Or.inr ⟨rfl, hI, hK, h⟩)
  have HG := hid hg
  have hlit8 := txts_lit4 w8 a n I K 9 ha hn his hks
  have hba8 : Below w8.heap.size w8 (w8.alloc (.cells #[.string a, .string n, .string I, .string K] 9)) := (Below.refl _ _).alloc (Nat.le_refl _) _
  have HUS := hid (carry_used _ [a, n, I, K] _ hlit8 (by simp))
  have HBA8 := hid hba8
  clear hI hK hg HR2 HG4 HIS HKS hlit8 hba8 HC8
  go_wp2_with fail
  refine HUS.out.mono ?_
  rintro e w9 ⟨vu, rfl, o9, hb9'⟩
  have hb9 : Below w8.heap.size w8 w9 := HBA8.out.trans (hb9'.mono HBA8.out.size)
  obtain ⟨ua9, uc9, rfl⟩ := owns_slice o9
  obtain ⟨f1, f2, f3⟩ := usedL_facts [a, n, I, K]
  obtain ⟨U, hU⟩ : ∃ U, usedL [a, n, I, K] = U := ⟨_, rfl⟩
  have HR4 : Hid (∀ y x e, SayP s g (chP U I K n a) y → ((y.2 ≠ 0 ∧ x = en0 ∧ e = 4) ∨ (y.2 = 0 ∧ x = ⟨o, b, y.1, U, chP U I K n a⟩ ∧ e = 0)) → ChaR s l a n o b x e) := hid (fun y x e h1 h2 => HR3.out x e (by
    unfold ChaE
    rw [hU]
    exact ⟨g, y, by rw [← hU]; exact HG.out, h1, h2⟩))
  rw [hU] at o9 HG f1 f2 ⊢
  have HUZ : Hid (∀ x ∈ U, x.size ≤ 140737488355328) := hid (fun x hx => by
    have := (f2 x).1 hx
    simp at this
    rcases this with rfl | rfl | rfl | rfl
    · exact ha
    · exact hn
    · exact his
    · exact hks)
  have hul : U.length ≤ 4 := by simpa using f1
  have HTU := hid (show TxtsAt w9 (.slice ua9 U.length uc9) U from ⟨RowK.of_owns o9 (by omega), HUZ.out⟩)
  have HO9 := hid o9
  have HB9 := hid (HB8.out.trans (hb9.mono HB8.out.size))
  have hz8 : w8.heap.size < (w8.alloc (.cells #[.string a, .string n, .string I, .string K] 9)).heap.size := by simp
  have HZ8 := hid hz8
  have HZ9 := hid hb9'.size
  clear hb9 hb9' o9 f1 f2 f3 hU HUS HR3 hz8
  have hRW : w.heap.size < w9.heap.size := by have := HB9.out.size; have := HWZ.out; omega
  have CX := hid (C5.new w9 (.string o) (.string b) (.slice none 0 0) (.slice ua9 U.length uc9) (.slice none 0 0) 41)
  obtain ⟨WX, hWX⟩ : ∃ WX, w9.alloc (.cells #[.string o, .string b, .slice none 0 0, .slice ua9 U.length uc9, .slice none 0 0] 41) = WX := ⟨_, rfl⟩
  have hb9x : Below w9.heap.size w9 WX := hWX ▸ (Below.refl _ _).alloc (Nat.le_refl _) _
  have hzx : WX.heap.size = w9.heap.size + 1 := by rw [← hWX]; simp
  rw [hWX] at CX
  have HAT := hid (fun (X : World) (m : Nm) (hX : Below WX.heap.size WX X) => carry_Chain1 w9.heap.size _ U m X (CX.out.below hX).c3 ((HTU.out.below hb9x).below hX))
  have HWX := hid hWX
  have HBX := hid hb9x
  have HZX := hid hzx
  have B10 := hid (Below.refl WX.heap.size WX)
  clear hWX hb9x hzx
  go_wp2_with fail
  rw [HWX.out]
  refine (HAT.out WX I B10.out).mono ?_
  rintro e x10 ⟨rfl, hb⟩
  have B11 := hid (B10.out.trans (hb.mono B10.out.size))
  clear hb
  go_wp2_with fail
  refine (HAT.out x10 K B11.out).mono ?_
  rintro e x11 ⟨rfl, hb⟩
  have B12 := hid (B11.out.trans (hb.mono B11.out.size))
  clear hb
  go_wp2_with fail
  refine (HAT.out x11 n B12.out).mono ?_
  rintro e x12 ⟨rfl, hb⟩
  have B13 := hid (B12.out.trans (hb.mono B12.out.size))
  clear hb
  go_wp2_with fail
  refine (carry_detach 1 2 x12).mono ?_
  rintro e x13 ⟨rfl, hb⟩
  have B14 := hid (B13.out.trans (hb.mono B13.out.size))
  clear hb
  go_wp2_with fail
  refine (carry_detach 0 3 x13).mono ?_
  rintro e x14 ⟨rfl, hb⟩
  have B15 := hid (B14.out.trans (hb.mono B14.out.size))
  clear hb
  go_wp2_with fail
  refine (HAT.out x14 a B15.out).mono ?_
  rintro e x15 ⟨rfl, hb⟩
  have B16 := hid (B15.out.trans (hb.mono B15.out.size))
  clear hb
  go_wp2_with fail
  refine (carry_detach 4 5 x15).mono ?_
  rintro e x16 ⟨rfl, hb⟩
  have B17 := hid (B16.out.trans (hb.mono B16.out.size))
  clear hb
  have HST : StepsAt (x16.alloc (.cells #[.int .i64 1, .int .i64 (atI U I), .int .i64 0, .int .i64 1, .int .i64 (atI U K), .int .i64 0, .int .i64 1, .int .i64 (atI U n), .int .i64 0, .int .i64 2, .int .i64 1, .int .i64 2, .int .i64 2, .int .i64 0, .int .i64 3, .int .i64 1, .int .i64 (atI U a), .int .i64 0, .int .i64 2, .int .i64 4, .int .i64 5] 123)) (.slice (some ⟨x16.heap.size, 0, none⟩) 7 7) (chP U I K n a) := steps_lit (l := chP U I K n a) (by simp [chP]) rfl
  have HPR := hid (carry_proof _ (chP U I K n a) _ HST (by simp [chP]))
  have hba : Below x16.heap.size x16 (x16.alloc (.cells #[.int .i64 1, .int .i64 (atI U I), .int .i64 0, .int .i64 1, .int .i64 (atI U K), .int .i64 0, .int .i64 1, .int .i64 (atI U n), .int .i64 0, .int .i64 2, .int .i64 1, .int .i64 2, .int .i64 2, .int .i64 0, .int .i64 3, .int .i64 1, .int .i64 (atI U a), .int .i64 0, .int .i64 2, .int .i64 4, .int .i64 5] 123)) := (Below.refl _ _).alloc (Nat.le_refl _) _
  have HBA := hid hba
  clear HST hba
  go_wp2_with fail
  refine HPR.out.mono ?_
  rintro e x17 ⟨ps, rfl, o17, hb17'⟩
  have o17 : x17.ownsRow (x16.alloc (.cells #[.int .i64 1, .int .i64 (atI U I), .int .i64 0, .int .i64 1, .int .i64 (atI U K), .int .i64 0, .int .i64 1, .int .i64 (atI U n), .int .i64 0, .int .i64 2, .int .i64 1, .int .i64 2, .int .i64 2, .int .i64 0, .int .i64 3, .int .i64 1, .int .i64 (atI U a), .int .i64 0, .int .i64 2, .int .i64 4, .int .i64 5] 123)).heap.size 123 3 ps 7 (stC (chP U I K n a)) := o17
  obtain ⟨pa7, pc7, rfl⟩ := owns_slice o17
  have hb17 : Below x16.heap.size x16 x17 := HBA.out.trans (hb17'.mono HBA.out.size)
  have B18 := hid (B17.out.trans (hb17.mono B17.out.size))
  have HO17 := hid (owns_base (b' := WX.heap.size) o17 (by have := HBA.out.size; have := B17.out.size; omega))
  have CX17 := hid (CX.out.below B18.out)
  have CY := hid (CX17.out.set4 (.slice pa7 7 pc7))
  obtain ⟨Y, hY⟩ : ∃ Y, x17.setCell ⟨w9.heap.size, 4, none⟩ (.slice pa7 7 pc7) = Y := ⟨_, rfl⟩
  have hzy : Y.heap.size = x17.heap.size := by rw [← hY]; simp
  have HB9Y := hid (show Below w9.heap.size w9 Y from hY ▸ ((HBX.out.trans (B18.out.mono HBX.out.size)).setCell (p := ⟨w9.heap.size, 4, none⟩) (Nat.le_refl _) _))
  have HOY := hid (show Y.ownsRow WX.heap.size 123 3 (.slice pa7 7 pc7) 7 (stC (chP U I K n a)) from hY ▸ owns_setCell HO17.out (a := ⟨w9.heap.size, 4, none⟩) (by have := HZX.out; show w9.heap.size < WX.heap.size; omega) _)
  rw [hY] at CY
  have HYE := hid hY
  have HBWY := hid (HB9.out.trans (HB9Y.out.mono HB9.out.size))
  have HSY := hid (carry_says vs vl _ s l U Y (HSG.out Y HBWY.out) (HLL.out Y HBWY.out) (HTU.out.below HB9Y.out) hs1 hl1 (by omega))
  obtain ⟨d0, d1, d2, d3, d4, y0, y1', y2', y3, y4⟩ := CX17.out
  obtain ⟨g0, g1, g2, g3, g4, -, -, -, -, -⟩ := CY.out
  rw [← hY] at g0 g1 g2 g3 g4
  clear hb17 hb17' o17 hY hzy B10 B11 B12 B13 B14 B15 B16 B17 HAT
  go_wp2_with fail
  rw [HYE.out]
  refine HSY.out.mono ?_
  rintro e x18 ⟨u18, ts, er, hsr, rfl, hT18, hb18⟩
  obtain ⟨rfl, rfl⟩ : ts = g ∧ er = 0 := by
    rcases hsr with ⟨h, -, -⟩ | ⟨-, ⟨h, -, -⟩ | ⟨h, h2⟩⟩
    · rw [libB_iff.2 HLOK.out] at h; cases h
    · rw [HG.out] at h; cases h
    · rw [HG.out] at h; cases h; exact ⟨rfl, h2⟩
  have HB18 := hid hb18
  have HBW18 := hid (HBWY.out.trans (hb18.mono HBWY.out.size))
  have CY18 := hid (CY.out.below hb18)
  have HST18 : StepsAt x18 (.slice pa7 7 pc7) (chP U I K n a) := RowK.of_owns (owns_below HOY.out hb18) (by simp [chP])
  have HKS2 := hid (kernel_Says vs u18 _ s ts (chP U I K n a) x18 (HSG.out x18 HBW18.out) hT18 HST18 hs1)
  obtain ⟨ta18, tc18, rfl, -⟩ := hT18.open
  clear d0 d1 d2 d3 d4 y0 y1' y2' y3 y4 g0 g1 g2 g3 g4 hsr hb18 HSY HST18
  have e4 := CY18.out.c4
  go_wp2_with fail
  refine HKS2.out.mono ?_
  rintro e x19 ⟨y, uy, hsay, rfl, iy, hb19⟩
  obtain ⟨yt, ye⟩ := y
  dsimp only at iy
  obtain ⟨yya, yyc, rfl, -⟩ := iy.open
  have HIY := hid iy
  have HBW19 := hid (HBW18.out.trans (hb19.mono HBW18.out.size))
  have HBY19 := hid (HB18.out.trans (hb19.mono HB18.out.size))
  have CY19 := hid (CY18.out.below hb19)
  have CZ := hid (CY19.out.set2 (.slice yya yt.length yyc))
  obtain ⟨Z, hZ⟩ : ∃ Z, x19.setCell ⟨w9.heap.size, 2, none⟩ (.slice yya yt.length yyc) = Z := ⟨_, rfl⟩
  have HBWZ := hid (show Below W.heap.size W Z from hZ ▸ HBW19.out.setCell (p := ⟨w9.heap.size, 2, none⟩) (by show W.heap.size ≤ w9.heap.size; exact HB9.out.size) _)
  have HIZ := hid (show Ints Z (.slice yya yt.length yyc) yt from hZ ▸ ints_set (b := w9.heap.size) (k := 2) iy CY19.out.c2 (by simp))
  have HGZ := hid (fun (k : Nat) (hk : k ≠ w9.heap.size) => (show Z.heap[k]? = x19.heap[k]? from hZ ▸ Below.heap_setCell _ _ _ _ hk))
  rw [hZ] at CZ
  have HCZ := hid (HC.out Z HBWZ.out)
  have HZE := hid hZ
  have HSAYP := hid hsay
  obtain ⟨d0, d1, d2, d3, d4, k0, k1, k2, k3, k4⟩ := CY19.out
  clear e4 hsay iy hb19 hZ HKS2
  by_cases hy0 : ye = 0
  case neg =>
    have n0 : (ye != 0) = true := by simpa using hy0
    have HX : Hid (ChaR s l a n o b en0 4) := hid (HR4.out _ _ _ HSAYP.out (Or.inl ⟨hy0, rfl, rfl⟩))
    clear hy0
    obtain ⟨c0, c1, c2, c3, c4, z0, z1, z2, z3, z4⟩ := HCZ.out
    rw [← HZE.out] at c0 c1 c2 c3 c4 z0 z1 z2 z3 z4
    go_wp2
    (try simp only [Exit.inBlock, Exit.then])
    rw [HZE.out]
    clear c0 c1 c2 c3 c4 z0 z1 z2 z3 z4 d0 d1 d2 d3 d4 k0 k1 k2 k3 k4
    obtain ⟨c0, c1, c2, c3, c4, -, -, -, -, -⟩ := HCZ.out.store (.string ⟨#[]⟩) (.string ⟨#[]⟩) (.slice none 0 0) (.slice none 0 0) (.slice none 0 0)
    refine bodyPost_ret (v := .tuple #[.agg #[.string ⟨#[]⟩, .string ⟨#[]⟩, .slice none 0 0, .slice none 0 0, .slice none 0 0], .int .i64 4]) ?_ rfl (EntQ.zero HX.out (set5_below (HBW.out Z HBWZ.out) (Nat.le_refl _) _ _ _ _ _))
    unfold set5 at c0 c1 c2 c3 c4
    simp only [results, Tryz.results82]
    go_simp
  subst hy0
  have HX : Hid (ChaR s l a n o b ⟨o, b, yt, U, chP U I K n a⟩ 0) := hid (HR4.out _ _ _ HSAYP.out (Or.inr ⟨rfl, rfl, rfl⟩))
  obtain ⟨c0, c1, c2, c3, c4, z0, z1, z2, z3, z4⟩ := HCZ.out
  obtain ⟨g0, g1, g2, g3, g4, -, -, -, -, -⟩ := CZ.out
  rw [← HZE.out] at c0 c1 c2 c3 c4 z0 z1 z2 z3 z4 g0 g1 g2 g3 g4
  go_wp2
  (try simp only [Exit.inBlock, Exit.then])
  rw [HZE.out]
  clear c0 c1 c2 c3 c4 z0 z1 z2 z3 z4 d0 d1 d2 d3 d4 k0 k1 k2 k3 k4 g0 g1 g2 g3 g4
  have hz9 := HB9Y.out.size
  have hz19 := HBY19.out.size
  have hzx := HZX.out
  have hall : ∀ k, k ≠ w.heap.size → k ≠ w9.heap.size → k < Y.heap.size → (set5 Z w.heap.size (.string o) (.string b) (.slice yya yt.length yyc) (.slice ua9 U.length uc9) (.slice pa7 7 pc7)).heap[k]? = Y.heap[k]? := fun k h1 h2 h3 => by
    rw [heap_set5 _ _ _ _ _ _ _ h1, HGZ.out k h2, HBY19.out.block k h3]
  have r1 : Ints (set5 Z w.heap.size (.string o) (.string b) (.slice yya yt.length yyc) (.slice ua9 U.length uc9) (.slice pa7 7 pc7)) (.slice yya yt.length yyc) yt := ints_set5 HIZ.out HCZ.out (by simp) (by simp) (by simp) (by simp) (by simp) _ _ _ _ _
  have r2 : TxtsAt (set5 Z w.heap.size (.string o) (.string b) (.slice yya yt.length yyc) (.slice ua9 U.length uc9) (.slice pa7 7 pc7)) (.slice ua9 U.length uc9) U := ⟨RowK.of_owns (owns_blocks HO9.out fun q h1 h2 _ => by
    have h3 := HZ8.out
    have h4 := HB8.out.size
    have h5 := HWZ.out
    rw [hall q (by omega) (by omega) (by omega), HB9Y.out.block q h2]) (by omega), HUZ.out⟩
  have r3 : StepsAt (set5 Z w.heap.size (.string o) (.string b) (.slice yya yt.length yyc) (.slice ua9 U.length uc9) (.slice pa7 7 pc7)) (.slice pa7 7 pc7) (chP U I K n a) := RowK.of_owns (owns_blocks HOY.out fun q h1 h2 _ => hall q (by omega) (by omega) h2) (by simp [chP])
  obtain ⟨c0, c1, c2, c3, c4, -, -, -, -, -⟩ := HCZ.out.store (.string o) (.string b) (.slice yya yt.length yyc) (.slice ua9 U.length uc9) (.slice pa7 7 pc7)
  refine bodyPost_ret (v := .tuple #[.agg #[.string o, .string b, .slice yya yt.length yyc, .slice ua9 U.length uc9, .slice pa7 7 pc7], .int .i64 0]) ?_ rfl (EntQ.mk ⟨o, b, yt, U, chP U I K n a⟩ (.slice yya yt.length yyc) (.slice ua9 U.length uc9) (.slice pa7 7 pc7) 0 HX.out rfl ⟨r1, r2, r3, ho, hbn⟩ (set5_below (HBW.out Z HBWZ.out) (Nat.le_refl _) _ _ _ _ _))
  unfold set5 at c0 c1 c2 c3 c4
  clear r1 r2 r3 hall
  simp only [results, Tryz.results82]
  go_simp
end Go.Proofs.YtalodmochkodiaaGreat
