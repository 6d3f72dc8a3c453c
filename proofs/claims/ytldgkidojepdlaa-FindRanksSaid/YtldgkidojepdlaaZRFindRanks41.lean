/-
  WHAT IT HOLDS: contracts of Common and Join of the reference of layer 2. Conditions: the arguments read as data.
-/
import Derived.Test.YtldgkidojepdlaaZRFindRanks8
import Derived.Test.YtldgkidojepdlaaZRFindRanks40
import Derived.Test.YtldgkidojepdlaaZRFindRanks36
import Derived.Test.YtldgkidojepdlaaZRFindRanks5
namespace Go.Proofs.Ytldgkidojepdlaa
open Go Go.RowKit Go.Maps
def kzs (gL gR : List (List Int)) : List KK := (gL.zip gR).map fun p => (keyL p.1, keyL p.2)
theorem keyL_eq {s : Sg} (hs : s.length ≤ 100) {t u : List Int} (h : IsT s 12 t) (h' : IsT s 12 u) (he : keyL t = keyL u) : t = u :=
  keyB_inj (T_small' h hs) (T_small' h' hs) (by unfold keyB; rw [he])
theorem kzs_len {gL gR : List (List Int)} (h : gL.length = gR.length) : (kzs gL gR).length = gL.length := by
  unfold kzs; rw [List.length_map, List.length_zip]; omega
theorem kzs_get {gL gR : List (List Int)} (h : gL.length = gR.length) {k : Nat} (hk : k < gL.length) : (kzs gL gR)[k]? = some (keyL gL[k], keyL (gR[k]'(by omega))) := by
  unfold kzs
  have hk' : k < gR.length := by omega
  have hz : (gL.zip gR)[k]? = some (gL[k], gR[k]) := List.getElem?_zip_eq_some.2 ⟨by simp, by simp⟩
  rw [List.getElem?_map, hz]; rfl
theorem kzs_snoc {gL gR : List (List Int)} (h : gL.length = gR.length) (p q : List Int) : kzs (gL ++ [p]) (gR ++ [q]) = kzs gL gR ++ [(keyL p, keyL q)] := by
  unfold kzs
  rw [List.zip_append h]
  simp
/-- the plain part of what holds at a round's head. -/
structure CP (s : Sg) (a b : List Int) (i j : Nat) (gL gR : List (List Int)) (outs : List Int) (us vs : List (List Int)) : Prop where
  ul : us.length = vs.length
  ut : ∀ x ∈ us, IsT s 12 x
  vt : ∀ x ∈ vs, IsT s 12 x
  ad : a.drop i = us.flatten
  bd : b.drop j = vs.flatten
  ia : i ≤ a.length
  jb : j ≤ b.length
  gl : gL.length = gR.length
  tL : ∀ g ∈ gL, IsT s 12 g ∧ g.length ≤ 60
  tR : ∀ g ∈ gR, IsT s 12 g ∧ g.length ≤ 60
  gi : gL.length ≤ i
  oi : outs.length ≤ i
  com : outs ++ (comW s us.flatten vs.flatten (kzs gL gR)).1 = (comW s a b []).1
theorem CP.start {s : Sg} {a b : List Int} (ha : IsT s 12 a) (hb : IsT s 12 b) : CP s a b 0 0 [] [] [] [a] [b] :=
  ⟨rfl, by simpa using ha, by simpa using hb, by simp, by simp, by simp, by simp, rfl, by simp, by simp, by simp, by simp, by simp [kzs]⟩
theorem CP.done {s : Sg} {a b : List Int} {i j : Nat} {gL gR : List (List Int)} {outs : List Int} {vs : List (List Int)} (h : CP s a b i j gL gR outs [] vs) : outs = (comW s a b []).1 ∧ i = a.length := by
  have h1 := h.com
  rw [List.flatten_nil, comW_nil] at h1
  have h2 := congrArg List.length h.ad
  rw [List.length_drop] at h2
  have h3 := h.ia
  refine ⟨by simpa using h1, ?_⟩
  simp at h2
  omega
theorem CP.cut {s : Sg} {a b : List Int} {i j : Nat} {gL gR : List (List Int)} {outs : List Int} {p q : List Int} {us vs : List (List Int)} (h : CP s a b i j gL gR outs (p :: us) (q :: vs)) :
    IsT s 12 p ∧ IsT s 12 q ∧ a.drop i = p ++ us.flatten ∧ b.drop j = q ++ vs.flatten ∧ i + p.length + us.flatten.length = a.length ∧ j + q.length + vs.flatten.length = b.length ∧ 0 < p.length ∧ 0 < q.length := by
  have hp := h.ut p (by simp)
  have hq := h.vt q (by simp)
  have h1 := h.ad
  have h2 := h.bd
  rw [List.flatten_cons] at h1 h2
  have l1 := congrArg List.length h1
  have l2 := congrArg List.length h2
  rw [List.length_drop, List.length_append] at l1 l2
  have := h.ia
  have := h.jb
  have := hp.ne
  have := hq.ne
  exact ⟨hp, hq, h1, h2, by omega, by omega, by omega, by omega⟩
theorem CP.heads {s : Sg} {a b : List Int} {i j : Nat} {gL gR : List (List Int)} {outs : List Int} {p q : List Int} {us vs : List (List Int)} (h : CP s a b i j gL gR outs (p :: us) (q :: vs)) (hi : i < a.length) (hj : j < b.length) :
    p.head? = some a[i] ∧ q.head? = some b[j] := by
  obtain ⟨hp, hq, h1, h2, _⟩ := h.cut
  rw [List.drop_eq_getElem_cons hi] at h1
  rw [List.drop_eq_getElem_cons hj] at h2
  exact ⟨head_of_append hp.nonempty h1, head_of_append hq.nonempty h2⟩
theorem CP.same {s : Sg} {a b : List Int} {i j : Nat} {gL gR : List (List Int)} {outs : List Int} {p q : List Int} {us vs : List (List Int)} (h : CP s a b i j gL gR outs (p :: us) (q :: vs)) (hi : i < a.length) (hj : j < b.length) (he : a[i] = b[j]) (h0 : 0 ≤ a[i]) :
    ∃ us' vs', CP s a b (i + 1) (j + 1) gL gR (outs ++ [a[i]]) us' vs' := by
  obtain ⟨hp, hq, h1, h2, h3, h4, _⟩ := h.cut
  obtain ⟨e1, e2⟩ := h.heads hi hj
  have d1 := h1
  have d2 := h2
  rw [List.drop_eq_getElem_cons hi] at d1
  rw [List.drop_eq_getElem_cons hj] at d2
  generalize a[i] = x at *
  generalize b[j] = y at *
  subst he
  cases hp with
  | var n k1 k2 => simp at e1; omega
  | app c zs k1 k2 k3 =>
    cases hq with
    | var n m1 m2 => simp at e2; omega
    | app d ws m1 m2 m3 =>
      simp at e1 e2
      have hcd : c = d := by omega
      subst hcd
      subst e1
      have hl : zs.length = ws.length := by omega
      refine ⟨zs ++ us, ws ++ vs, ?_⟩
      have hc := h.com
      rw [List.flatten_cons, List.flatten_cons, List.cons_append, List.cons_append, comW_same ⟨rfl, by omega⟩] at hc
      simp only [List.cons_append, List.cons.injEq, true_and] at d1 d2
      have hul := h.ul
      simp only [List.length_cons] at hul
      refine ⟨by simp [hl]; omega, fun x hx => ?_, fun x hx => ?_, by rw [d1]; simp, by rw [d2]; simp, by omega, by omega, h.gl, h.tL, h.tR, by have := h.gi; omega, by have := h.oi; simp; omega, ?_⟩
      · rcases List.mem_append.1 hx with hx | hx
        · exact k3 x hx
        · exact h.ut x (by simp [hx])
      · rcases List.mem_append.1 hx with hx | hx
        · exact m3 x hx
        · exact h.vt x (by simp [hx])
      · rw [List.flatten_append, List.flatten_append, List.append_assoc]
        exact hc
theorem CP.next {s : Sg} {a b : List Int} {i j : Nat} {gL gR gL' gR' : List (List Int)} {outs : List Int} {p q : List Int} {us vs : List (List Int)} (h : CP s a b i j gL gR outs (p :: us) (q :: vs)) (hi : i < a.length) (hj : j < b.length) (hne : ¬ (a[i] = b[j] ∧ 0 ≤ a[i]))
    {k : Nat} (hk : numK (kzs gL gR) (keyL p, keyL q) = -(k : Int) - 1) (hi2 : insK (kzs gL gR) (keyL p, keyL q) = kzs gL' gR') (g1 : gL'.length = gR'.length) (g2 : ∀ g ∈ gL', IsT s 12 g ∧ g.length ≤ 60) (g3 : ∀ g ∈ gR', IsT s 12 g ∧ g.length ≤ 60) (g4 : gL'.length ≤ gL.length + 1) :
    CP s a b (i + p.length) (j + q.length) gL' gR' (outs ++ [-(k : Int) - 1]) us vs := by
  obtain ⟨hp, hq, h1, h2, h3, h4, h5, h6⟩ := h.cut
  obtain ⟨e1, e2⟩ := h.heads hi hj
  have hc := h.com
  rw [List.flatten_cons, List.flatten_cons, comW_diff hp hq e1 e2 hne, hk, hi2] at hc
  have hul := h.ul
  simp only [List.length_cons] at hul
  refine ⟨by omega, fun x hx => h.ut x (by simp [hx]), fun x hx => h.vt x (by simp [hx]), ?_, ?_, by omega, by omega, g1, g2, g3, by have := h.gi; omega, by have := h.oi; simp; omega, by rw [List.append_assoc]; exact hc⟩
  · rw [← List.drop_drop, h1, List.drop_left]
  · rw [← List.drop_drop, h2, List.drop_left]
theorem idxOf_first {α : Type} [BEq α] [LawfulBEq α] {x : α} : ∀ {l : List α} {k : Nat}, l[k]? = some x → (∀ k', k' < k → l[k']? ≠ some x) → l.idxOf x = k
  | [], k, h, _ => by simp at h
  | y :: l, 0, h, _ => by simp at h; subst h; simp
  | y :: l, k + 1, h, hn => by
    have h0 := hn 0 (by omega)
    simp at h0
    have h1 : (y == x) = false := by simpa using h0
    rw [List.idxOf_cons, h1]
    simp only [cond_false]
    rw [idxOf_first (l := l) (k := k) (by simpa using h) (fun k' hk' => by have := hn (k' + 1) (by omega); simpa using this)]
def noHit (gL gR : List (List Int)) (p q : List Int) (k : Nat) : Prop := ∀ k', k' < k → ¬ (gL[k']? = some p ∧ gR[k']? = some q)
theorem CP.nokey {s : Sg} (hsl : s.length ≤ 100) {a b : List Int} {i j : Nat} {gL gR : List (List Int)} {outs : List Int} {us vs : List (List Int)} (h : CP s a b i j gL gR outs us vs) {p q : List Int} (hp : IsT s 12 p) (hq : IsT s 12 q) {k : Nat} (hk : k < gL.length) (hn : ¬ (gL[k]? = some p ∧ gR[k]? = some q)) : (kzs gL gR)[k]? ≠ some (keyL p, keyL q) := by
  intro he
  have hk' : k < gR.length := by have := h.gl; omega
  rw [kzs_get h.gl hk] at he
  simp only [Option.some.injEq, Prod.mk.injEq] at he
  refine hn ⟨?_, ?_⟩
  · rw [List.getElem?_eq_getElem hk, keyL_eq hsl (h.tL _ (List.getElem_mem hk)).1 hp he.1]
  · rw [List.getElem?_eq_getElem hk', keyL_eq hsl (h.tR _ (List.getElem_mem hk')).1 hq he.2]
theorem CP.old {s : Sg} (hsl : s.length ≤ 100) {a b : List Int} {i j : Nat} {gL gR : List (List Int)} {outs : List Int} {p q : List Int} {us vs : List (List Int)} (h : CP s a b i j gL gR outs (p :: us) (q :: vs)) (hi : i < a.length) (hj : j < b.length) (hne : ¬ (a[i] = b[j] ∧ 0 ≤ a[i]))
    {k : Nat} (hk : k < gL.length) (hit : gL[k]? = some p ∧ gR[k]? = some q) (hno : noHit gL gR p q k) : CP s a b (i + p.length) (j + q.length) gL gR (outs ++ [-(k : Int) - 1]) us vs := by
  obtain ⟨hp, hq, _⟩ := h.cut
  have hk' : k < gR.length := by have := h.gl; omega
  have e1 : (kzs gL gR)[k]? = some (keyL p, keyL q) := by
    rw [kzs_get h.gl hk]
    have x1 := hit.1
    have x2 := hit.2
    rw [List.getElem?_eq_getElem hk] at x1
    rw [List.getElem?_eq_getElem hk'] at x2
    simp only [Option.some.injEq] at x1 x2
    rw [x1, x2]
  have e2 := idxOf_first e1 fun k' hk' => h.nokey hsl hp hq (by omega) (hno k' hk')
  refine h.next hi hj hne (k := k) (by unfold numK; rw [e2]) ?_ h.gl h.tL h.tR (by omega)
  unfold insK
  rw [if_pos (List.mem_of_getElem? e1)]
theorem CP.new {s : Sg} (hsl : s.length ≤ 100) {a b : List Int} {i j : Nat} {gL gR : List (List Int)} {outs : List Int} {p q : List Int} {us vs : List (List Int)} (h : CP s a b i j gL gR outs (p :: us) (q :: vs)) (hi : i < a.length) (hj : j < b.length) (hne : ¬ (a[i] = b[j] ∧ 0 ≤ a[i]))
    (hla : a.length ≤ 60) (hlb : b.length ≤ 60) (hno : noHit gL gR p q gL.length) : CP s a b (i + p.length) (j + q.length) (gL ++ [p]) (gR ++ [q]) (outs ++ [-(gL.length : Int) - 1]) us vs := by
  obtain ⟨hp, hq, _, _, h5, h6, _⟩ := h.cut
  have hm : (keyL p, keyL q) ∉ kzs gL gR := by
    intro hm
    obtain ⟨k, hk⟩ := List.getElem?_of_mem hm
    have hkl := (List.getElem?_eq_some_iff.1 hk).1
    rw [kzs_len h.gl] at hkl
    exact h.nokey hsl hp hq hkl (hno k hkl) hk
  refine h.next hi hj hne (k := gL.length) ?_ ?_ (by simp [h.gl]) ?_ ?_ (by simp)
  · unfold numK; rw [List.idxOf_eq_length hm, kzs_len h.gl]
  · unfold insK
    rw [if_neg hm, kzs_snoc h.gl]
  · intro g hg
    rcases List.mem_append.1 hg with hg | hg
    · exact h.tL g hg
    · simp at hg; subst hg; exact ⟨hp, by omega⟩
  · intro g hg
    rcases List.mem_append.1 hg with hg | hg
    · exact h.tR g hg
    · simp at hg; subst hg; exact ⟨hq, by omega⟩
def CM (wr : World) (base : Nat) (e E : TypeId) (u uL uR : Value) (gL gR : List (List Int)) (outs : List Int) : Prop :=
  ∃ vL vR ins, Sep wr base (rwT e u outs :: ⟨E, 1, uL, gL.length, vL⟩ :: ⟨E, 1, uR, gR.length, vR⟩ :: ins) ∧ InS e ins vL gL ∧ InS e ins vR gR
theorem CM.start (wr : World) (base : Nat) (e E : TypeId) : CM wr base e E (.slice none 0 0) (.slice none 0 0) (.slice none 0 0) [] [] [] :=
  ⟨[], [], [], (((Sep.nil wr base).consNil E 1).consNil E 1).consNil e 1, InS.nil _ _, InS.nil _ _⟩
theorem CM.below {wr w1 : World} {base : Nat} {e E : TypeId} {u uL uR : Value} {gL gR : List (List Int)} {outs : List Int} (h : CM wr base e E u uL uR gL gR outs) (hb : Below wr.heap.size wr w1) : CM w1 base e E u uL uR gL gR outs := by
  obtain ⟨vL, vR, ins, h1, h2⟩ := h
  exact ⟨vL, vR, ins, h1.below hb, h2⟩
theorem CM.own {wr : World} {base : Nat} {e E : TypeId} {u uL uR : Value} {gL gR : List (List Int)} {outs : List Int} (h : CM wr base e E u uL uR gL gR outs) : wr.ownsRow base e 1 u outs.length (outs.map (Value.int .i64)) := by
  obtain ⟨vL, vR, ins, h1, h2⟩ := h
  exact h1.1 (rwT e u outs) (by simp)
theorem CM.put {wr w4 : World} {base : Nat} {e E : TypeId} {u uL uR : Value} {gL gR : List (List Int)} {outs : List Int} (h : CM wr base e E u uL uR gL gR outs) {x : Int} {g cap : Nat} (hown : w4.ownsRow base e 1 (.slice (some ⟨g, 0, none⟩) (outs.length + 1) cap) (outs.length + 1) (outs.map (Value.int .i64) ++ [.int .i64 x]))
    (hg : wr.grownBy w4 u.ownBlock) {H : Nat} (hH : wr.heap.size = H) (hat : u.ownBlock = some g ∨ g = H) : CM w4 base e E (.slice (some ⟨g, 0, none⟩) (outs.length + 1) cap) uL uR gL gR (outs ++ [x]) := by
  obtain ⟨vL, vR, ins, h1, h2⟩ := h
  refine ⟨vL, vR, ins, ?_, h2⟩
  have := h1.app hg hown hH hat
  unfold rwT
  rw [List.map_append, List.length_append]
  exact this
theorem CM.terms {wr : World} {base : Nat} {e E : TypeId} {u uL uR : Value} {gL gR : List (List Int)} {outs : List Int} (h : CM wr base e E u uL uR gL gR outs) (hn : gL.length ≤ 100) (hl : gL.length = gR.length) (tL : ∀ g ∈ gL, g.length ≤ 60) (tR : ∀ g ∈ gR, g.length ≤ 60) : Terms wr uL gL ∧ Terms wr uR gR := by
  obtain ⟨vL, vR, ins, h1, h2, h3⟩ := h
  have hs : ∀ r ∈ ins, r ∈ (rwT e u outs :: ⟨E, 1, uL, gL.length, vL⟩ :: ⟨E, 1, uR, gR.length, vR⟩ :: ins) := fun r hr => by simp [hr]
  exact ⟨h1.terms (h2.mono hs) (h1.1 ⟨E, 1, uL, gL.length, vL⟩ (by simp)) (by omega) (fun g hg => by have := tL g hg; omega), h1.terms (h3.mono hs) (h1.1 ⟨E, 1, uR, gR.length, vR⟩ (by simp)) (by omega) (fun g hg => by have := tR g hg; omega)⟩
theorem CM.push {wr w1 w2 : World} {base : Nat} {e E : TypeId} {u uL uR vp vq : Value} {gL gR : List (List Int)} {outs p q : List Int} (h : CM wr base e E u uL uR gL gR outs) (hbase : base ≤ wr.heap.size)
    (hb1 : Below wr.heap.size wr w1) (hp : w1.ownsRow wr.heap.size e 1 vp p.length (p.map (Value.int .i64))) (hb2 : Below w1.heap.size w1 w2) (hq : w2.ownsRow w1.heap.size e 1 vq q.length (q.map (Value.int .i64))) :
    ∃ vL vR, ∀ {w3 : World}, Below w2.heap.size w2 w3 → w3.ownsRow base E 1 uL gL.length vL ∧ w3.ownsRow base E 1 uR gR.length vR ∧
      ∀ (w4 : World) (n gl cl H : Nat), n = gL.length → w4.ownsRow base E 1 (.slice (some ⟨gl, 0, none⟩) (n + 1) cl) (n + 1) (vL ++ [vp]) → w3.grownBy w4 uL.ownBlock → w3.heap.size = H → (uL.ownBlock = some gl ∨ gl = H) → ∀ w5, Below w4.heap.size w4 w5 →
        (w5.ownsRow base E 1 uR gR.length vR ∧ ∀ (w6 : World) (n' gr cr H' : Nat), n' = gR.length → (w6.ownsRow base E 1 (.slice (some ⟨gr, 0, none⟩) (n' + 1) cr) (n' + 1) (vR ++ [vq]) → w5.grownBy w6 uR.ownBlock → w5.heap.size = H' → (uR.ownBlock = some gr ∨ gr = H') →
        CM w6 base e E u (.slice (some ⟨gl, 0, none⟩) (n + 1) cl) (.slice (some ⟨gr, 0, none⟩) (n' + 1) cr) (gL ++ [p]) (gR ++ [q]) outs)) := by
  obtain ⟨vL, vR, ins, h1, h2, h3⟩ := h
  have s1 := h1.cons hb1 (Nat.le_refl _) hbase (r := rwT e vp p) hp
  have s2 := s1.cons hb2 (Nat.le_refl _) (Nat.le_trans hbase hb1.size) (r := rwT e vq q) hq
  refine ⟨vL, vR, fun {w3} hb3 => ?_⟩
  have s3 := s2.below hb3
  refine ⟨s3.1 ⟨E, 1, uL, gL.length, vL⟩ (by simp), s3.1 ⟨E, 1, uR, gR.length, vR⟩ (by simp), ?_⟩
  intro w4 n gl cl H hn o4 hg4 hH hat4 w5 hb5
  subst hn
  have s4 := s3.perm (List.perm_middle (l₁ := [rwT e vq q, rwT e vp p, rwT e u outs]) (a := Rw.mk E 1 uL gL.length vL) (l₂ := Rw.mk E 1 uR gR.length vR :: ins))
  have s5 := (s4.app hg4 o4 hH hat4).below hb5
  refine ⟨s5.1 ⟨E, 1, uR, gR.length, vR⟩ (by simp), ?_⟩
  intro w6 n' gr cr H' hn' o6 hg6 hH' hat6
  subst hn'
  have s6 := s5.perm (List.perm_middle (l₁ := [Rw.mk E 1 (.slice (some ⟨gl, 0, none⟩) (gL.length + 1) cl) (gL.length + 1) (vL ++ [vp]), rwT e vq q, rwT e vp p, rwT e u outs]) (a := Rw.mk E 1 uR gR.length vR) (l₂ := ins))
  have s7 := s6.app hg6 o6 hH' hat6
  have s8 := s7.perm (List.perm_middle (l₁ := [Rw.mk E 1 (.slice (some ⟨gr, 0, none⟩) (gR.length + 1) cr) (gR.length + 1) (vR ++ [vq]), Rw.mk E 1 (.slice (some ⟨gl, 0, none⟩) (gL.length + 1) cl) (gL.length + 1) (vL ++ [vp]), rwT e vq q, rwT e vp p]) (a := rwT e u outs) (l₂ := ins))
  have s9 := s8.perm ((List.Perm.swap _ _ _).cons _)
  refine ⟨vL ++ [vp], vR ++ [vq], rwT e vq q :: rwT e vp p :: ins, ?_, (h2.mono (by intro r hr; simp [hr])).push (by simp), (h3.mono (by intro r hr; simp [hr])).push (by simp)⟩
  rw [List.length_append, List.length_append]
  exact s9
set_option maxHeartbeats 4000000 in
set_option maxRecDepth 100000 in
theorem ref2_Common (vs va vb : Value) (s : Sg) (a b : List Int) (w : World) (hs : SignAt w vs s) (ra : Ints w va a) (rb : Ints w vb b) (ha : IsT s 12 a) (hb : IsT s 12 b) (hsl : s.length ≤ 12) (hs0 : 0 < s.length) (hla : a.length ≤ 60) (hlb : b.length ≤ 60) :
    Calls Try.prog 76 #[vs, va, vb] w fun e w' => ∃ u, e = .returned u ∧ w'.ownsRow w.heap.size 3 1 u (comW s a b []).1.length ((comW s a b []).1.map (Value.int .i64)) ∧ Below w.heap.size w w' := by
  obtain ⟨sa, sc, rfl, -⟩ := hs.open
  obtain ⟨aa, ac, rfl, ha1, ha2, -, AC⟩ := ra.open
  obtain ⟨ba, bc, rfl, hb1, hb2, -, BC⟩ := rb.open
  have HSA := hid (T_lt ha (by omega))
  have HSB := hid (T_lt hb (by omega))
  have START := hid (CP.start ha hb)
  have AC' := hid AC
  have BC' := hid BC
  have HS := hid hs
  have RA := hid ra
  have RB := hid rb
  obtain ⟨R, hR⟩ : ∃ R, (comW s a b []).1 = R := ⟨_, rfl⟩
  have HDONE := hid (fun (i j : Nat) gL gR outs vs (h : CP s a b i j gL gR outs [] vs) => (⟨h.done.1.trans hR, h.done.2⟩ : outs = R ∧ i = a.length))
  rw [hR]
  clear AC BC hs ra rb hR ha hb
  go_enter Try.func76, Try.ntmps76
  go_wp2
  go_loopw [7, 8, 9, 10, 11] (fun u uL uR iv jv wr => ∃ (i j : Nat) (gL gR : List (List Int)) (outs : List Int) (us vs : List (List Int)), iv = .int .i64 i ∧ jv = .int .i64 j ∧ CP s a b i j gL gR outs us vs ∧ CM wr w.heap.size 3 37 u uL uR gL gR outs ∧ Below w.heap.size w wr) (fun _ _ _ iv _ _ => a.length - (intOf iv).toNat)
  case atStart => exact ⟨0, 0, [], [], [], [a], [b], rfl, rfl, START.out, CM.start _ _ _ _, Below.refl _ _⟩
  case round =>
    obtain ⟨i, j, gL, gR, outs, us, vs', rfl, rfl, hcp, hcm, hbw⟩ := hrel
    have hbs := hbw.size
    cases us with
    | nil =>
      obtain ⟨e1, e2⟩ := HDONE.out _ _ _ _ _ _ hcp
      subst e1 e2
      have HO := hid hcm.own
      clear hcm hcp
      go_wp2
      go_ret
      exact ⟨_, rfl, HO.out, hbw⟩
    | cons p us =>
      cases vs' with
      | nil => have := hcp.ul; simp at this
      | cons q vs' =>
        obtain ⟨tp, tq, d1, d2, l1, l2, p0, q0⟩ := hcp.cut
        have hi : i < a.length := by omega
        have hj : j < b.length := by omega
        obtain ⟨ab, ao, rfl, hca⟩ := AC'.out i hi
        obtain ⟨bb, bo, rfl, hcb⟩ := BC'.out j hj
        have hca' := (hbw.cell (World.block_lt_of_cell? _ _ hca)).trans hca
        have hcb' := (hbw.cell (World.block_lt_of_cell? _ _ hcb)).trans hcb
        have ho := hcp.oi
        have hgi := hcp.gi
        have hgl := hcp.gl
        have hno0 : noHit gL gR p q 0 := fun k' hk' => by omega
        by_cases hsame : a[i] = b[j] ∧ 0 ≤ a[i]
        · obtain ⟨us', vs'', hcp'⟩ := hcp.same hi hj hsame.1 hsame.2
          have h0 := hsame.2
          have heq : (a[i] == b[j]) = true := by simpa using hsame.1
          have HCP := hid hcp'
          have HCM := hid hcm
          have HBW := hid hbw
          clear hcp hcp' hcm hsame d1 d2 tp tq hno0 hbw hca hcb
          go_wp2_with fail
          go_quiet (fail)
          have hbA := fun (n : Nat) => below_self_drewN wr n
          have HOA := hid (fun (n : Nat) (o : Obj) => (HCM.out.below (below_self_drewN wr n)).own.alloc o)
          go_wp2_with (at_builtin; refine wpList_append_lie rfl _ _ 37 rfl w.heap.size 3 el_int Try.underlying37 rfl (by decide) _ _ _ rfl (HOA.out _ _) _ 1 [.int .i64 a[i]] rfl (row_one_new _ _ _) (oneCell_one rfl) (by decide) (by omega) (by omega) (by simp; omega) _ rfl ?_; intro g cap w4 hown4 hgrow4 hat4 hlt4)
          have hcm4 := hid ((HCM.out.below ((below_self_drewN wr _).alloc (Nat.le_refl _) _)).put hown4 hgrow4 rfl hat4)
          have hb4 := hid (HBW.out.grown (grown_trans (grown_of_below ((below_self_drewN wr _).alloc (Nat.le_refl _) _)) hgrow4) hbs (fun q hq => (HCM.out.own.lt q hq).1))
          clear hown4 hgrow4 hat4 hbA
          go_wp2_with fail
          go_roundw
          case rel => exact ⟨i + 1, j + 1, gL, gR, outs ++ [a[i]], us', vs'', by go_num, by go_num, HCP.out, hcm4.out, hb4.out⟩
          case measure => simp [intOf]; omega
        · have HSAME := hid hsame
          have HCP := hid hcp
          have HCM := hid hcm
          have HBW := hid hbw
          have HTP := hid tp
          have HTQ := hid tq
          have HD1 := hid d1
          have HD2 := hid d2
          have hz1 : (a[i] == b[j] && decide (0 ≤ a[i])) = false := by
            rw [Bool.eq_false_iff]
            simpa using hsame
          have hT := hcm.terms (by omega) hgl (fun g hg => (hcp.tL g hg).2) (fun g hg => (hcp.tR g hg).2)
          obtain ⟨aL, cL, hLe, hL1, hL2, -, LC⟩ := hT.1.open
          obtain ⟨aR, cR, hRe, hR1, hR2, -, RC⟩ := hT.2.open
          subst hLe hRe
          rw [← hgl]
          have HLC := hid LC
          have HRC := hid RC
          have HGL := hid hgl
          clear hsame hcp hcm hbw tp tq d1 d2 hca hcb hT LC RC hgl hR1 hR2
          by_cases heq : a[i] = b[j]
          case' pos =>
            have h0 : a[i] < 0 := by
              by_cases h : 0 ≤ a[i]
              · exact absurd ⟨heq, h⟩ HSAME.out
              · omega
            have heq' : (a[i] == b[j]) = true := by simpa using heq
            have dge : decide (0 ≤ a[i]) = false := by simpa using h0
            clear heq hz1
            go_wp2_with fail
            go_quiet (fail)
            clear h0 dge
          case' neg =>
            have heq' : (a[i] == b[j]) = false := by simpa using heq
            clear heq hz1
            go_wp2_with fail
            go_quiet (fail)
          all_goals
            clear heq' hca' hcb'
            have hbA := HBW.out.trans ((below_self_drewN wr (0 + 1 + 1)).mono hbs)
            go_wp2_with fail
            refine (ref1_Part _ _ s 12 a p us.flatten i _ ((HS.out.below HBW.out).drewN _) ((RA.out.below HBW.out).drewN _) HTP.out HD1.out HSA.out (by omega) hi).mono ?_
            rintro e w1 ⟨vp, rfl, hownp, hb1⟩
            have hbw1 := HBW.out.trans (((below_self_drewN wr _).trans (hb1.mono (Nat.le_refl _))).mono hbs)
            go_wp2_with fail
            refine (ref1_Part _ _ s 12 b q vs'.flatten j _ (HS.out.below hbw1) (RB.out.below hbw1) HTQ.out HD2.out HSB.out (by omega) hj).mono ?_
            rintro e w2 ⟨vq, rfl, hownq, hb2⟩
            have rp := (Ints.of_owns hownp (by omega)).below hb2
            have rq := Ints.of_owns hownq (by omega)
            obtain ⟨pa, pc, rfl, -⟩ := rp.open
            obtain ⟨qa, qc, rfl, -⟩ := rq.open
            have hbr2 : Below wr.heap.size wr w2 := (below_self_drewN wr _).trans ((hb1.mono (Nat.le_refl _)).trans (hb2.mono hb1.size))
            have HOP := hid hownp
            have HOQ := hid hownq
            have RP := hid rp
            have RQ := hid rq
            have HB1 := hid hb1
            have HB2 := hid hb2
            have HBR := hid hbr2
            clear hownp hownq rp rq hb1 hb2 hbr2 hbw1 hbA
            go_wp2_with fail
            go_loopw [14] (fun kv wl => ∃ k m : Nat, k ≤ gL.length ∧ kv = .int .i64 k ∧ wl = w2.drewN m ∧ noHit gL gR p q k) (fun kv _ => gL.length - (intOf kv).toNat)
            case atStart => exact ⟨0, 0, by omega, rfl, rfl, hno0⟩
            case round =>
              obtain ⟨k, m, hk, rfl, rfl, hno⟩ := hrel
              have HNO := hid hno
              clear hno hno0
              have hb2m := HBR.out.trans ((below_self_drewN w2 m).mono HBR.out.size)
              by_cases hlt : k < gL.length
              · obtain ⟨lb, lo, lv, rfl, hlc, hli⟩ := HLC.out k hlt
                obtain ⟨rb', ro, rv, rfl, hrc, hri⟩ := HRC.out k (by have := HGL.out; omega)
                have hlc' := (hb2m.cell (World.block_lt_of_cell? _ _ hlc)).trans hlc
                have hrc' := (hb2m.cell (World.block_lt_of_cell? _ _ hrc)).trans hrc
                have hli' := hli.below hb2m
                have hri' := hri.below hb2m
                have hk2 : k < gR.length := by have := HGL.out; omega
                go_wp2_with fail
                refine (ref1_Same _ _ gL[k] p _ hli' (RP.out.drewN _)).mono ?_
                rintro e w3 ⟨rfl, n3, rfl⟩
                cases hz3 : decide (gL[k] = p) with
                | false =>
                  have HN := hid (show noHit gL gR p q (k + 1) from fun k' hk' => by
                    by_cases e : k' = k
                    · subst e
                      intro hh
                      rw [List.getElem?_eq_getElem hlt] at hh
                      simp only [Option.some.injEq] at hh
                      exact of_decide_eq_false hz3 hh.1
                    · exact HNO.out k' (by omega))
                  clear hz3
                  go_wp2_with fail
                  go_roundw
                  case rel => exact ⟨k + 1, _, by omega, by go_num, rfl, HN.out⟩
                  case measure => simp [intOf]; omega
                | true =>
                  have HZ3 := hid (of_decide_eq_true hz3)
                  clear hz3
                  have hrc3 : (w2.drewN (m + n3)).cell? ⟨rb', ro + k, none⟩ = some rv := hrc'
                  go_wp2_with fail
                  refine (ref1_Same _ _ gR[k] q _ (World.drewN_drewN w2 m n3 ▸ hri'.drewN n3) (RQ.out.drewN (m + n3))).mono ?_
                  rintro e w4 ⟨rfl, n4, rfl⟩
                  cases hz4 : decide (gR[k] = q) with
                  | false =>
                    have HN := hid (show noHit gL gR p q (k + 1) from fun k' hk' => by
                      by_cases e : k' = k
                      · subst e
                        intro hh
                        rw [List.getElem?_eq_getElem hk2] at hh
                        simp only [Option.some.injEq] at hh
                        exact of_decide_eq_false hz4 hh.2
                      · exact HNO.out k' (by omega))
                    clear hz4
                    go_wp2_with fail
                    go_roundw
                    case rel => exact ⟨k + 1, _, by omega, by go_num, rfl, HN.out⟩
                    case measure => simp [intOf]; omega
                  | true =>
                    have HCP' := hid (HCP.out.old (by omega) hi hj HSAME.out hlt ⟨by rw [List.getElem?_eq_getElem hlt, HZ3.out], by rw [List.getElem?_eq_getElem hk2, of_decide_eq_true hz4]⟩ HNO.out)
                    clear hz4
                    have hke : ((k : Int) == (gL.length : Int)) = false := by simp; omega
                    have hb5 : Below wr.heap.size wr ((w2.drewN (m + n3)).drewN n4) := below_drewN (HBR.out.trans ((below_self_drewN w2 (m + n3)).mono HBR.out.size)) n4
                    have HCM5 := hid (HCM.out.below hb5)
                    have HB5 := hid (HBW.out.trans (hb5.mono hbs))
                    clear hlc' hrc' hrc3 hlc hrc hb5
                    generalize (w2.drewN (m + n3)).drewN n4 = w5 at *
                    have HOA := hid (fun (o : Obj) => HCM5.out.own.alloc o)
                    go_wp2_with (at_builtin; refine wpList_append_lie rfl _ _ 37 rfl w.heap.size 3 el_int Try.underlying37 rfl (by decide) _ _ _ rfl (HOA.out _) _ 1 [.int .i64 (-(k : Int) - 1)] rfl (row_one_new _ _ _) (oneCell_one rfl) (by decide) (by omega) (by omega) (by simp; have := HB5.out.size; omega) _ rfl ?_; intro g cap w6 hown6 hgrow6 hat6 hlt6)
                    have hcm6 := hid ((HCM5.out.below ((Below.refl _ _).alloc (Nat.le_refl _) _)).put hown6 hgrow6 rfl hat6)
                    have hb6 := hid (HB5.out.grown (grown_trans (grown_of_below ((Below.refl _ _).alloc (Nat.le_refl _) _)) hgrow6) HB5.out.size (fun q hq => (HCM5.out.own.lt q hq).1))
                    clear hown6 hgrow6 hat6
                    go_wp2_with fail
                    go_roundw
                    case rel => exact ⟨i + p.length, j + q.length, gL, gR, outs ++ [-(k : Int) - 1], us, vs', by go_num, by go_num, HCP'.out, (by have h := hcm6.out; rw [← HGL.out] at h; exact h), hb6.out⟩
                    case measure => simp [intOf]; omega
              · obtain rfl : k = gL.length := by omega
                have HCP' := hid (HCP.out.new (by omega) hi hj HSAME.out hla hlb HNO.out)
                have hke : ((gL.length : Int) == (gL.length : Int)) = true := by simp
                have hb3 := below_self_drewN w2 m
                have HB5 := hid (HBW.out.trans (hb2m.mono hbs))
                obtain ⟨vL, vR, hpush⟩ := HCM.out.push hbs ((below_self_drewN wr _).trans (HB1.out.mono (Nat.le_refl _))) HOP.out HB2.out HOQ.out
                have O3L := hid (hpush hb3).1
                have HPUSH := hid (fun (o : Obj) => (hpush (hb3.alloc (Nat.le_refl _) o)).2.2)
                have hsz5 := HB5.out.size
                have HBR5 := hid hb2m
                have hown0 := fun q hq => (((hpush hb3).1).lt q hq).1
                have hown1 := fun q hq => (((hpush hb3).2.1).lt q hq).1
                simp only [← HGL.out] at hown1
                have HOW0 := hid hown0
                have HOW1 := hid hown1
                clear hpush hb2m hb3 hown0 hown1
                have HUO := hid (fun q hq => (HCM.out.own.lt q hq).1)
                generalize w2.drewN m = w5 at *
                go_wp2_with (first
                  | (at_builtin; refine wpList_append_lie rfl _ _ 24 rfl w.heap.size 37 el_term Try.underlying24 rfl (by decide) _ _ _ rfl (O3L.out.alloc _) _ 1 [.slice pa p.length pc] rfl (row_one_new _ _ _) (oneCell_one rfl) (by decide) (by omega) (by omega) (by simp; omega) _ rfl ?_; intro gl cl w6 hown6 hgrow6 hat6 hlt6; have hp7 := fun (o : Obj) => HPUSH.out _ w6 _ _ _ _ rfl hown6 hgrow6 rfl hat6 (w6.alloc o) ((Below.refl _ _).alloc (Nat.le_refl _) o); have HB6 := hid (HB5.out.grown (grown_trans (grown_of_below ((Below.refl _ _).alloc (Nat.le_refl _) _)) hgrow6) HB5.out.size HOW0.out); simp only [← HGL.out] at hp7; have HP7 := hid hp7; have hp7a := fun (o : Obj) => (hp7 o).1; have HP7a := hid hp7a; have hsz6 := HB6.out.size; clear hp7 hp7a hown6 hgrow6 hat6 O3L HPUSH)
                  | (at_builtin; refine wpList_append_lie rfl _ _ 24 rfl w.heap.size 37 el_term Try.underlying24 rfl (by decide) _ _ _ rfl (HP7a.out _) _ 1 [.slice qa q.length qc] rfl (row_one_new _ _ _) (oneCell_one rfl) (by decide) (by omega) (by omega) (by simp; omega) _ rfl ?_; intro gr cr w7 hown7 hgrow7 hat7 hlt7; have HCM7 := hid ((HP7.out _).2 w7 _ _ _ _ rfl hown7 hgrow7 rfl hat7); have HB7 := hid (HB6.out.grown (grown_trans (grown_of_below ((Below.refl _ _).alloc (Nat.le_refl _) _)) hgrow7) HB6.out.size HOW1.out); have hsz7 := HB7.out.size; have HOA := hid (fun (o : Obj) => HCM7.out.own.alloc o); clear hown7 hgrow7 hat7 HP7 HP7a)
                  | (at_builtin; refine wpList_append_lie rfl _ _ 37 rfl w.heap.size 3 el_int Try.underlying37 rfl (by decide) _ _ _ rfl (HOA.out _) _ 1 [.int .i64 (-(gL.length : Int) - 1)] rfl (row_one_new _ _ _) (oneCell_one rfl) (by decide) (by omega) (by omega) (by simp; omega) _ rfl ?_; intro g cap w8 hown8 hgrow8 hat8 hlt8))
                have hcm8 := hid ((HCM7.out.below ((Below.refl _ _).alloc (Nat.le_refl _) _)).put hown8 hgrow8 rfl hat8)
                have hb8 := hid (HB7.out.grown (grown_trans (grown_of_below ((Below.refl _ _).alloc (Nat.le_refl _) _)) hgrow8) HB7.out.size HUO.out)
                clear hown8 hgrow8 hat8
                go_wp2_with fail
                go_roundw
                case rel => exact ⟨i + p.length, j + q.length, gL ++ [p], gR ++ [q], outs ++ [-(gL.length : Int) - 1], us, vs', by go_num, by go_num, HCP'.out, hcm8.out, hb8.out⟩
                case measure => simp [intOf]; omega
theorem vars_len_le (t : List Int) : (varsF [] t).length ≤ t.length := by
  have key : ∀ (t vs : List Int), (varsF vs t).length ≤ vs.length + t.length := by
    intro t
    induction t with
    | nil => intro vs; simp [varsF]
    | cons x t ih =>
      intro vs
      simp only [varsF, List.length_cons]
      split
      · have := ih (vs ++ [x]); simp at this; omega
      · have := ih vs; omega
  simpa using key t []
end Go.Proofs.Ytldgkidojepdlaa
