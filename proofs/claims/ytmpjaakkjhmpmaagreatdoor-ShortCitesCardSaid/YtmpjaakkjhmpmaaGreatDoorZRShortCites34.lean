/-
  WHAT IT HOLDS: the contract of Moved of the reference of layer 8. Conditions: the arguments read as data; small signs, small libraries.
  WHAT IT HOLDS: the contract of copied of package carry. Conditions: the argument reads as data; it is small.
  WHAT IT HOLDS: the contract of copied of the reference of layer 8. Conditions: the argument reads as data; it is small.
  WHAT IT HOLDS: how a library of the call's own memory lies while it grows; contracts of each of package carry. Conditions: the arguments read as data; small signs, small libraries; the function value that is handed in does what f says to an entry of the call's own.
  WHAT IT HOLDS: a growing row of terms, each in memory of its own; contracts of Args and Alike of the reference of layer 1. Conditions: the arguments read as data.
  WHAT IT HOLDS: the contract of Added of package carry. Conditions: the arguments read as data; small signs, small libraries.
  WHAT IT HOLDS: the plain law of TopShelves: what a proof says is a shelf; where it cites it has what is alike the given; its base has for each statement one that is more general. No program in sight.
  WHAT IT HOLDS: the plain law of statements that go along: one answer alone; what goes along is proved by the moved entry. No program in sight.
  WHAT IT HOLDS: plain words on editions: ascending libraries, changes, what a change makes of an edition, and that it is undone. No program in sight.
  WHAT IT HOLDS: how changes lie: a change, lists of changes, and parts of them. No program's walk in sight.
  WHAT IT HOLDS: how an edition lies whose entries are copies of the call's own: written, put out, set. No program's walk in sight.
  WHAT IT HOLDS: the contracts of copied of package blame and of its reference. Conditions: the argument reads as data; it is small.
  WHAT IT HOLDS: contracts of copies, find and used of package blame. Conditions: the arguments read as data; small libraries.
-/
import Derived.Test.YtmpjaakkjhmpmaaGreatDoorZRShortCites30
import Derived.Test.YtmpjaakkjhmpmaaGreatDoorZRShortCites31
import Derived.Test.YtmpjaakkjhmpmaaGreatDoorZRShortCites21
import Derived.Test.YtmpjaakkjhmpmaaGreatDoorZRShortCites13
import Derived.Test.YtmpjaakkjhmpmaaGreatDoorZRShortCites29
import Derived.Test.YtmpjaakkjhmpmaaGreatDoorZRShortCites26
import Derived.Test.YtmpjaakkjhmpmaaGreatDoorZRShortCites24
import Derived.Test.YtmpjaakkjhmpmaaGreatDoorZRShortCites33
import Derived.Test.YtmpjaakkjhmpmaaGreatDoorZRShortCites16
import Derived.Test.YtmpjaakkjhmpmaaGreatDoorZRShortCites19
namespace Go.Proofs.YtmpjaakkjhmpmaaGreatDoor
open Go Go.RowKit Go.Maps
end Go.Proofs.YtmpjaakkjhmpmaaGreatDoor
namespace Go.Proofs.YtmpjaakkjhmpmaaGreatDoor
open Go Go.RowKit Go.Maps
/-- an entry of the call's own memory: its slices lie in blocks from 'base' on. -/
structure EntO (w : World) (base : Nat) (vS vU vP : Value) (x : En) : Prop where
  s : w.ownsRow base 3 1 vS x.says.length (x.says.map (Value.int .i64))
  u : w.ownsRow base 9 1 vU x.uses.length (x.uses.map Value.string)
  p : w.ownsRow base 57 3 vP x.proof.length (stC x.proof)
  ls : x.says.length ≤ 1000
  lu : x.uses.length ≤ 1000
  lp : x.proof.length ≤ 1000
  nu : ∀ n ∈ x.uses, n.size ≤ 140737488355328
  n1 : x.name.size ≤ 140737488355328
  n2 : x.who.size ≤ 140737488355328
theorem EntO.ent {w : World} {base : Nat} {vS vU vP : Value} {x : En} (h : EntO w base vS vU vP x) : EntAt w vS vU vP x :=
  ⟨Ints.of_owns h.s (by have := h.ls; omega), ⟨RowK.of_owns h.u (by have := h.lu; omega), h.nu⟩, RowK.of_owns h.p (by have := h.lp; omega), h.n1, h.n2⟩
theorem EntO.blocks {w W' : World} {base base' : Nat} {vS vU vP : Value} {x : En} (h : EntO w base vS vU vP x) (hb : base' ≤ base) (hs : ∀ q, base ≤ q → q < w.heap.size → W'.heap[q]? = w.heap[q]?) : EntO W' base' vS vU vP x :=
  ⟨owns_base (owns_blocks h.s fun q h1 h2 _ => hs q h1 h2) hb, owns_base (owns_blocks h.u fun q h1 h2 _ => hs q h1 h2) hb, owns_base (owns_blocks h.p fun q h1 h2 _ => hs q h1 h2) hb, h.ls, h.lu, h.lp, h.nu, h.n1, h.n2⟩
end Go.Proofs.YtmpjaakkjhmpmaaGreatDoor
namespace Go.Proofs.YtmpjaakkjhmpmaaGreatDoor
open Go Go.RowKit Go.Maps
end Go.Proofs.YtmpjaakkjhmpmaaGreatDoor
namespace Go.Proofs.YtmpjaakkjhmpmaaGreatDoor
open Go Go.RowKit Go.Maps
end Go.Proofs.YtmpjaakkjhmpmaaGreatDoor
namespace Go.Proofs.YtmpjaakkjhmpmaaGreatDoor
open Go Go.RowKit Go.Maps
/-- a growing row of terms: behind any change of its own block alone the terms still lie. -/
structure TeS (w : World) (base : Nat) (u : Value) (vs : List Value) (l : List (List Int)) : Prop where
  top : w.ownsRow base 34 1 u l.length vs
  len : vs.length = l.length
  rd : ∀ W' : World, (∀ q, q < w.heap.size → some q ≠ u.ownBlock → W'.heap[q]? = w.heap[q]?) → ∀ (j : Nat) (h : j < l.length) (h' : j < vs.length), Ints W' vs[j] l[j]
theorem TeS.nil (w : World) (base : Nat) : TeS w base (.slice none 0 0) [] [] := ⟨World.ownsRow_nil _ _ _ _, rfl, fun _ _ j h => by simp at h⟩
theorem TeS.below {w w' : World} {base : Nat} {u : Value} {vs : List Value} {l : List (List Int)} (h : TeS w base u vs l) (hb : Below w.heap.size w w') : TeS w' base u vs l :=
  ⟨owns_below h.top hb, h.len, fun W' hW => h.rd W' fun q hq hne => (hW q (Nat.lt_of_lt_of_le hq hb.size) hne).trans (hb.block q hq)⟩
theorem TeS.base {w : World} {base base' : Nat} {u : Value} {vs : List Value} {l : List (List Int)} (h : TeS w base u vs l) (hb : base' ≤ base) : TeS w base' u vs l := ⟨owns_base h.top hb, h.len, h.rd⟩
theorem TeS.terms {w : World} {base : Nat} {u : Value} {vs : List Value} {l : List (List Int)} (h : TeS w base u vs l) (hl : l.length ≤ 100000) : Terms w u l :=
  ⟨vs, by unfold Vals; rw [h.len]; exact RowK.of_owns h.top (by omega), h.len, fun i v t h1 h2 => by
    obtain ⟨k1, e1⟩ := List.getElem?_eq_some_iff.1 h1
    obtain ⟨k2, e2⟩ := List.getElem?_eq_some_iff.1 h2
    subst e1 e2
    exact h.rd w (fun _ _ _ => rfl) i k2 k1⟩
theorem TeS.push {w w1 w2 : World} {base : Nat} {u : Value} {vs : List Value} {l : List (List Int)} (h : TeS w base u vs l) (hb : Below w.heap.size w w1) {x : List Int} {v : Value}
    (hx : ∀ W' : World, (∀ q, q < w1.heap.size → some q ≠ u.ownBlock → W'.heap[q]? = w1.heap[q]?) → Ints W' v x)
    {g cap n : Nat} (hn : n = l.length) (hown : w2.ownsRow base 34 1 (.slice (some ⟨g, 0, none⟩) (n + 1) cap) (n + 1) (vs ++ [v])) (hg : w1.grownBy w2 u.ownBlock) {H : Nat} (hH : H = w1.heap.size) (hat : u.ownBlock = some g ∨ g = H) :
    TeS w2 base (.slice (some ⟨g, 0, none⟩) (n + 1) cap) (vs ++ [v]) (l ++ [x]) := by
  subst hn
  have hb1 := h.below hb
  have key : ∀ W' : World, (∀ q, q < w2.heap.size → some q ≠ (Value.slice (some ⟨g, 0, none⟩) (l.length + 1) cap).ownBlock → W'.heap[q]? = w2.heap[q]?) → ∀ q, q < w1.heap.size → some q ≠ u.ownBlock → W'.heap[q]? = w1.heap[q]? := by
    intro W' hW q hq hne
    rw [hW q (Nat.lt_of_lt_of_le hq hg.size) ?_, hg.block q hq hne]
    intro e
    have e : q = g := Option.some.inj e
    rcases hat with ha | ha
    · exact hne (by rw [ha, e])
    · omega
  refine ⟨by simpa using hown, by simp [h.len], fun W' hW j hj hj' => ?_⟩
  have k1 := key W' hW
  by_cases hlt : j < l.length
  · have hv : j < vs.length := by rw [h.len]; exact hlt
    rw [List.getElem_append_left hlt, List.getElem_append_left hv]
    exact hb1.rd W' k1 j hlt hv
  · have e : j = l.length := by simp at hj; omega
    subst e
    have e1 : (l ++ [x])[l.length] = x := by simp
    have e2 : (vs ++ [v])[l.length] = v := by rw [List.getElem_append_right (by rw [h.len]; exact Nat.le_refl _)]; simp [h.len]
    rw [e1, e2]
    exact hx W' k1
theorem TeS.slice {w : World} {base : Nat} {u : Value} {vs : List Value} {l : List (List Int)} (h : TeS w base u vs l) : ∃ a c, u = .slice a l.length c := owns_slice h.top
/-- numbers of one's own, behind a change elsewhere. -/
theorem ints_own {w W' : World} {base : Nat} {v : Value} {l : List Int} (h : w.ownsRow base 3 1 v l.length (l.map (Value.int .i64))) (hl : l.length ≤ 1000) (hs : ∀ q, base ≤ q → q < w.heap.size → W'.heap[q]? = w.heap[q]?) : Ints W' v l :=
  Ints.of_owns (owns_blocks h fun q h1 h2 _ => hs q h1 h2) (by omega)
end Go.Proofs.YtmpjaakkjhmpmaaGreatDoor
namespace Go.Proofs.YtmpjaakkjhmpmaaGreatDoor
open Go Go.RowKit Go.Maps
theorem EB.block {w w' : World} {b : Nat} {x : En} {vS vU vP : Value} (h : EB w b x vS vU vP) (hb : w'.heap[b]? = w.heap[b]?) : EB w' b x vS vU vP :=
  ⟨(World.cell?_of_block hb).trans h.c0, (World.cell?_of_block hb).trans h.c1, (World.cell?_of_block hb).trans h.c2, (World.cell?_of_block hb).trans h.c3, (World.cell?_of_block hb).trans h.c4⟩
end Go.Proofs.YtmpjaakkjhmpmaaGreatDoor
namespace Go.Proofs.YtmpjaakkjhmpmaaGreatDoor
open Go Go.RowKit Go.Maps
theorem canon_termK {s : Sg} {t : List Int} (h : termB s t = true) : termB s (canonL t) = true := by
  have f := termB_facts h
  exact T_termB f.1 (canonL_T (termB_T h) (vars_le_m (termB_T h))) (by rw [canonL_len]; exact f.2.2.2)
theorem say_term {s : Sg} {g l : List (List Int)} {k : Int} {st : St} {t : List Int} (ha : givensB s g = true) (hr : rightB g.length k st = true) (h : sayR s g l st (t, 0)) : termB s t = true := by
  unfold sayR at h
  by_cases h1 : st.1 = 1
  · rw [if_pos h1] at h
    simp only [Prod.mk.injEq, and_true] at h
    subst h
    refine canon_termK ?_
    unfold rightB at hr
    rw [if_pos h1] at hr
    simp only [Bool.and_eq_true] at hr
    have h2 := inB_true.1 hr.1
    have hi : st.2.1.toNat < g.length := by omega
    rw [List.getD_eq_getElem?_getD, List.getElem?_eq_getElem hi]
    unfold givensB at ha
    simp only [Bool.and_eq_true] at ha
    have h3 := ha.2
    unfold allB at h3
    rw [List.all_eq_true] at h3
    exact h3 _ (List.getElem_mem hi)
  · rw [if_neg h1] at h
    rcases h with ⟨-, h⟩ | ⟨hv, -, ⟨-, h⟩ | ⟨A, B, -, -, tB, ⟨-, h⟩ | ⟨m, hm, ⟨hb, h⟩ | ⟨-, h⟩⟩⟩⟩
    · simp at h
    · simp at h
    · simp at h
    · simp only [Prod.mk.injEq, and_true] at h
      subst h
      exact made_term (termB_facts hv).1 (fw_T hm.1 (tB.mono (by omega))) hb
    · simp at h
theorem run_terms {s : Sg} {g : List (List Int)} {p : List St} {l : List (List Int)} {e : Int} (ha : askedB s g p = true) (hr : RunR s g p l e) : ∀ t ∈ l, termB s t = true := by
  intro t ht
  obtain ⟨i, hi, rfl⟩ := List.getElem_of_mem ht
  obtain ⟨st, h1, h2⟩ := hr.1 i _ (List.getElem?_eq_getElem hi)
  obtain ⟨hp, rfl⟩ := List.getElem?_eq_some_iff.1 h1
  exact say_term (asked_parts ha).1 (proofB_at (asked_parts ha).2 hp) h2
end Go.Proofs.YtmpjaakkjhmpmaaGreatDoor
namespace Go.Proofs.YtmpjaakkjhmpmaaGreatDoor
open Go Go.RowKit Go.Maps
theorem AloR.unique {s : Sg} {l : List En} {a n : Nm} {x y : List Int × Int} (h : AloR s l a n x) (k : AloR s l a n y) : x = y := by
  rcases h with ⟨h1, rfl⟩ | ⟨h1, -, p, q, hp, hq, hx⟩
  · rcases k with ⟨-, rfl⟩ | ⟨k1, -⟩
    · rfl
    · exact absurd k1 h1
  · rcases k with ⟨k1, -⟩ | ⟨-, -, p', q', hp', hq', hy⟩
    · exact absurd h1 k1
    · rw [hp] at hp'; rw [hq] at hq'; cases hp'; cases hq'
      exact hx.unique hy
theorem TheR.unique {s : Sg} {l : List En} {a b n : Nm} {x y : List Int × Int} (h : TheR s l a b n x) (k : TheR s l a b n y) : x = y := by
  rcases h with ⟨h1, rfl⟩ | ⟨h1, -, p, q, r, z, hp, hq, hr, hz, hx⟩
  · rcases k with ⟨-, rfl⟩ | ⟨k1, -⟩
    · rfl
    · exact absurd k1 h1
  · rcases k with ⟨k1, -⟩ | ⟨-, -, p', q', r', z', hp', hq', hr', hz', hy⟩
    · exact absurd h1 k1
    · rw [hp] at hp'; rw [hq] at hq'; rw [hr] at hr'; cases hp'; cases hq'; cases hr'
      have e := hz.unique hz'
      subst e
      rcases hx with ⟨h2, rfl⟩ | ⟨h2, hx⟩
      · rcases hy with ⟨-, rfl⟩ | ⟨k2, -⟩
        · rfl
        · exact absurd k2 h2
      · rcases hy with ⟨k2, -⟩ | ⟨-, hy⟩
        · exact absurd h2 k2
        · exact hx.unique hy
theorem MovR.unique {s : Sg} {l : List En} {a n o b : Nm} {x y : En} {e f : Int} (h : MovR s l a n o b x e) (k : MovR s l a n o b y f) : x = y ∧ e = f := by
  rcases h with ⟨h1, rfl, rfl⟩ | ⟨h1, p, q, z, hp, hq, hz, hx⟩
  · rcases k with ⟨-, rfl, rfl⟩ | ⟨k1, -⟩
    · exact ⟨rfl, rfl⟩
    · exact absurd k1 h1
  · rcases k with ⟨k1, -⟩ | ⟨-, p', q', z', hp', hq', hz', hy⟩
    · exact absurd h1 k1
    · rw [hp] at hp'; rw [hq] at hq'; cases hp'; cases hq'
      have e := hz.unique hz'
      subst e
      rcases hx with ⟨h2, rfl, rfl⟩ | ⟨h2, rfl, rfl⟩
      · rcases hy with ⟨-, rfl, rfl⟩ | ⟨k2, -⟩
        · exact ⟨rfl, rfl⟩
        · exact absurd k2 h2
      · rcases hy with ⟨k2, -⟩ | ⟨-, rfl, rfl⟩
        · exact absurd h2 k2
        · exact ⟨rfl, rfl⟩
theorem SayP.unique {s : Sg} {g : List (List Int)} {p : List St} {x y : List Int × Int} (h : SayP s g p x) (k : SayP s g p y) : x = y := by
  rcases h with ⟨h1, rfl⟩ | ⟨h1, l, hr, hx⟩
  · rcases k with ⟨-, rfl⟩ | ⟨k1, -⟩
    · rfl
    · rw [h1] at k1; cases k1
  · rcases k with ⟨k1, -⟩ | ⟨-, l', hr', hy⟩
    · rw [h1] at k1; cases k1
    · obtain ⟨rfl, he⟩ := hr.unique hr'
      rcases hx with ⟨h2, h3⟩ | ⟨h2, h3⟩
      · rcases hy with ⟨-, k3⟩ | ⟨k2, -⟩
        · rw [h3] at k3; exact Prod.ext (Option.some.inj k3) he
        · exact absurd (he ▸ h2) k2
      · rcases hy with ⟨k2, -⟩ | ⟨-, k3⟩
        · exact absurd (he ▸ k2) h2
        · exact Prod.ext (h3.trans k3.symm) he
theorem StrP.unique {s : Sg} {l : List En} {e : En} {x y : List Int × Bool} (h : StrP s l e x) (k : StrP s l e y) : x = y := by
  rcases h with ⟨h1, rfl⟩ | ⟨h1, h⟩
  · rcases k with ⟨-, rfl⟩ | ⟨k1, -⟩
    · rfl
    · exact absurd h1 k1
  · rcases k with ⟨k1, -⟩ | ⟨-, k⟩
    · exact absurd k1 h1
    · rcases h with ⟨h2, rfl⟩ | ⟨g, z, h2, h3, rfl⟩
      · rcases k with ⟨-, rfl⟩ | ⟨g', z', k2, -, rfl⟩
        · rfl
        · rw [h2] at k2; cases k2
      · rcases k with ⟨k2, -⟩ | ⟨g', z', k2, k3, rfl⟩
        · rw [h2] at k2; cases k2
        · rw [h2] at k2; cases k2
          rw [h3.unique k3]
theorem det_term {s : Sg} {m n t : List Int} (h : DetR s m n (t, 0)) : termB s t = true ∧ canonL t = t := by
  rcases h with ⟨-, h⟩ | ⟨hv, -, ⟨-, h⟩ | ⟨A, B, -, -, tB, ⟨-, h⟩ | ⟨m, hm, ⟨hb, h⟩ | ⟨-, h⟩⟩⟩⟩
  · simp at h
  · simp at h
  · simp at h
  · simp only [Prod.mk.injEq, and_true] at h
    subst h
    exact ⟨made_term (termB_facts hv).1 (fw_T hm.1 (tB.mono (by omega))) hb, canonL_canon _⟩
  · simp at h
theorem HoldR.unique {s : Sg} {l : List En} {n : Nm} {z z' : Bool} {e e' : Int} (h : HoldR s l n z e) (k : HoldR s l n z' e') : z = z' ∧ e = e' := by
  rcases h with ⟨h1, rfl, rfl⟩ | ⟨h1, h⟩
  · rcases k with ⟨-, rfl, rfl⟩ | ⟨k1, -⟩
    · exact ⟨rfl, rfl⟩
    · rw [h1] at k1; cases k1
  · rcases k with ⟨k1, -⟩ | ⟨-, k⟩
    · rw [h1] at k1; cases k1
    · rcases h with ⟨h2, rfl, rfl⟩ | ⟨i, hi, h2, ⟨x, hx, rfl⟩, rfl⟩
      · rcases k with ⟨-, rfl, rfl⟩ | ⟨j, hj, k2, -⟩
        · exact ⟨rfl, rfl⟩
        · rw [h2] at k2; cases k2
      · rcases k with ⟨k2, -⟩ | ⟨j, hj, k2, ⟨y, hy, rfl⟩, rfl⟩
        · rw [h2] at k2; cases k2
        · rw [h2] at k2; cases k2
          rw [hx.unique hy]; exact ⟨rfl, rfl⟩
theorem StgR.unique {s : Sg} {l : List En} {n : Nm} {t t' : List Int} {e e' : Int} (h : StgR s l n t e) (k : StgR s l n t' e') : t = t' ∧ e = e' := by
  rcases h with ⟨h1, rfl, rfl⟩ | ⟨h1, h⟩
  · rcases k with ⟨-, rfl, rfl⟩ | ⟨k1, -⟩
    · exact ⟨rfl, rfl⟩
    · rw [h1] at k1; cases k1
  · rcases k with ⟨k1, -⟩ | ⟨-, k⟩
    · rw [h1] at k1; cases k1
    · rcases h with ⟨h2, rfl, rfl⟩ | ⟨i, hi, h2, x, hx, h3⟩
      · rcases k with ⟨-, rfl, rfl⟩ | ⟨j, hj, k2, -⟩
        · exact ⟨rfl, rfl⟩
        · rw [h2] at k2; cases k2
      · rcases k with ⟨k2, -⟩ | ⟨j, hj, k2, y, hy, k3⟩
        · rw [h2] at k2; cases k2
        · rw [h2] at k2; cases k2
          have e := hx.unique hy
          subst e
          rcases h3 with ⟨a1, rfl, rfl⟩ | ⟨a1, rfl, rfl⟩
          · rcases k3 with ⟨b1, rfl, rfl⟩ | ⟨b1, rfl, rfl⟩
            · exact ⟨rfl, rfl⟩
            · rw [a1] at b1; cases b1
          · rcases k3 with ⟨b1, rfl, rfl⟩ | ⟨b1, rfl, rfl⟩
            · rw [a1] at b1; cases b1
            · exact ⟨rfl, rfl⟩
end Go.Proofs.YtmpjaakkjhmpmaaGreatDoor
namespace Go.Proofs.YtmpjaakkjhmpmaaGreatDoor
open Go Go.RowKit
abbrev em : Nm := ⟨#[]⟩
/-- a library in ascending order of names. -/
def AscE (l : List En) : Prop := l.Pairwise fun a b => ltN a.name b.name
instance (l : List En) : Decidable (AscE l) := inferInstanceAs (Decidable (l.Pairwise fun a b => ltN a.name b.name))
theorem AscE.unique {l m : List En} (h : AscE l) (k : AscE m) (e : ∀ x, x ∈ l ↔ x ∈ m) : l = m :=
  asc_unique (R := fun a b : En => ltN a.name b.name) (fun a => ltN.irr a.name) (fun h k => ltN.trans h k) h k e
theorem AscE.nd {l : List En} (h : AscE l) : (l.map En.name).Nodup := by
  rw [List.Nodup, List.pairwise_map]
  exact h.imp fun h e => by rw [e] at h; exact ltN.irr _ h
theorem AscE.inj {l : List En} (h : AscE l) {x y : En} (hx : x ∈ l) (hy : y ∈ l) (e : x.name = y.name) : x = y := by
  obtain ⟨i, hi, rfl⟩ := List.getElem_of_mem hx
  obtain ⟨j, hj, rfl⟩ := List.getElem_of_mem hy
  have h1 := idxN_nd h.nd hi
  have h2 := idxN_nd h.nd hj
  rw [e, h2] at h1
  cases h1
  rfl
/-- a change: its kind, by whom it is, the names, the entry. -/
structure Chg where
  kind : Int
  who : Nm
  name : Nm
  new : Nm
  ent : En
deriving DecidableEq
inductive ChgOK (s : Sg) (c : Chg) : Prop where
  | put (h0 : signB s = true) (h1 : nmB c.who = true) (hk : c.kind = 1 ∨ c.kind = 2) (h2 : c.name = em) (h3 : c.new = em) (h4 : EnOK s c.ent)
  | ren (h0 : signB s = true) (h1 : nmB c.who = true) (hk : c.kind = 3) (h2 : nmB c.name = true) (h3 : nmB c.new = true) (h4 : c.name ≠ c.new) (h5 : c.ent = en0)
  | drop (h0 : signB s = true) (h1 : nmB c.who = true) (hk : c.kind = 4) (h2 : nmB c.name = true) (h3 : c.new = em) (h5 : c.ent = en0)
theorem ChgOK.sign {s : Sg} {c : Chg} (h : ChgOK s c) : signB s = true := by cases h <;> assumption
theorem ChgOK.who {s : Sg} {c : Chg} (h : ChgOK s c) : nmB c.who = true := by cases h <;> assumption
end Go.Proofs.YtmpjaakkjhmpmaaGreatDoor
namespace Go.Proofs.YtmpjaakkjhmpmaaGreatDoor
open Go Go.RowKit
structure ChgAt (w : World) (vS vU vP : Value) (c : Chg) : Prop where
  e : EntAt w vS vU vP c.ent
  n1 : c.who.size ≤ 140737488355328
  n2 : c.name.size ≤ 140737488355328
  n3 : c.new.size ≤ 140737488355328
theorem ChgAt.below {w w' : World} {vS vU vP : Value} {c : Chg} (h : ChgAt w vS vU vP c) (hb : Below w.heap.size w w') : ChgAt w' vS vU vP c := ⟨h.e.below hb, h.n1, h.n2, h.n3⟩
def chC (c : Chg) (v : V3) : List Value := [.int .i64 c.kind, .string c.who, .string c.name, .string c.new, .string c.ent.name, .string c.ent.who, v.1, v.2.1, v.2.2]
/-- a change in a box. -/
structure CB (w : World) (b : Nat) (c : Chg) (vS vU vP : Value) : Prop where
  c0 : w.cell? ⟨b, 0, none⟩ = some (.int .i64 c.kind)
  c1 : w.cell? ⟨b, 1, none⟩ = some (.string c.who)
  c2 : w.cell? ⟨b, 2, none⟩ = some (.string c.name)
  c3 : w.cell? ⟨b, 3, none⟩ = some (.string c.new)
  c4 : w.cell? ⟨b, 4, none⟩ = some (.string c.ent.name)
  c5 : w.cell? ⟨b, 5, none⟩ = some (.string c.ent.who)
  c6 : w.cell? ⟨b, 6, none⟩ = some vS
  c7 : w.cell? ⟨b, 7, none⟩ = some vU
  c8 : w.cell? ⟨b, 8, none⟩ = some vP
theorem CB.block {w w' : World} {b : Nat} {c : Chg} {vS vU vP : Value} (h : CB w b c vS vU vP) (hb : w'.heap[b]? = w.heap[b]?) : CB w' b c vS vU vP :=
  ⟨(World.cell?_of_block hb).trans h.c0, (World.cell?_of_block hb).trans h.c1, (World.cell?_of_block hb).trans h.c2, (World.cell?_of_block hb).trans h.c3, (World.cell?_of_block hb).trans h.c4, (World.cell?_of_block hb).trans h.c5, (World.cell?_of_block hb).trans h.c6, (World.cell?_of_block hb).trans h.c7, (World.cell?_of_block hb).trans h.c8⟩
theorem CB.below {w w' : World} {b : Nat} {c : Chg} {vS vU vP : Value} (h : CB w b c vS vU vP) (hb : Below w.heap.size w w') : CB w' b c vS vU vP :=
  h.block (hb.block b (World.block_lt_of_cell? _ _ h.c0))
theorem CB.new (w : World) (c : Chg) (vS vU vP : Value) (t : TypeId) : CB (w.alloc (.cells #[.int .i64 c.kind, .string c.who, .string c.name, .string c.new, .string c.ent.name, .string c.ent.who, vS, vU, vP] t)) w.heap.size c vS vU vP := by
  constructor <;> (rw [World.cell?_alloc_new]; rfl)
def chsC : List Chg → List V3 → List Value
  | x :: l, v :: vs => chC x v ++ chsC l vs
  | _, _ => []
theorem chsC_len : ∀ (l : List Chg) (vs : List V3), vs.length = l.length → (chsC l vs).length = l.length * 9
  | [], [], _ => rfl
  | [], _ :: _, h => by simp at h
  | _ :: _, [], h => by simp at h
  | x :: l, v :: vs, h => by
    have := chsC_len l vs (by simpa using h)
    simp [chsC, chC, this]; omega
theorem chsC_get : ∀ (l : List Chg) (vs : List V3) (_ : vs.length = l.length) (j : Nat) (h : j < l.length) (h' : j < vs.length) (r : Nat), r < 9 → (chsC l vs)[j * 9 + r]? = (chC l[j] vs[j])[r]?
  | [], _, _, j, h, _, _, _ => by simp at h
  | _ :: _, [], e, _, _, _, _, _ => by simp at e
  | x :: l, v :: vs, e, 0, _, _, r, hr => by
    show (chC x v ++ chsC l vs)[0 * 9 + r]? = _
    rw [Nat.zero_mul, Nat.zero_add, List.getElem?_append_left (by simp [chC]; exact hr)]
    rfl
  | x :: l, v :: vs, e, j + 1, h, h', r, hr => by
    show (chC x v ++ chsC l vs)[(j + 1) * 9 + r]? = _
    have h9 : (chC x v).length = 9 := rfl
    rw [List.getElem?_append_right (by rw [h9]; omega), h9, show (j + 1) * 9 + r - 9 = j * 9 + r by omega]
    exact chsC_get l vs (by simpa using e) j (by simpa using h) (by simpa using h') r hr
theorem chsC_append : ∀ (l m : List Chg) (vs us : List V3), vs.length = l.length → chsC (l ++ m) (vs ++ us) = chsC l vs ++ chsC m us
  | [], m, [], us, _ => rfl
  | [], _, _ :: _, _, h => by simp at h
  | _ :: _, _, [], _, h => by simp at h
  | x :: l, m, v :: vs, us, h => by simp [chsC, chsC_append l m vs us (by simpa using h)]
/-- a list of changes in memory. -/
def ChsV (w : World) (v : Value) (vs : List V3) (l : List Chg) : Prop := RowK w v 9 l.length (chsC l vs) ∧ vs.length = l.length ∧ ∀ (j : Nat) (h : j < l.length) (h' : j < vs.length), ChgAt w vs[j].1 vs[j].2.1 vs[j].2.2 l[j]
def ChsAt (w : World) (v : Value) (l : List Chg) : Prop := ∃ vs, ChsV w v vs l
theorem ChsV.below {w w' : World} {v : Value} {vs : List V3} {l : List Chg} (h : ChsV w v vs l) (hb : Below w.heap.size w w') : ChsV w' v vs l := ⟨h.1.below hb, h.2.1, fun j h1 h2 => (h.2.2 j h1 h2).below hb⟩
theorem ChsAt.below {w w' : World} {v : Value} {l : List Chg} (h : ChsAt w v l) (hb : Below w.heap.size w w') : ChsAt w' v l := by
  obtain ⟨vs, h⟩ := h; exact ⟨vs, h.below hb⟩
theorem ChsAt.nil (w : World) : ChsAt w (.slice none 0 0) [] := ⟨[], ⟨rfl, none, 0, rfl, Nat.le_refl _, by simp, fun _ => rfl, fun j u hj => by simp [chsC] at hj⟩, rfl, fun j h => by simp at h⟩
theorem ChsAt.open {w : World} {v : Value} {l : List Chg} (h : ChsAt w v l) :
    ∃ a cap, v = .slice a l.length cap ∧ l.length ≤ cap ∧ l.length ≤ 140737488355328 ∧ (a = none → cap = 0) ∧
      ∀ j (h : j < l.length), ∃ b o vs vu vp, a = some ⟨b, o, none⟩ ∧ w.cell? ⟨b, o + j * 9, none⟩ = some (.int .i64 l[j].kind) ∧ w.cell? ⟨b, o + j * 9 + 1, none⟩ = some (.string l[j].who) ∧ w.cell? ⟨b, o + j * 9 + 2, none⟩ = some (.string l[j].name) ∧ w.cell? ⟨b, o + j * 9 + 3, none⟩ = some (.string l[j].new) ∧ w.cell? ⟨b, o + j * 9 + 4, none⟩ = some (.string l[j].ent.name) ∧ w.cell? ⟨b, o + j * 9 + 5, none⟩ = some (.string l[j].ent.who) ∧ w.cell? ⟨b, o + j * 9 + 6, none⟩ = some vs ∧ w.cell? ⟨b, o + j * 9 + 7, none⟩ = some vu ∧ w.cell? ⟨b, o + j * 9 + 8, none⟩ = some vp ∧ ChgAt w vs vu vp l[j] := by
  obtain ⟨vs, ⟨_, a, cap, h2, h3, h4, h5, h6⟩, hl, he⟩ := h
  refine ⟨a, cap, h2, h3, h4, h5, fun j hj => ?_⟩
  have hjv : j < vs.length := by omega
  have g := fun r hr => chsC_get l vs hl j hj hjv r hr
  have key : ∀ r (hr : r < 9) u, (chC l[j] vs[j])[r]? = some u → ∃ b o, a = some ⟨b, o, none⟩ ∧ w.cell? ⟨b, o + (j * 9 + r), none⟩ = some u := fun r hr u hu => h6 _ _ ((g r hr).trans hu)
  obtain ⟨b, o, e0, q0⟩ := key 0 (by omega) _ rfl
  have key2 : ∀ r (hr : r < 9) u, (chC l[j] vs[j])[r]? = some u → w.cell? ⟨b, o + (j * 9 + r), none⟩ = some u := fun r hr u hu => by
    obtain ⟨b', o', e', q'⟩ := key r hr u hu
    rw [e0] at e'
    cases e'
    exact q'
  refine ⟨b, o, vs[j].1, vs[j].2.1, vs[j].2.2, e0, q0, ?_, ?_, ?_, ?_, ?_, ?_, ?_, ?_, he j hj hjv⟩ <;> (rw [Nat.add_assoc]; exact key2 _ (by omega) _ rfl)
/-- the first changes, and those behind them. -/
theorem ChsV.take {w : World} {a : Option Addr} {n cap : Nat} {vs : List V3} {l : List Chg} (h : ChsV w (.slice a n cap) vs l) (k : Nat) (hk : k ≤ l.length) : ChsV w (.slice a k cap) (vs.take k) (l.take k) := by
  obtain ⟨⟨h1, a', cap', h2, h3, h4, h5, h6⟩, hl, he⟩ := h
  simp only [Value.slice.injEq] at h2
  obtain ⟨rfl, rfl, rfl⟩ := h2
  have hlk : (l.take k).length = k := by rw [List.length_take]; omega
  have hvk : (vs.take k).length = k := by rw [List.length_take]; omega
  refine ⟨⟨chsC_len _ _ (by rw [hlk, hvk]), a, cap, by rw [hlk], by omega, by omega, h5, fun j u hj => ?_⟩, by rw [hlk, hvk], fun j g g' => ?_⟩
  · have e : chsC l vs = chsC (l.take k) (vs.take k) ++ chsC (l.drop k) (vs.drop k) := by
      rw [← chsC_append _ _ _ _ (by rw [hlk, hvk]), List.take_append_drop, List.take_append_drop]
    refine h6 j u ?_
    rw [e, List.getElem?_append_left (List.getElem?_eq_some_iff.1 hj).1]
    exact hj
  · simp only [List.getElem_take]
    exact he j (by omega) (by omega)
theorem ChsAt.take {w : World} {a : Option Addr} {n cap : Nat} {l : List Chg} (h : ChsAt w (.slice a n cap) l) (k : Nat) (hk : k ≤ l.length) : ChsAt w (.slice a k cap) (l.take k) := by
  obtain ⟨vs, h⟩ := h
  exact ⟨_, h.take k hk⟩
theorem ChsAt.drop {w : World} {b o n cap : Nat} {l : List Chg} (h : ChsAt w (.slice (some ⟨b, o, none⟩) n cap) l) (k : Nat) (hk : k ≤ l.length) : ChsAt w (.slice (some ⟨b, o + k * 9, none⟩) (l.length - k) (cap - k)) (l.drop k) := by
  obtain ⟨vs, ⟨h1, a', cap', h2, h3, h4, h5, h6⟩, hl, he⟩ := h
  simp only [Value.slice.injEq] at h2
  obtain ⟨rfl, rfl, rfl⟩ := h2
  have hlk : (l.take k).length = k := by rw [List.length_take]; omega
  have hvk : (vs.take k).length = k := by rw [List.length_take]; omega
  refine ⟨vs.drop k, ⟨chsC_len _ _ (by simp [hl]), some ⟨b, o + k * 9, none⟩, cap - k, by simp, by simp; omega, by simp; omega, (fun h => by cases h), fun j u hj => ?_⟩, by simp [hl], fun j g g' => ?_⟩
  · have e : chsC l vs = chsC (l.take k) (vs.take k) ++ chsC (l.drop k) (vs.drop k) := by
      rw [← chsC_append _ _ _ _ (by rw [hlk, hvk]), List.take_append_drop, List.take_append_drop]
    have hk9 : (chsC (l.take k) (vs.take k)).length = k * 9 := by rw [chsC_len _ _ (by rw [hlk, hvk]), hlk]
    have := h6 (k * 9 + j) u (by rw [e, List.getElem?_append_right (by omega), hk9, Nat.add_sub_cancel_left]; exact hj)
    obtain ⟨b', o', e', q⟩ := this
    cases e'
    exact ⟨b, o + k * 9, rfl, by rw [Nat.add_assoc]; exact q⟩
  · simp only [List.getElem_drop]
    rw [List.length_drop] at g g'
    exact he (k + j) (by omega) (by omega)
end Go.Proofs.YtmpjaakkjhmpmaaGreatDoor
namespace Go.Proofs.YtmpjaakkjhmpmaaGreatDoor
open Go Go.RowKit Go.Maps
theorem EntO.keep {w W' : World} {base base' : Nat} {vS vU vP : Value} {x : En} (h : EntO w base vS vU vP x) (hb : base' ≤ base) (hs : ∀ q, base ≤ q → q < w.heap.size → (vS.ownBlock = some q ∨ vU.ownBlock = some q ∨ vP.ownBlock = some q) → W'.heap[q]? = w.heap[q]?) : EntO W' base' vS vU vP x :=
  ⟨owns_base (owns_blocks h.s fun q h1 h2 h3 => hs q h1 h2 (Or.inl h3)) hb, owns_base (owns_blocks h.u fun q h1 h2 h3 => hs q h1 h2 (Or.inr (Or.inl h3))) hb, owns_base (owns_blocks h.p fun q h1 h2 h3 => hs q h1 h2 (Or.inr (Or.inr h3))) hb, h.ls, h.lu, h.lp, h.nu, h.n1, h.n2⟩
end Go.Proofs.YtmpjaakkjhmpmaaGreatDoor
namespace Go.Proofs.YtmpjaakkjhmpmaaGreatDoor
open Go Go.RowKit Go.Maps
end Go.Proofs.YtmpjaakkjhmpmaaGreatDoor
namespace Go.Proofs.YtmpjaakkjhmpmaaGreatDoor
open Go Go.RowKit Go.Maps
end Go.Proofs.YtmpjaakkjhmpmaaGreatDoor
