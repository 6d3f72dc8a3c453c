/-
  WHAT IT HOLDS: the contract of Moved of the reference of layer 8. Conditions: the arguments read as data; small signs, small libraries.
  WHAT IT HOLDS: the contract of copied of package carry. Conditions: the argument reads as data; it is small.
  WHAT IT HOLDS: the contract of copied of the reference of layer 8. Conditions: the argument reads as data; it is small.
  WHAT IT HOLDS: how a library of the call's own memory lies while it grows; contracts of each of package carry. Conditions: the arguments read as data; small signs, small libraries; the function value that is handed in does what f says to an entry of the call's own.
  WHAT IT HOLDS: a growing row of terms, each in memory of its own; contracts of Args and Alike of the reference of layer 1. Conditions: the arguments read as data.
  WHAT IT HOLDS: the contract of Added of package carry. Conditions: the arguments read as data; small signs, small libraries.
  WHAT IT HOLDS: the plain law of TopShelves: what a proof says is a shelf; where it cites it has what is alike the given; its base has for each statement one that is more general. No program in sight.
  WHAT IT HOLDS: the plain law of statements that go along: one answer alone; what goes along is proved by the moved entry. No program in sight.
  WHAT IT HOLDS: contracts of Givens of the reference of layer 6, of ValidGivens, right, run and Says of the reference of layer 4. Conditions: the arguments read as data.
  WHAT IT HOLDS: what a proof says whose steps were moved: what it said. No program in sight.
  WHAT IT HOLDS: plain words on a lemma that is put into the rest of a proof: the whole says what the rest says where the lemma's statement is a further given. No program in sight.
  WHAT IT HOLDS: plain law of ShortLemmas: a lemma cut out of a proof says what its step said, the rest says what the proof says where the lemma's statement is a further given, and so does the rest with the lemma put back. No program in sight.
  WHAT IT HOLDS: plain words on editions: ascending libraries, changes, what a change makes of an edition, and that it is undone. No program in sight.
  WHAT IT HOLDS: how changes lie: a change, lists of changes, and parts of them. No program's walk in sight.
  WHAT IT HOLDS: how an edition lies whose entries are copies of the call's own: written, put out, set. No program's walk in sight.
  WHAT IT HOLDS: the contracts of copied of package blame and of its reference. Conditions: the argument reads as data; it is small.
  WHAT IT HOLDS: contracts of copies, find and used of package blame. Conditions: the arguments read as data; small libraries.
-/
import Derived.Deep.RegionHeld3
import Derived.Test.YtmpjaakkjhmpmaaGreatDoorZRShortTrims30
import Derived.Test.YtmpjaakkjhmpmaaGreatDoorZRShortTrims34
import Derived.Test.YtmpjaakkjhmpmaaGreatDoorZRShortTrims21
import Derived.Test.YtmpjaakkjhmpmaaGreatDoorZRShortTrims14
import Derived.Test.YtmpjaakkjhmpmaaGreatDoorZRShortTrims27
import Derived.Test.YtmpjaakkjhmpmaaGreatDoorZRShortTrims28
import Derived.Test.YtmpjaakkjhmpmaaGreatDoorZRShortTrims24
import Derived.Test.YtmpjaakkjhmpmaaGreatDoorZRShortTrims33
import Derived.Test.YtmpjaakkjhmpmaaGreatDoorZRShortTrims16
import Derived.Test.YtmpjaakkjhmpmaaGreatDoorZRShortTrims19
namespace Go.Proofs.YtmpjaakkjhmpmaaGreatDoor
open Go Go.RowKit Go.Maps
end Go.Proofs.YtmpjaakkjhmpmaaGreatDoor
namespace Go.Proofs.YtmpjaakkjhmpmaaGreatDoor
open Go Go.RowKit Go.Maps
/-- an entry of the call's own memory: its slices lie in blocks from 'base' on. -/
structure EntO (w : World) (base : Nat) (vS vU vP : Value) (x : En) : Prop where
  s : w.ownsRow base 3 1 vS x.says.length (x.says.map (Value.int .i64))
  u : w.ownsRow base 9 1 vU x.uses.length (x.uses.map Value.string)
  p : w.ownsRow base 57 3 vP x.proof.length (stC x.proof)
  ls : x.says.length ≤ 1000
  lu : x.uses.length ≤ 1000
  lp : x.proof.length ≤ 1000
  nu : ∀ n ∈ x.uses, n.size ≤ 140737488355328
  n1 : x.name.size ≤ 140737488355328
  n2 : x.who.size ≤ 140737488355328
theorem EntO.ent {w : World} {base : Nat} {vS vU vP : Value} {x : En} (h : EntO w base vS vU vP x) : EntAt w vS vU vP x :=
  ⟨Ints.of_owns h.s (by have := h.ls; omega), ⟨RowK.of_owns h.u (by have := h.lu; omega), h.nu⟩, RowK.of_owns h.p (by have := h.lp; omega), h.n1, h.n2⟩
theorem EntO.blocks {w W' : World} {base base' : Nat} {vS vU vP : Value} {x : En} (h : EntO w base vS vU vP x) (hb : base' ≤ base) (hs : ∀ q, base ≤ q → q < w.heap.size → W'.heap[q]? = w.heap[q]?) : EntO W' base' vS vU vP x :=
  ⟨owns_base (owns_blocks h.s fun q h1 h2 _ => hs q h1 h2) hb, owns_base (owns_blocks h.u fun q h1 h2 _ => hs q h1 h2) hb, owns_base (owns_blocks h.p fun q h1 h2 _ => hs q h1 h2) hb, h.ls, h.lu, h.lp, h.nu, h.n1, h.n2⟩
end Go.Proofs.YtmpjaakkjhmpmaaGreatDoor
namespace Go.Proofs.YtmpjaakkjhmpmaaGreatDoor
open Go Go.RowKit Go.Maps
end Go.Proofs.YtmpjaakkjhmpmaaGreatDoor
namespace Go.Proofs.YtmpjaakkjhmpmaaGreatDoor
open Go Go.RowKit Go.Maps
end Go.Proofs.YtmpjaakkjhmpmaaGreatDoor
namespace Go.Proofs.YtmpjaakkjhmpmaaGreatDoor
open Go Go.RowKit Go.Maps
/-- a growing row of terms: behind any change of its own block alone the terms still lie. -/
structure TeS (w : World) (base : Nat) (u : Value) (vs : List Value) (l : List (List Int)) : Prop where
  top : w.ownsRow base 34 1 u l.length vs
  len : vs.length = l.length
  rd : ∀ W' : World, (∀ q, q < w.heap.size → some q ≠ u.ownBlock → W'.heap[q]? = w.heap[q]?) → ∀ (j : Nat) (h : j < l.length) (h' : j < vs.length), Ints W' vs[j] l[j]
theorem TeS.nil (w : World) (base : Nat) : TeS w base (.slice none 0 0) [] [] := ⟨World.ownsRow_nil _ _ _ _, rfl, fun _ _ j h => by simp at h⟩
theorem TeS.below {w w' : World} {base : Nat} {u : Value} {vs : List Value} {l : List (List Int)} (h : TeS w base u vs l) (hb : Below w.heap.size w w') : TeS w' base u vs l :=
  ⟨owns_below h.top hb, h.len, fun W' hW => h.rd W' fun q hq hne => (hW q (Nat.lt_of_lt_of_le hq hb.size) hne).trans (hb.block q hq)⟩
theorem TeS.base {w : World} {base base' : Nat} {u : Value} {vs : List Value} {l : List (List Int)} (h : TeS w base u vs l) (hb : base' ≤ base) : TeS w base' u vs l := ⟨owns_base h.top hb, h.len, h.rd⟩
theorem TeS.terms {w : World} {base : Nat} {u : Value} {vs : List Value} {l : List (List Int)} (h : TeS w base u vs l) (hl : l.length ≤ 100000) : Terms w u l :=
  ⟨vs, by unfold Vals; rw [h.len]; exact RowK.of_owns h.top (by omega), h.len, fun i v t h1 h2 => by
    obtain ⟨k1, e1⟩ := List.getElem?_eq_some_iff.1 h1
    obtain ⟨k2, e2⟩ := List.getElem?_eq_some_iff.1 h2
    subst e1 e2
    exact h.rd w (fun _ _ _ => rfl) i k2 k1⟩
theorem TeS.push {w w1 w2 : World} {base : Nat} {u : Value} {vs : List Value} {l : List (List Int)} (h : TeS w base u vs l) (hb : Below w.heap.size w w1) {x : List Int} {v : Value}
    (hx : ∀ W' : World, (∀ q, q < w1.heap.size → some q ≠ u.ownBlock → W'.heap[q]? = w1.heap[q]?) → Ints W' v x)
    {g cap n : Nat} (hn : n = l.length) (hown : w2.ownsRow base 34 1 (.slice (some ⟨g, 0, none⟩) (n + 1) cap) (n + 1) (vs ++ [v])) (hg : w1.grownBy w2 u.ownBlock) {H : Nat} (hH : H = w1.heap.size) (hat : u.ownBlock = some g ∨ g = H) :
    TeS w2 base (.slice (some ⟨g, 0, none⟩) (n + 1) cap) (vs ++ [v]) (l ++ [x]) := by
  subst hn
  have hb1 := h.below hb
  have key : ∀ W' : World, (∀ q, q < w2.heap.size → some q ≠ (Value.slice (some ⟨g, 0, none⟩) (l.length + 1) cap).ownBlock → W'.heap[q]? = w2.heap[q]?) → ∀ q, q < w1.heap.size → some q ≠ u.ownBlock → W'.heap[q]? = w1.heap[q]? := by
    intro W' hW q hq hne
    rw [hW q (Nat.lt_of_lt_of_le hq hg.size) ?_, hg.block q hq hne]
    intro e
    have e : q = g := Option.some.inj e
    rcases hat with ha | ha
    · exact hne (by rw [ha, e])
    · omega
  refine ⟨by simpa using hown, by simp [h.len], fun W' hW j hj hj' => ?_⟩
  have k1 := key W' hW
  by_cases hlt : j < l.length
  · have hv : j < vs.length := by rw [h.len]; exact hlt
    rw [List.getElem_append_left hlt, List.getElem_append_left hv]
    exact hb1.rd W' k1 j hlt hv
  · have e : j = l.length := by simp at hj; omega
    subst e
    have e1 : (l ++ [x])[l.length] = x := by simp
    have e2 : (vs ++ [v])[l.length] = v := by rw [List.getElem_append_right (by rw [h.len]; exact Nat.le_refl _)]; simp [h.len]
    rw [e1, e2]
    exact hx W' k1
theorem TeS.slice {w : World} {base : Nat} {u : Value} {vs : List Value} {l : List (List Int)} (h : TeS w base u vs l) : ∃ a c, u = .slice a l.length c := owns_slice h.top
/-- numbers of one's own, behind a change elsewhere. -/
theorem ints_own {w W' : World} {base : Nat} {v : Value} {l : List Int} (h : w.ownsRow base 3 1 v l.length (l.map (Value.int .i64))) (hl : l.length ≤ 1000) (hs : ∀ q, base ≤ q → q < w.heap.size → W'.heap[q]? = w.heap[q]?) : Ints W' v l :=
  Ints.of_owns (owns_blocks h fun q h1 h2 _ => hs q h1 h2) (by omega)
end Go.Proofs.YtmpjaakkjhmpmaaGreatDoor
namespace Go.Proofs.YtmpjaakkjhmpmaaGreatDoor
open Go Go.RowKit Go.Maps
theorem EB.block {w w' : World} {b : Nat} {x : En} {vS vU vP : Value} (h : EB w b x vS vU vP) (hb : w'.heap[b]? = w.heap[b]?) : EB w' b x vS vU vP :=
  ⟨(World.cell?_of_block hb).trans h.c0, (World.cell?_of_block hb).trans h.c1, (World.cell?_of_block hb).trans h.c2, (World.cell?_of_block hb).trans h.c3, (World.cell?_of_block hb).trans h.c4⟩
end Go.Proofs.YtmpjaakkjhmpmaaGreatDoor
namespace Go.Proofs.YtmpjaakkjhmpmaaGreatDoor
open Go Go.RowKit Go.Maps
theorem canon_termK {s : Sg} {t : List Int} (h : termB s t = true) : termB s (canonL t) = true := by
  have f := termB_facts h
  exact T_termB f.1 (canonL_T (termB_T h) (vars_le_m (termB_T h))) (by rw [canonL_len]; exact f.2.2.2)
theorem say_term {s : Sg} {g l : List (List Int)} {k : Int} {st : St} {t : List Int} (ha : givensB s g = true) (hr : rightB g.length k st = true) (h : sayR s g l st (t, 0)) : termB s t = true := by
  unfold sayR at h
  by_cases h1 : st.1 = 1
  · rw [if_pos h1] at h
    simp only [Prod.mk.injEq, and_true] at h
    subst h
    refine canon_termK ?_
    unfold rightB at hr
    rw [if_pos h1] at hr
    simp only [Bool.and_eq_true] at hr
    have h2 := inB_true.1 hr.1
    have hi : st.2.1.toNat < g.length := by omega
    rw [List.getD_eq_getElem?_getD, List.getElem?_eq_getElem hi]
    unfold givensB at ha
    simp only [Bool.and_eq_true] at ha
    have h3 := ha.2
    unfold allB at h3
    rw [List.all_eq_true] at h3
    exact h3 _ (List.getElem_mem hi)
  · rw [if_neg h1] at h
    rcases h with ⟨-, h⟩ | ⟨hv, -, ⟨-, h⟩ | ⟨A, B, -, -, tB, ⟨-, h⟩ | ⟨m, hm, ⟨hb, h⟩ | ⟨-, h⟩⟩⟩⟩
    · simp at h
    · simp at h
    · simp at h
    · simp only [Prod.mk.injEq, and_true] at h
      subst h
      exact made_term (termB_facts hv).1 (fw_T hm.1 (tB.mono (by omega))) hb
    · simp at h
theorem run_terms {s : Sg} {g : List (List Int)} {p : List St} {l : List (List Int)} {e : Int} (ha : askedB s g p = true) (hr : RunR s g p l e) : ∀ t ∈ l, termB s t = true := by
  intro t ht
  obtain ⟨i, hi, rfl⟩ := List.getElem_of_mem ht
  obtain ⟨st, h1, h2⟩ := hr.1 i _ (List.getElem?_eq_getElem hi)
  obtain ⟨hp, rfl⟩ := List.getElem?_eq_some_iff.1 h1
  exact say_term (asked_parts ha).1 (proofB_at (asked_parts ha).2 hp) h2
end Go.Proofs.YtmpjaakkjhmpmaaGreatDoor
namespace Go.Proofs.YtmpjaakkjhmpmaaGreatDoor
open Go Go.RowKit Go.Maps
theorem AloR.unique {s : Sg} {l : List En} {a n : Nm} {x y : List Int × Int} (h : AloR s l a n x) (k : AloR s l a n y) : x = y := by
  rcases h with ⟨h1, rfl⟩ | ⟨h1, -, p, q, hp, hq, hx⟩
  · rcases k with ⟨-, rfl⟩ | ⟨k1, -⟩
    · rfl
    · exact absurd k1 h1
  · rcases k with ⟨k1, -⟩ | ⟨-, -, p', q', hp', hq', hy⟩
    · exact absurd h1 k1
    · rw [hp] at hp'; rw [hq] at hq'; cases hp'; cases hq'
      exact hx.unique hy
theorem TheR.unique {s : Sg} {l : List En} {a b n : Nm} {x y : List Int × Int} (h : TheR s l a b n x) (k : TheR s l a b n y) : x = y := by
  rcases h with ⟨h1, rfl⟩ | ⟨h1, -, p, q, r, z, hp, hq, hr, hz, hx⟩
  · rcases k with ⟨-, rfl⟩ | ⟨k1, -⟩
    · rfl
    · exact absurd k1 h1
  · rcases k with ⟨k1, -⟩ | ⟨-, -, p', q', r', z', hp', hq', hr', hz', hy⟩
    · exact absurd h1 k1
    · rw [hp] at hp'; rw [hq] at hq'; rw [hr] at hr'; cases hp'; cases hq'; cases hr'
      have e := hz.unique hz'
      subst e
      rcases hx with ⟨h2, rfl⟩ | ⟨h2, hx⟩
      · rcases hy with ⟨-, rfl⟩ | ⟨k2, -⟩
        · rfl
        · exact absurd k2 h2
      · rcases hy with ⟨k2, -⟩ | ⟨-, hy⟩
        · exact absurd h2 k2
        · exact hx.unique hy
theorem MovR.unique {s : Sg} {l : List En} {a n o b : Nm} {x y : En} {e f : Int} (h : MovR s l a n o b x e) (k : MovR s l a n o b y f) : x = y ∧ e = f := by
  rcases h with ⟨h1, rfl, rfl⟩ | ⟨h1, p, q, z, hp, hq, hz, hx⟩
  · rcases k with ⟨-, rfl, rfl⟩ | ⟨k1, -⟩
    · exact ⟨rfl, rfl⟩
    · exact absurd k1 h1
  · rcases k with ⟨k1, -⟩ | ⟨-, p', q', z', hp', hq', hz', hy⟩
    · exact absurd h1 k1
    · rw [hp] at hp'; rw [hq] at hq'; cases hp'; cases hq'
      have e := hz.unique hz'
      subst e
      rcases hx with ⟨h2, rfl, rfl⟩ | ⟨h2, rfl, rfl⟩
      · rcases hy with ⟨-, rfl, rfl⟩ | ⟨k2, -⟩
        · exact ⟨rfl, rfl⟩
        · exact absurd k2 h2
      · rcases hy with ⟨k2, -⟩ | ⟨-, rfl, rfl⟩
        · exact absurd h2 k2
        · exact ⟨rfl, rfl⟩
theorem SayP.unique {s : Sg} {g : List (List Int)} {p : List St} {x y : List Int × Int} (h : SayP s g p x) (k : SayP s g p y) : x = y := by
  rcases h with ⟨h1, rfl⟩ | ⟨h1, l, hr, hx⟩
  · rcases k with ⟨-, rfl⟩ | ⟨k1, -⟩
    · rfl
    · rw [h1] at k1; cases k1
  · rcases k with ⟨k1, -⟩ | ⟨-, l', hr', hy⟩
    · rw [h1] at k1; cases k1
    · obtain ⟨rfl, he⟩ := hr.unique hr'
      rcases hx with ⟨h2, h3⟩ | ⟨h2, h3⟩
      · rcases hy with ⟨-, k3⟩ | ⟨k2, -⟩
        · rw [h3] at k3; exact Prod.ext (Option.some.inj k3) he
        · exact absurd (he ▸ h2) k2
      · rcases hy with ⟨k2, -⟩ | ⟨-, k3⟩
        · exact absurd (he ▸ k2) h2
        · exact Prod.ext (h3.trans k3.symm) he
theorem StrP.unique {s : Sg} {l : List En} {e : En} {x y : List Int × Bool} (h : StrP s l e x) (k : StrP s l e y) : x = y := by
  rcases h with ⟨h1, rfl⟩ | ⟨h1, h⟩
  · rcases k with ⟨-, rfl⟩ | ⟨k1, -⟩
    · rfl
    · exact absurd h1 k1
  · rcases k with ⟨k1, -⟩ | ⟨-, k⟩
    · exact absurd k1 h1
    · rcases h with ⟨h2, rfl⟩ | ⟨g, z, h2, h3, rfl⟩
      · rcases k with ⟨-, rfl⟩ | ⟨g', z', k2, -, rfl⟩
        · rfl
        · rw [h2] at k2; cases k2
      · rcases k with ⟨k2, -⟩ | ⟨g', z', k2, k3, rfl⟩
        · rw [h2] at k2; cases k2
        · rw [h2] at k2; cases k2
          rw [h3.unique k3]
theorem det_term {s : Sg} {m n t : List Int} (h : DetR s m n (t, 0)) : termB s t = true ∧ canonL t = t := by
  rcases h with ⟨-, h⟩ | ⟨hv, -, ⟨-, h⟩ | ⟨A, B, -, -, tB, ⟨-, h⟩ | ⟨m, hm, ⟨hb, h⟩ | ⟨-, h⟩⟩⟩⟩
  · simp at h
  · simp at h
  · simp at h
  · simp only [Prod.mk.injEq, and_true] at h
    subst h
    exact ⟨made_term (termB_facts hv).1 (fw_T hm.1 (tB.mono (by omega))) hb, canonL_canon _⟩
  · simp at h
theorem HoldR.unique {s : Sg} {l : List En} {n : Nm} {z z' : Bool} {e e' : Int} (h : HoldR s l n z e) (k : HoldR s l n z' e') : z = z' ∧ e = e' := by
  rcases h with ⟨h1, rfl, rfl⟩ | ⟨h1, h⟩
  · rcases k with ⟨-, rfl, rfl⟩ | ⟨k1, -⟩
    · exact ⟨rfl, rfl⟩
    · rw [h1] at k1; cases k1
  · rcases k with ⟨k1, -⟩ | ⟨-, k⟩
    · rw [h1] at k1; cases k1
    · rcases h with ⟨h2, rfl, rfl⟩ | ⟨i, hi, h2, ⟨x, hx, rfl⟩, rfl⟩
      · rcases k with ⟨-, rfl, rfl⟩ | ⟨j, hj, k2, -⟩
        · exact ⟨rfl, rfl⟩
        · rw [h2] at k2; cases k2
      · rcases k with ⟨k2, -⟩ | ⟨j, hj, k2, ⟨y, hy, rfl⟩, rfl⟩
        · rw [h2] at k2; cases k2
        · rw [h2] at k2; cases k2
          rw [hx.unique hy]; exact ⟨rfl, rfl⟩
theorem StgR.unique {s : Sg} {l : List En} {n : Nm} {t t' : List Int} {e e' : Int} (h : StgR s l n t e) (k : StgR s l n t' e') : t = t' ∧ e = e' := by
  rcases h with ⟨h1, rfl, rfl⟩ | ⟨h1, h⟩
  · rcases k with ⟨-, rfl, rfl⟩ | ⟨k1, -⟩
    · exact ⟨rfl, rfl⟩
    · rw [h1] at k1; cases k1
  · rcases k with ⟨k1, -⟩ | ⟨-, k⟩
    · rw [h1] at k1; cases k1
    · rcases h with ⟨h2, rfl, rfl⟩ | ⟨i, hi, h2, x, hx, h3⟩
      · rcases k with ⟨-, rfl, rfl⟩ | ⟨j, hj, k2, -⟩
        · exact ⟨rfl, rfl⟩
        · rw [h2] at k2; cases k2
      · rcases k with ⟨k2, -⟩ | ⟨j, hj, k2, y, hy, k3⟩
        · rw [h2] at k2; cases k2
        · rw [h2] at k2; cases k2
          have e := hx.unique hy
          subst e
          rcases h3 with ⟨a1, rfl, rfl⟩ | ⟨a1, rfl, rfl⟩
          · rcases k3 with ⟨b1, rfl, rfl⟩ | ⟨b1, rfl, rfl⟩
            · exact ⟨rfl, rfl⟩
            · rw [a1] at b1; cases b1
          · rcases k3 with ⟨b1, rfl, rfl⟩ | ⟨b1, rfl, rfl⟩
            · rw [a1] at b1; cases b1
            · exact ⟨rfl, rfl⟩
end Go.Proofs.YtmpjaakkjhmpmaaGreatDoor
namespace Go.Proofs.YtmpjaakkjhmpmaaGreatDoor
open Go Go.RowKit Go.Maps
def GivQ (l : List En) (ns : List Nm) (w : World) (e : Ending) (w' : World) : Prop := ∃ u ts z, ((givL l ns = none ∧ ts = [] ∧ z = false) ∨ (givL l ns = some ts ∧ z = true)) ∧ e = .returned (.tuple #[u, .bool z]) ∧ Terms w' u ts ∧ Below w.heap.size w w'
theorem GivQ.mk {l : List En} {ns : List Nm} {w : World} {e : Ending} {w' : World} (u : Value) (ts : List (List Int)) (z : Bool) (h1 : (givL l ns = none ∧ ts = [] ∧ z = false) ∨ (givL l ns = some ts ∧ z = true)) (h2 : e = .returned (.tuple #[u, .bool z])) (h3 : Terms w' u ts) (h4 : Below w.heap.size w w') : GivQ l ns w e w' := ⟨u, ts, z, h1, h2, h3, h4⟩
theorem ref4_ValidGivens (v vl : Value) (s : Sg) (l : List (List Int)) (w : World) (hs : SignAt w v s) (hv : Terms w vl l) :
    Calls Tryz.prog 99 #[v, vl] w fun e w' => e = .returned (.bool (givensB s l)) ∧ Below w.heap.size w w' := by
  have HVS := hid (ref1_ValidSign v s w hs)
  have HAV := hid (fun (X : World) (hb : Below w.heap.size w X) => ref1_AllValid v vl s l X (hs.below hb) (hv.below hb))
  obtain ⟨sa, scap, rfl, _⟩ := hs.open
  obtain ⟨la, lcap, rfl, -, ll, -⟩ := hv.open
  have hin : inB (l.length : Int) 0 60 = decide (l.length ≤ 60) := by
    cases h : decide (l.length ≤ 60)
    · have := of_decide_eq_false h
      unfold inB
      simp
      omega
    · have := of_decide_eq_true h
      exact inB_true.2 (by omega)
  have HC := hid (fun (X : World) => ref4_isCount (l.length : Int) X)
  rw [hin] at HC
  unfold givensB
  clear hs hv hin
  cases h2 : signB s
  · rw [h2] at HVS
    go_enter Tryz.func99, Tryz.ntmps99
    go_wp2_with fail
    refine HVS.out.mono ?_
    rintro e w1 ⟨rfl, n1, rfl⟩
    go_wp2
    go_ret
    exact ⟨ret_bool rfl, below_self_drewN _ _⟩
  · rw [h2] at HVS
    cases h3 : decide (l.length ≤ 60)
    · rw [h3] at HC
      go_enter Tryz.func99, Tryz.ntmps99
      go_wp2_with fail
      refine HVS.out.mono ?_
      rintro e w1 ⟨rfl, n1, rfl⟩
      go_wp2_with fail
      refine (HC.out _).mono ?_
      rintro e w2 ⟨rfl, rfl⟩
      go_wp2
      go_ret
      exact ⟨ret_bool rfl, below_self_drewN _ _⟩
    · rw [h3] at HC
      go_enter Tryz.func99, Tryz.ntmps99
      go_wp2_with fail
      refine HVS.out.mono ?_
      rintro e w1 ⟨rfl, n1, rfl⟩
      go_wp2_with fail
      refine (HC.out _).mono ?_
      rintro e w2 ⟨rfl, rfl⟩
      go_wp2_with fail
      refine (HAV.out _ (below_self_drewN _ _)).mono ?_
      rintro e w3 ⟨rfl, n3, rfl⟩
      go_wp2
      go_ret
      exact ⟨ret_bool (by simp), below_self_drewN _ _⟩
theorem ref4_right (v vl vp : Value) (s : Sg) (l : List (List Int)) (p : List St) (w : World) (hs : SignAt w v s) (hv : Terms w vl l) (hp : StepsAt w vp p) :
    Calls Tryz.prog 125 #[v, vl, vp] w fun e w' => e = .returned (.bool (askedB s l p)) ∧ Below w.heap.size w w' := by
  have HVG := hid (ref4_ValidGivens v vl s l w hs hv)
  have HPP := hid hp
  obtain ⟨sa, scap, rfl, _⟩ := hs.open
  obtain ⟨la, lcap, rfl, -, ll, -⟩ := hv.open
  obtain ⟨pa, pcap, rfl, -, pl, -⟩ := hp.open
  clear hs hv hp
  cases h1 : givensB s l
  · have HF : Hid (askedB s l p = false) := hid (by unfold askedB; rw [h1]; rfl)
    rw [h1] at HVG
    go_enter Tryz.func125, Tryz.ntmps125
    go_wp2_with fail
    refine HVG.out.mono ?_
    rintro e w1 ⟨rfl, hb1⟩
    go_wp2
    go_ret
    exact ⟨ret_bool HF.out.symm, hb1⟩
  · have HF : Hid (askedB s l p = proofB l.length p) := hid (by unfold askedB; rw [h1]; rfl)
    have hl60 : l.length ≤ 60 := by
      unfold givensB at h1
      simp only [Bool.and_eq_true, decide_eq_true_eq] at h1
      exact h1.1.2
    rw [h1] at HVG
    go_enter Tryz.func125, Tryz.ntmps125
    go_wp2_with fail
    refine HVG.out.mono ?_
    rintro e w1 ⟨rfl, hb1⟩
    have HVP := hid (ref4_ValidProof (l.length : Int) (.slice pa p.length pcap) p w1 (by omega) (HPP.out.below hb1))
    have HB1 := hid hb1
    clear hb1
    go_wp2_with fail
    refine HVP.out.mono ?_
    rintro e w2 ⟨rfl, hb2⟩
    go_wp2
    go_ret
    exact ⟨ret_bool HF.out.symm, HB1.out.trans (hb2.mono HB1.out.size)⟩
theorem right_step {g k : Int} {x : St} (h : rightB g k x = true) : (x.1 = 1 ∧ 0 ≤ x.2.1 ∧ x.2.1 < g) ∨ (x.1 = 2 ∧ 0 ≤ x.2.1 ∧ x.2.1 < k ∧ 0 ≤ x.2.2 ∧ x.2.2 < k) := by
  unfold rightB at h
  split at h
  · rename_i h1
    simp only [Bool.and_eq_true] at h
    have := inB_true.1 h.1
    exact Or.inl ⟨h1, by omega, by omega⟩
  · split at h
    · rename_i h1 h2
      simp only [Bool.and_eq_true] at h
      have := inB_true.1 h.1
      have := inB_true.1 h.2
      exact Or.inr ⟨h2, by omega, by omega, by omega, by omega⟩
    · cases h
theorem say_snoc {s : Sg} {g : List (List Int)} {p : List St} {ts : List (List Int)} {st : St} {t : List Int} (h : ∀ i t, ts[i]? = some t → ∃ st, p[i]? = some st ∧ sayR s g (ts.take i) st (t, 0)) (hp : p[ts.length]? = some st) (hs : sayR s g ts st (t, 0)) :
    ∀ i u, (ts ++ [t])[i]? = some u → ∃ st, p[i]? = some st ∧ sayR s g ((ts ++ [t]).take i) st (u, 0) := by
  intro i u hi
  by_cases hlt : i < ts.length
  · rw [List.getElem?_append_left hlt] at hi
    obtain ⟨st', h1, h2⟩ := h i u hi
    exact ⟨st', h1, by rw [List.take_append_of_le_length (by omega)]; exact h2⟩
  · have e : i = ts.length := by have := (List.getElem?_eq_some_iff.1 hi).1; simp at this; omega
    subst e
    simp at hi
    subst hi
    exact ⟨st, hp, by rw [List.take_left]; exact hs⟩
set_option maxHeartbeats 4000000 in
set_option maxRecDepth 100000 in
theorem ref4_run (vs vg vp : Value) (s : Sg) (g : List (List Int)) (p : List St) (w : World) (hask : askedB s g p = true) (hs : SignAt w vs s) (hg : Terms w vg g) (hp : StepsAt w vp p) :
    Calls Tryz.prog 126 #[vs, vg, vp] w fun e w' => ∃ u l er, RunR s g p l er ∧ e = .returned (.tuple #[u, .int .i64 er]) ∧ Terms w' u l ∧ Below w.heap.size w w' := by
  obtain ⟨hgv, hpv⟩ := asked_parts hask
  have hp60 := proof60 hpv
  have HST := hid (fun (k : Nat) (hk : k < p.length) => right_step (proofB_at hpv hk))
  have HGV : Hid (∀ (k : Nat) (hk : k < g.length), termB s g[k] = true) := hid (fun k hk => by
    unfold givensB at hgv
    simp only [Bool.and_eq_true] at hgv
    exact List.all_eq_true.1 hgv.2 _ (List.getElem_mem hk))
  have HSG := hid hs
  obtain ⟨sa, sc, rfl, -⟩ := hs.open
  obtain ⟨ga, gc, rfl, -, gl, -, GC⟩ := hg.open
  obtain ⟨pa, pc, rfl, -, pl, -, PC⟩ := hp.open
  have GC' := hid GC
  have PC' := hid PC
  have h00 := hid (TeS.nil w w.heap.size)
  clear GC PC hs hg hp hask hgv hpv
  go_enter Tryz.func126, Tryz.ntmps126
  go_wp2
  go_loopw [8, 9] (fun u kv wr => ∃ (k : Nat) (vvs : List Value) (ts : List (List Int)), k ≤ p.length ∧ kv = .int .i64 k ∧ TeS wr w.heap.size u vvs ts ∧ ts.length = k ∧ (∀ i t, ts[i]? = some t → ∃ st, p[i]? = some st ∧ sayR s g (ts.take i) st (t, 0)) ∧ (∀ (i : Nat) (h : i < ts.length), termB s ts[i] = true) ∧ Below w.heap.size w wr) (fun _ kv _ => p.length - (intOf kv).toNat)
  case atStart => exact ⟨0, [], [], by omega, rfl, h00.out, rfl, by simp, by simp, Below.refl _ _⟩
  case round =>
    clear h00
    obtain ⟨k, vvs, ts, hk, rfl, hE, htl, hsay, hok, hb⟩ := hrel
    have hsz := hb.size
    by_cases hlt : k < p.length
    · obtain ⟨pb, po, rfl, p0, p1, p2⟩ := PC'.out k hlt
      have p0' := (hb.cell (World.block_lt_of_cell? _ _ p0)).trans p0
      have p1' := (hb.cell (World.block_lt_of_cell? _ _ p1)).trans p1
      have p2' := (hb.cell (World.block_lt_of_cell? _ _ p2)).trans p2
      have hst := HST.out k hlt
      have hpk : p[ts.length]? = some p[k] := by rw [htl]; exact List.getElem?_eq_getElem hlt
      obtain ⟨st, hst'⟩ : ∃ st, p[k] = st := ⟨_, rfl⟩
      rw [hst'] at p0' p1' p2' hst hpk
      obtain ⟨s1, s2, s3⟩ := st
      have HPK := hid hpk
      have HSAY := hid hsay
      have HOK := hid hok
      clear p0 p1 p2 hst' hpk hsay hok
      dsimp only at p0' p1' p2' hst
      rcases hst with ⟨rfl, h1, h2⟩ | ⟨rfl, h1, h2, h3, h4⟩
      · obtain ⟨n, rfl⟩ : ∃ n : Nat, s2 = n := ⟨s2.toNat, by omega⟩
        have hng : n < g.length := by omega
        obtain ⟨gb, go, ug, rfl, g0, gI⟩ := GC'.out n hng
        have g0' := (hb.cell (World.block_lt_of_cell? _ _ g0)).trans g0
        have gI' := gI.below hb
        have htv := HGV.out n hng
        have hgd : g.getD n [] = g[n] := by rw [List.getD_eq_getElem?_getD, List.getElem?_eq_getElem hng]; rfl
        obtain ⟨x, hx⟩ : ∃ x, g[n] = x := ⟨_, rfl⟩
        rw [hx] at gI' htv hgd
        have f4 := (termB_facts htv).2.2.2
        have HREN := hid (ref1_Renamed ug x wr gI' (termB_T htv).ne (by omega) (termB_wf htv))
        have HSAY2 := hid (say_snoc (t := canonL x) HSAY.out HPK.out (by unfold sayR; rw [if_pos rfl]; show (canonL x, (0 : Int)) = (canonL (g.getD (n : Int).toNat []), 0); rw [Int.toNat_natCast, hgd]))
        have HCV := hid (canon_termK htv)
        have HCL := hid (canonL_len x)
        obtain ⟨z, hz⟩ : ∃ z, canonL x = z := ⟨_, rfl⟩
        rw [hz] at HREN HSAY2 HCV HCL
        have hz60 : z.length ≤ 60 := by rw [HCL.out]; exact f4
        obtain ⟨xa, xc, rfl, -⟩ := gI'.open
        have HE := hid hE
        have HB := hid hb
        have HTL := hid htl
        clear g0 gI gI' hx hgd hE hb htv hz
        go_wp2_with fail
        refine HREN.out.mono ?_
        rintro e w3 ⟨v3, rfl, o3, hb3⟩
        obtain ⟨a3, c3, rfl⟩ := owns_slice o3
        have HE3 := hid (HE.out.below hb3)
        have HO3 := hid o3
        have HU := hid HE.out.top.lt
        have HB3 := hid (HB.out.trans (hb3.mono hsz))
        have hwz := HB3.out.size
        have HS3 := hid hb3.size
        have hown2 := HE3.out.top
        rw [htl] at hown2
        have hownA := hown2.alloc (.cells #[.slice a3 z.length c3] 34)
        clear o3 hb3 hown2
        go_wp2_with (at_builtin; refine wpList_append_lie rfl _ _ 24 rfl w.heap.size 34 el_term Tryz.underlying24 rfl (by decide) u8 k vvs rfl hownA _ 1 [.slice a3 z.length c3] rfl (row_one_new _ _ _) (oneCell_one rfl) (by omega) (by omega) (by omega) (by simp; omega) _ rfl ?_; intro g4 cap w4 hown4 hgrow4 hat4 hlt4)
        go_roundw
        case rel =>
          refine ⟨k + 1, vvs ++ [.slice a3 z.length c3], ts ++ [z], by omega, by go_num, ?_, by simp [HTL.out], HSAY2.out, ?_, (HB3.out.alloc hwz _).grown hgrow4 (by simp; have := hwz; omega) (fun q hq => (HU.out q hq).1)⟩
          · exact HE3.out.push (w1 := w3.alloc _) ((Below.refl _ _).alloc (Nat.le_refl _) _) (fun W' hW' => ints_own HO3.out (by omega) fun q h1 h2 => (hW' q (by simp; omega) (fun e => by
              have := (HU.out q e.symm).2
              omega)).trans (Below.heap_alloc _ _ _ h2)) HTL.out.symm hown4 hgrow4 rfl hat4
          · intro i hi
            by_cases hlt' : i < ts.length
            · rw [List.getElem_append_left hlt']; exact HOK.out i hlt'
            · rw [List.getElem_append_right (by omega)]; simpa using HCV.out
        case measure => simp [intOf]; omega
      · obtain ⟨n, rfl⟩ : ∃ n : Nat, s2 = n := ⟨s2.toNat, by omega⟩
        obtain ⟨m, rfl⟩ : ∃ m : Nat, s3 = m := ⟨s3.toNat, by omega⟩
        have hn : n < ts.length := by omega
        have hm : m < ts.length := by omega
        have hT := hE.terms (by omega)
        obtain ⟨oa, oc, rfl, ocap, -, -, OC⟩ := hT.open
        obtain ⟨ob, oo, un, rfl, k0, i0⟩ := OC n hn
        obtain ⟨ob', oo', um, he', k1, i1⟩ := OC m hm
        obtain ⟨rfl, rfl⟩ : ob = ob' ∧ oo = oo' := by simpa using he'
        have v0 := HOK.out n hn
        have v1 := HOK.out m hm
        have hgn : ts.getD n [] = ts[n] := by rw [List.getD_eq_getElem?_getD, List.getElem?_eq_getElem hn]; rfl
        have hgm : ts.getD m [] = ts[m] := by rw [List.getD_eq_getElem?_getD, List.getElem?_eq_getElem hm]; rfl
        obtain ⟨x, hx⟩ : ∃ x, ts[n] = x := ⟨_, rfl⟩
        obtain ⟨y, hy⟩ : ∃ y, ts[m] = y := ⟨_, rfl⟩
        rw [hx] at i0 v0 hgn
        rw [hy] at i1 v1 hgm
        have HDE := hid (fun (j : Nat) => ref4_detach (.slice sa s.length sc) un um s x y (wr.drewN j) v0 v1 ((HSG.out.below hb).drewN j) (i0.drewN j) (i1.drewN j))
        have HSR := hid (fun (t : List Int) (er : Int) (h : DetR s x y (t, er)) => (show sayR s g ts (2, (n : Int), (m : Int)) (t, er) from by unfold sayR; rw [if_neg (by simp)]; show DetR s (ts.getD (n : Int).toNat []) (ts.getD (m : Int).toNat []) (t, er); rw [Int.toNat_natCast, Int.toNat_natCast, hgn, hgm]; exact h))
        obtain ⟨na, nc, rfl, -⟩ := i0.open
        obtain ⟨ma, mc, rfl, -⟩ := i1.open
        rw [htl] at ocap hE hT ⊢
        have HE := hid hE
        have HB := hid hb
        have HTL := hid htl
        have HT := hid hT
        have hRlt : po + k * 3 < po + k * 3 + 1 := by omega
        clear OC he' hT hE hb i0 i1 v0 v1 hx hy hgn hgm hRlt
        go_wp2
        go_region_held3 (fun w' => w'.cell? ⟨ob, oo + n, none⟩ = some (.slice na x.length nc) ∧ w'.cell? ⟨ob, oo + m, none⟩ = some (.slice ma y.length mc) ∧ w'.cell? ⟨pb, po + k * 3 + 1, none⟩ = some (.int .i64 n) ∧ w'.cell? ⟨pb, po + k * 3 + 2, none⟩ = some (.int .i64 m)) (first | exact ⟨by assumption, by assumption, by assumption, by assumption⟩ | go_keep) (first
          | (go_at_call 162; refine (HDE.out _).mono ?_; rintro e w4 ⟨yy, u, hyy, rfl, hown, hb4'⟩; have hb4 : Below wr.heap.size wr w4 := (below_self_drewN wr _).trans hb4'; have e0 := (hb4.cell (World.block_lt_of_cell? _ _ k0)).trans k0; have e1 := (hb4.cell (World.block_lt_of_cell? _ _ k1)).trans k1; have e2 := (hb4.cell (World.block_lt_of_cell? _ _ p1')).trans p1'; have e3 := (hb4.cell (World.block_lt_of_cell? _ _ p2')).trans p2'))
        have HO4 : Hid (w4.ownsRow wr.heap.size 3 1 u yy.1.length (yy.1.map (Value.int .i64))) := hid hown
        have HB4 := hid (HB.out.trans (hb4.mono hsz))
        have HS4 := hid hb4.size
        have HE4 := hid (HE.out.below hb4)
        have HL60 := hid (det_len hyy)
        obtain ⟨y1, y2⟩ := yy
        have HU := hid HE.out.top.lt
        by_cases hy0 : y2 = 0
        · subst hy0
          obtain ⟨a4, c4, rfl⟩ := owns_slice hown
          have HDT := hid (det_term hyy).1
          have HSAY2 := hid (say_snoc HSAY.out HPK.out (HSR.out _ _ hyy))
          have hwz := HB4.out.size
          have hown2 := HE4.out.top
          rw [htl] at hown2
          have hownA := hown2.alloc (.cells #[.slice a4 y1.length c4] 34)
          clear hown hown2 hb4 hb4' e0 e1 e2 e3 k0 k1 hyy HDE HSR
          go_wp2_with (at_builtin; refine wpList_append_lie rfl _ _ 24 rfl w.heap.size 34 el_term Tryz.underlying24 rfl (by decide) _ k vvs rfl hownA _ 1 [.slice a4 y1.length c4] rfl (row_one_new _ _ _) (oneCell_one rfl) (by omega) (by omega) (by omega) (by simp; omega) _ rfl ?_; intro g4 cap w5 hown4 hgrow4 hat4 hlt4)
          go_roundw
          case rel =>
            refine ⟨k + 1, vvs ++ [.slice a4 y1.length c4], ts ++ [y1], by omega, by go_num, ?_, by simp [HTL.out], HSAY2.out, ?_, (HB4.out.alloc hwz _).grown hgrow4 (by simp; have := hwz; omega) (fun q hq => (HU.out q hq).1)⟩
            · exact HE4.out.push (w1 := w4.alloc _) ((Below.refl _ _).alloc (Nat.le_refl _) _) (fun W' hW' => ints_own HO4.out (by have := HL60.out; dsimp only at this ⊢; omega) fun q h1 h2 => (hW' q (by simp; omega) (fun e => by
                have := (HU.out q e.symm).2
                omega)).trans (Below.heap_alloc _ _ _ h2)) HTL.out.symm hown4 hgrow4 rfl hat4
            · intro i hi
              by_cases hlt' : i < ts.length
              · rw [List.getElem_append_left hlt']; exact HOK.out i hlt'
              · rw [List.getElem_append_right (by omega)]; simpa using HDT.out
          case measure => simp [intOf]; omega
        · have n0 : (y2 != 0) = true := by simpa using hy0
          have HRR : Hid (RunR s g p ts y2) := hid ⟨HSAY.out, Or.inr ⟨hy0, by omega, _, y1, HPK.out, HSR.out _ _ hyy⟩⟩
          have HT4 := hid (HT.out.below hb4)
          clear hown hb4 hb4' e0 e1 e2 e3 k0 k1 hyy HDE HSR hy0
          go_wp2
          go_ret2
          exact ⟨_, ts, y2, HRR.out, rfl, HT4.out, HB4.out⟩
    · have hkl : k = p.length := by omega
      subst hkl
      have HR : Hid (RunR s g p ts 0) := hid ⟨hsay, Or.inl ⟨rfl, htl⟩⟩
      have HT := hid (hE.terms (by omega))
      clear hsay hok hE
      go_wp2
      go_ret2
      exact ⟨_, ts, 0, HR.out, rfl, HT.out, hb⟩
end Go.Proofs.YtmpjaakkjhmpmaaGreatDoor
namespace Go.Proofs.YtmpjaakkjhmpmaaGreatDoor
open Go Go.RowKit
/-- what the steps say that stay. -/
def lrL (l : List (List Int)) (b : List Bool) : Nat → List (List Int)
  | 0 => []
  | k + 1 => lrL l b k ++ (if stB b k = true then [l.getD k []] else [])
theorem lrL_len (l : List (List Int)) (b : List Bool) : ∀ k, (lrL l b k).length = posS b k
  | 0 => rfl
  | k + 1 => by
    rw [lrL, List.length_append, lrL_len l b k, posS]
    split <;> simp
theorem lrL_at (l : List (List Int)) (b : List Bool) {j : Nat} (hs : stB b j = true) : ∀ k, j < k → (lrL l b k).getD (posS b j) [] = l.getD j []
  | 0, h => by omega
  | k + 1, h => by
    rw [lrL]
    by_cases e : j = k
    · subst e
      rw [if_pos hs, List.getD_eq_getElem?_getD, List.getElem?_append_right (by rw [lrL_len]; exact Nat.le_refl _), lrL_len, Nat.sub_self]; rfl
    · have hj : j < k := by omega
      have h1 := lrL_at l b hs k hj
      have h2 := posS_lt b hj hs
      rw [List.getD_eq_getElem?_getD, List.getElem?_append_left (by rw [lrL_len]; omega), ← List.getD_eq_getElem?_getD, h1]
theorem run_reb {s : Sg} {g : List (List Int)} {p : List St} {l : List (List Int)} (h : RunR s g p l 0) (hp : proofB g.length p = true) {b : List Bool} {f : Nat → Nat} (ok : OKR p b f) (hf : ∀ j, j < p.length → l.getD (f j) [] = l.getD j []) :
    ∀ k, k ≤ p.length → ∀ i t, (lrL l b k)[i]? = some t → ∃ st, (rebL p b f k)[i]? = some st ∧ sayR s g ((lrL l b k).take i) st (t, 0) := by
  have hl : l.length = p.length := by rcases h.2 with ⟨-, h⟩ | ⟨h, -⟩ <;> first | exact h | exact absurd rfl h
  intro k
  induction k with
  | zero => intro _ i t hi; simp [lrL] at hi
  | succ k ih =>
    intro hk
    rw [lrL, rebL]
    by_cases hs : stB b k = true
    case neg => rw [if_neg hs, if_neg hs, List.append_nil, List.append_nil]; exact ih (by omega)
    rw [if_pos hs, if_pos hs]
    have hkp : k < p.length := by omega
    have hkl : k < l.length := by omega
    have ih' := ih (by omega)
    refine say_snoc (p := rebL p b f k ++ [mvS b f (p.getD k st0)]) (st := mvS b f (p.getD k st0)) (fun i t hi => ?_) ?_ ?_
    · obtain ⟨st, h1, h2⟩ := ih' i t hi
      have := (List.getElem?_eq_some_iff.1 h1).1
      exact ⟨st, by rw [List.getElem?_append_left this]; exact h1, h2⟩
    · rw [List.getElem?_append_right (by rw [lrL_len, rebL_len]; exact Nat.le_refl _), lrL_len, rebL_len, Nat.sub_self]; rfl
    · obtain ⟨st, h1, h2⟩ := h.1 k l[k] (List.getElem?_eq_getElem hkl)
      have e1 : p.getD k st0 = st := by rw [List.getD_eq_getElem?_getD, h1]; rfl
      have e2 : l.getD k [] = l[k] := by rw [List.getD_eq_getElem?_getD, List.getElem?_eq_getElem hkl]; rfl
      have hr := proofB_at hp hkp
      have e3 : p[k] = st := by rw [List.getElem?_eq_getElem hkp] at h1; exact Option.some.inj h1
      rw [e3] at hr
      rw [e1, e2]
      rcases right_step hr with ⟨k1, -, -⟩ | ⟨k2, a1, a2, b1, b2⟩
      · have : mvS b f st = st := by unfold mvS; rw [if_neg (by omega)]
        rw [this]
        unfold sayR at h2 ⊢
        rw [if_pos k1] at h2 ⊢
        exact h2
      · obtain ⟨⟨o1, o2⟩, o3, o4⟩ := ok k hkp hs (by rw [e1]; exact k2)
        rw [e1] at o1 o2 o3 o4
        have hm : mvS b f st = (2, (posS b (f (nA st)) : Int), (posS b (f (nB st)) : Int)) := by unfold mvS; rw [if_pos k2]
        rw [hm]
        unfold sayR at h2 ⊢
        rw [if_neg (by omega)] at h2
        rw [if_neg (show ¬ ((2 : Int) = 1) by decide)]
        have key : ∀ j, j < k → (l.take k).getD j [] = l.getD j [] := fun j hj => by
          rw [List.getD_eq_getElem?_getD, List.getElem?_take_of_lt hj, ← List.getD_eq_getElem?_getD]
        show DetR s ((lrL l b k).getD ((posS b (f (nA st)) : Int)).toNat []) ((lrL l b k).getD ((posS b (f (nB st)) : Int)).toNat []) (l[k], 0)
        rw [Int.toNat_natCast, Int.toNat_natCast, lrL_at l b o2 k o1, lrL_at l b o4 k o3, hf _ (by unfold nA; omega), hf _ (by unfold nB; omega)]
        rw [key _ (by omega), key _ (by omega)] at h2
        exact h2
theorem reb_run {s : Sg} {g : List (List Int)} {p : List St} {l : List (List Int)} (h : RunR s g p l 0) (hp : proofB g.length p = true) {b : List Bool} {f : Nat → Nat} (ok : OKR p b f) (hf : ∀ j, j < p.length → l.getD (f j) [] = l.getD j []) {k : Nat} (hk : k ≤ p.length) : RunR s g (rebL p b f k) (lrL l b k) 0 :=
  ⟨run_reb h hp ok hf k hk, Or.inl ⟨rfl, by rw [lrL_len, rebL_len]⟩⟩
theorem reb_right {g : Int} {p : List St} (hp : proofB g p = true) {b : List Bool} {f : Nat → Nat} (ok : OKR p b f) : ∀ k, k ≤ p.length → ∀ j (hj : j < (rebL p b f k).length), rightB g j (rebL p b f k)[j] = true := by
  intro k
  induction k with
  | zero => intro _ j hj; simp [rebL] at hj
  | succ k ih =>
    intro hk j hj
    have hkp : k < p.length := by omega
    by_cases hs : stB b k = true
    case neg =>
      have e : rebL p b f (k + 1) = rebL p b f k := by rw [rebL, if_neg hs, List.append_nil]
      simp only [e] at hj ⊢
      exact ih (by omega) j hj
    have e : rebL p b f (k + 1) = rebL p b f k ++ [mvS b f (p.getD k st0)] := by rw [rebL, if_pos hs]
    simp only [e] at hj ⊢
    by_cases hj2 : j < (rebL p b f k).length
    · rw [List.getElem_append_left hj2]
      exact ih (by omega) j hj2
    · have ej : j = (rebL p b f k).length := by simp at hj; omega
      subst ej
      rw [List.getElem_append_right (Nat.le_refl _)]
      simp only [Nat.sub_self, List.getElem_cons_zero]
      have hr := proofB_at hp hkp
      have e1 : p.getD k st0 = p[k] := by rw [List.getD_eq_getElem?_getD, List.getElem?_eq_getElem hkp]; rfl
      rcases right_step hr with ⟨k1, a1, a2⟩ | ⟨k2, a1, a2, b1, b2⟩
      · have : mvS b f (p.getD k st0) = p[k] := by unfold mvS; rw [e1, if_neg (by omega)]
        rw [this]
        unfold rightB at hr ⊢
        rw [if_pos k1] at hr ⊢
        exact hr
      · obtain ⟨⟨o1, o2⟩, o3, o4⟩ := ok k hkp hs (by rw [e1]; exact k2)
        have h3 := posS_lt b o1 o2
        have h4 := posS_lt b o3 o4
        have hm : mvS b f (p.getD k st0) = (2, (posS b (f (nA (p.getD k st0))) : Int), (posS b (f (nB (p.getD k st0))) : Int)) := by unfold mvS; rw [if_pos (by rw [e1]; exact k2)]
        rw [hm, rebL_len]
        unfold rightB
        rw [if_neg (show ¬ ((2 : Int) = 1) by decide), if_pos rfl, Bool.and_eq_true]
        constructor <;> exact inB_true.2 (by dsimp only; omega)
theorem reb_valid {g : Int} {p : List St} (hp : proofB g p = true) {b : List Bool} {f : Nat → Nat} (ok : OKR p b f) {k : Nat} (hk : k ≤ p.length) {j : Nat} (hj : j < k) (hs : stB b j = true) : proofB g (rebL p b f k) = true := by
  rw [proofB_all (reb_right hp ok k hk), rebL_len]
  have h1 := posS_lt b hj hs
  have h2 := posS_le b k
  have h3 := proof60 hp
  exact inB_true.2 (by omega)
end Go.Proofs.YtmpjaakkjhmpmaaGreatDoor
namespace Go.Proofs.YtmpjaakkjhmpmaaGreatDoor
open Go Go.RowKit
end Go.Proofs.YtmpjaakkjhmpmaaGreatDoor
namespace Go.Proofs.YtmpjaakkjhmpmaaGreatDoor
open Go Go.RowKit
theorem run_len {s : Sg} {g : List (List Int)} {p : List St} {l : List (List Int)} (h : RunR s g p l 0) : l.length = p.length := by
  rcases h.2 with ⟨-, h⟩ | ⟨h, -⟩ <;> first | exact h | exact absurd rfl h
theorem proofB_take {g : Int} {p : List St} (h : proofB g p = true) {k : Nat} (h1 : 1 ≤ k) (hk : k ≤ p.length) : proofB g (p.take k) = true := by
  have h60 := proof60 h
  rw [proofB_all (fun j hj => by
    have hj' : j < p.length := by rw [List.length_take] at hj; omega
    rw [List.getElem_take]
    exact proofB_at h hj')]
  rw [List.length_take]
  exact inB_true.2 (by omega)
theorem lrL_last (l : List (List Int)) (b : List Bool) {n : Nat} (hs : stB b n = true) : (lrL l b (n + 1)).getLast? = some (l.getD n []) := by
  rw [lrL, if_pos hs]; simp
def cutS (p : List St) (i : Nat) (g : Int) : List St := p.set i (1, g, 0)
theorem cut_valid {g : Nat} {p : List St} (hp : proofB g p = true) (i : Nat) : proofB ((g : Int) + 1) (cutS p i g) = true := by
  have h60 := proof60 hp
  have h1 := proof1 hp
  rw [proofB_all (fun j hj => ?_)]
  · unfold cutS; rw [List.length_set]; exact inB_true.2 (by omega)
  · unfold cutS at hj ⊢
    rw [List.length_set] at hj
    rw [List.getElem_set]
    split
    · unfold rightB
      rw [if_pos rfl, Bool.and_eq_true]
      exact ⟨inB_true.2 (by dsimp only; omega), by simp⟩
    · have hr := proofB_at hp hj
      rcases right_step hr with ⟨c1, c2, c3⟩ | ⟨c1, -⟩
      · unfold rightB at hr ⊢
        rw [if_pos c1, Bool.and_eq_true] at hr ⊢
        exact ⟨inB_true.2 (by omega), hr.2⟩
      · unfold rightB at hr ⊢
        rw [if_neg (by omega)] at hr ⊢
        exact hr
theorem lst_getD {l : List (List Int)} {t : List Int} {n : Nat} (h : l.getLast? = some t) (hn : l.length = n) : l.getD (n - 1) [] = t := by
  rw [List.getLast?_eq_getElem?] at h
  rw [List.getD_eq_getElem?_getD, ← hn, h]; rfl
theorem say_ok {s : Sg} {g : List (List Int)} {p : List St} {l : List (List Int)} {t : List Int} (hg : givensB s g = true) (h : RunR s g p l 0) (hp : proofB g.length p = true) (ht : l.getLast? = some t) : SayP s g p (t, 0) :=
  Or.inr ⟨by unfold askedB; rw [hg, hp]; rfl, l, h, Or.inl ⟨rfl, ht⟩⟩
end Go.Proofs.YtmpjaakkjhmpmaaGreatDoor
namespace Go.Proofs.YtmpjaakkjhmpmaaGreatDoor
open Go Go.RowKit
abbrev em : Nm := ⟨#[]⟩
/-- a library in ascending order of names. -/
def AscE (l : List En) : Prop := l.Pairwise fun a b => ltN a.name b.name
instance (l : List En) : Decidable (AscE l) := inferInstanceAs (Decidable (l.Pairwise fun a b => ltN a.name b.name))
theorem AscE.unique {l m : List En} (h : AscE l) (k : AscE m) (e : ∀ x, x ∈ l ↔ x ∈ m) : l = m :=
  asc_unique (R := fun a b : En => ltN a.name b.name) (fun a => ltN.irr a.name) (fun h k => ltN.trans h k) h k e
theorem AscE.nd {l : List En} (h : AscE l) : (l.map En.name).Nodup := by
  rw [List.Nodup, List.pairwise_map]
  exact h.imp fun h e => by rw [e] at h; exact ltN.irr _ h
theorem AscE.inj {l : List En} (h : AscE l) {x y : En} (hx : x ∈ l) (hy : y ∈ l) (e : x.name = y.name) : x = y := by
  obtain ⟨i, hi, rfl⟩ := List.getElem_of_mem hx
  obtain ⟨j, hj, rfl⟩ := List.getElem_of_mem hy
  have h1 := idxN_nd h.nd hi
  have h2 := idxN_nd h.nd hj
  rw [e, h2] at h1
  cases h1
  rfl
/-- a change: its kind, by whom it is, the names, the entry. -/
structure Chg where
  kind : Int
  who : Nm
  name : Nm
  new : Nm
  ent : En
deriving DecidableEq
inductive ChgOK (s : Sg) (c : Chg) : Prop where
  | put (h0 : signB s = true) (h1 : nmB c.who = true) (hk : c.kind = 1 ∨ c.kind = 2) (h2 : c.name = em) (h3 : c.new = em) (h4 : EnOK s c.ent)
  | ren (h0 : signB s = true) (h1 : nmB c.who = true) (hk : c.kind = 3) (h2 : nmB c.name = true) (h3 : nmB c.new = true) (h4 : c.name ≠ c.new) (h5 : c.ent = en0)
  | drop (h0 : signB s = true) (h1 : nmB c.who = true) (hk : c.kind = 4) (h2 : nmB c.name = true) (h3 : c.new = em) (h5 : c.ent = en0)
theorem ChgOK.sign {s : Sg} {c : Chg} (h : ChgOK s c) : signB s = true := by cases h <;> assumption
theorem ChgOK.who {s : Sg} {c : Chg} (h : ChgOK s c) : nmB c.who = true := by cases h <;> assumption
end Go.Proofs.YtmpjaakkjhmpmaaGreatDoor
namespace Go.Proofs.YtmpjaakkjhmpmaaGreatDoor
open Go Go.RowKit
structure ChgAt (w : World) (vS vU vP : Value) (c : Chg) : Prop where
  e : EntAt w vS vU vP c.ent
  n1 : c.who.size ≤ 140737488355328
  n2 : c.name.size ≤ 140737488355328
  n3 : c.new.size ≤ 140737488355328
theorem ChgAt.below {w w' : World} {vS vU vP : Value} {c : Chg} (h : ChgAt w vS vU vP c) (hb : Below w.heap.size w w') : ChgAt w' vS vU vP c := ⟨h.e.below hb, h.n1, h.n2, h.n3⟩
def chC (c : Chg) (v : V3) : List Value := [.int .i64 c.kind, .string c.who, .string c.name, .string c.new, .string c.ent.name, .string c.ent.who, v.1, v.2.1, v.2.2]
/-- a change in a box. -/
structure CB (w : World) (b : Nat) (c : Chg) (vS vU vP : Value) : Prop where
  c0 : w.cell? ⟨b, 0, none⟩ = some (.int .i64 c.kind)
  c1 : w.cell? ⟨b, 1, none⟩ = some (.string c.who)
  c2 : w.cell? ⟨b, 2, none⟩ = some (.string c.name)
  c3 : w.cell? ⟨b, 3, none⟩ = some (.string c.new)
  c4 : w.cell? ⟨b, 4, none⟩ = some (.string c.ent.name)
  c5 : w.cell? ⟨b, 5, none⟩ = some (.string c.ent.who)
  c6 : w.cell? ⟨b, 6, none⟩ = some vS
  c7 : w.cell? ⟨b, 7, none⟩ = some vU
  c8 : w.cell? ⟨b, 8, none⟩ = some vP
theorem CB.block {w w' : World} {b : Nat} {c : Chg} {vS vU vP : Value} (h : CB w b c vS vU vP) (hb : w'.heap[b]? = w.heap[b]?) : CB w' b c vS vU vP :=
  ⟨(World.cell?_of_block hb).trans h.c0, (World.cell?_of_block hb).trans h.c1, (World.cell?_of_block hb).trans h.c2, (World.cell?_of_block hb).trans h.c3, (World.cell?_of_block hb).trans h.c4, (World.cell?_of_block hb).trans h.c5, (World.cell?_of_block hb).trans h.c6, (World.cell?_of_block hb).trans h.c7, (World.cell?_of_block hb).trans h.c8⟩
theorem CB.below {w w' : World} {b : Nat} {c : Chg} {vS vU vP : Value} (h : CB w b c vS vU vP) (hb : Below w.heap.size w w') : CB w' b c vS vU vP :=
  h.block (hb.block b (World.block_lt_of_cell? _ _ h.c0))
theorem CB.new (w : World) (c : Chg) (vS vU vP : Value) (t : TypeId) : CB (w.alloc (.cells #[.int .i64 c.kind, .string c.who, .string c.name, .string c.new, .string c.ent.name, .string c.ent.who, vS, vU, vP] t)) w.heap.size c vS vU vP := by
  constructor <;> (rw [World.cell?_alloc_new]; rfl)
def chsC : List Chg → List V3 → List Value
  | x :: l, v :: vs => chC x v ++ chsC l vs
  | _, _ => []
theorem chsC_len : ∀ (l : List Chg) (vs : List V3), vs.length = l.length → (chsC l vs).length = l.length * 9
  | [], [], _ => rfl
  | [], _ :: _, h => by simp at h
  | _ :: _, [], h => by simp at h
  | x :: l, v :: vs, h => by
    have := chsC_len l vs (by simpa using h)
    simp [chsC, chC, this]; omega
theorem chsC_get : ∀ (l : List Chg) (vs : List V3) (_ : vs.length = l.length) (j : Nat) (h : j < l.length) (h' : j < vs.length) (r : Nat), r < 9 → (chsC l vs)[j * 9 + r]? = (chC l[j] vs[j])[r]?
  | [], _, _, j, h, _, _, _ => by simp at h
  | _ :: _, [], e, _, _, _, _, _ => by simp at e
  | x :: l, v :: vs, e, 0, _, _, r, hr => by
    show (chC x v ++ chsC l vs)[0 * 9 + r]? = _
    rw [Nat.zero_mul, Nat.zero_add, List.getElem?_append_left (by simp [chC]; exact hr)]
    rfl
  | x :: l, v :: vs, e, j + 1, h, h', r, hr => by
    show (chC x v ++ chsC l vs)[(j + 1) * 9 + r]? = _
    have h9 : (chC x v).length = 9 := rfl
    rw [List.getElem?_append_right (by rw [h9]; omega), h9, show (j + 1) * 9 + r - 9 = j * 9 + r by omega]
    exact chsC_get l vs (by simpa using e) j (by simpa using h) (by simpa using h') r hr
theorem chsC_append : ∀ (l m : List Chg) (vs us : List V3), vs.length = l.length → chsC (l ++ m) (vs ++ us) = chsC l vs ++ chsC m us
  | [], m, [], us, _ => rfl
  | [], _, _ :: _, _, h => by simp at h
  | _ :: _, _, [], _, h => by simp at h
  | x :: l, m, v :: vs, us, h => by simp [chsC, chsC_append l m vs us (by simpa using h)]
/-- a list of changes in memory. -/
def ChsV (w : World) (v : Value) (vs : List V3) (l : List Chg) : Prop := RowK w v 9 l.length (chsC l vs) ∧ vs.length = l.length ∧ ∀ (j : Nat) (h : j < l.length) (h' : j < vs.length), ChgAt w vs[j].1 vs[j].2.1 vs[j].2.2 l[j]
def ChsAt (w : World) (v : Value) (l : List Chg) : Prop := ∃ vs, ChsV w v vs l
theorem ChsV.below {w w' : World} {v : Value} {vs : List V3} {l : List Chg} (h : ChsV w v vs l) (hb : Below w.heap.size w w') : ChsV w' v vs l := ⟨h.1.below hb, h.2.1, fun j h1 h2 => (h.2.2 j h1 h2).below hb⟩
theorem ChsAt.below {w w' : World} {v : Value} {l : List Chg} (h : ChsAt w v l) (hb : Below w.heap.size w w') : ChsAt w' v l := by
  obtain ⟨vs, h⟩ := h; exact ⟨vs, h.below hb⟩
theorem ChsAt.nil (w : World) : ChsAt w (.slice none 0 0) [] := ⟨[], ⟨rfl, none, 0, rfl, Nat.le_refl _, by simp, fun _ => rfl, fun j u hj => by simp [chsC] at hj⟩, rfl, fun j h => by simp at h⟩
theorem ChsAt.open {w : World} {v : Value} {l : List Chg} (h : ChsAt w v l) :
    ∃ a cap, v = .slice a l.length cap ∧ l.length ≤ cap ∧ l.length ≤ 140737488355328 ∧ (a = none → cap = 0) ∧
      ∀ j (h : j < l.length), ∃ b o vs vu vp, a = some ⟨b, o, none⟩ ∧ w.cell? ⟨b, o + j * 9, none⟩ = some (.int .i64 l[j].kind) ∧ w.cell? ⟨b, o + j * 9 + 1, none⟩ = some (.string l[j].who) ∧ w.cell? ⟨b, o + j * 9 + 2, none⟩ = some (.string l[j].name) ∧ w.cell? ⟨b, o + j * 9 + 3, none⟩ = some (.string l[j].new) ∧ w.cell? ⟨b, o + j * 9 + 4, none⟩ = some (.string l[j].ent.name) ∧ w.cell? ⟨b, o + j * 9 + 5, none⟩ = some (.string l[j].ent.who) ∧ w.cell? ⟨b, o + j * 9 + 6, none⟩ = some vs ∧ w.cell? ⟨b, o + j * 9 + 7, none⟩ = some vu ∧ w.cell? ⟨b, o + j * 9 + 8, none⟩ = some vp ∧ ChgAt w vs vu vp l[j] := by
  obtain ⟨vs, ⟨_, a, cap, h2, h3, h4, h5, h6⟩, hl, he⟩ := h
  refine ⟨a, cap, h2, h3, h4, h5, fun j hj => ?_⟩
  have hjv : j < vs.length := by omega
  have g := fun r hr => chsC_get l vs hl j hj hjv r hr
  have key : ∀ r (hr : r < 9) u, (chC l[j] vs[j])[r]? = some u → ∃ b o, a = some ⟨b, o, none⟩ ∧ w.cell? ⟨b, o + (j * 9 + r), none⟩ = some u := fun r hr u hu => h6 _ _ ((g r hr).trans hu)
  obtain ⟨b, o, e0, q0⟩ := key 0 (by omega) _ rfl
  have key2 : ∀ r (hr : r < 9) u, (chC l[j] vs[j])[r]? = some u → w.cell? ⟨b, o + (j * 9 + r), none⟩ = some u := fun r hr u hu => by
    obtain ⟨b', o', e', q'⟩ := key r hr u hu
    rw [e0] at e'
    cases e'
    exact q'
  refine ⟨b, o, vs[j].1, vs[j].2.1, vs[j].2.2, e0, q0, ?_, ?_, ?_, ?_, ?_, ?_, ?_, ?_, he j hj hjv⟩ <;> (rw [Nat.add_assoc]; exact key2 _ (by omega) _ rfl)
/-- the first changes, and those behind them. -/
theorem ChsV.take {w : World} {a : Option Addr} {n cap : Nat} {vs : List V3} {l : List Chg} (h : ChsV w (.slice a n cap) vs l) (k : Nat) (hk : k ≤ l.length) : ChsV w (.slice a k cap) (vs.take k) (l.take k) := by
  obtain ⟨⟨h1, a', cap', h2, h3, h4, h5, h6⟩, hl, he⟩ := h
  simp only [Value.slice.injEq] at h2
  obtain ⟨rfl, rfl, rfl⟩ := h2
  have hlk : (l.take k).length = k := by rw [List.length_take]; omega
  have hvk : (vs.take k).length = k := by rw [List.length_take]; omega
  refine ⟨⟨chsC_len _ _ (by rw [hlk, hvk]), a, cap, by rw [hlk], by omega, by omega, h5, fun j u hj => ?_⟩, by rw [hlk, hvk], fun j g g' => ?_⟩
  · have e : chsC l vs = chsC (l.take k) (vs.take k) ++ chsC (l.drop k) (vs.drop k) := by
      rw [← chsC_append _ _ _ _ (by rw [hlk, hvk]), List.take_append_drop, List.take_append_drop]
    refine h6 j u ?_
    rw [e, List.getElem?_append_left (List.getElem?_eq_some_iff.1 hj).1]
    exact hj
  · simp only [List.getElem_take]
    exact he j (by omega) (by omega)
theorem ChsAt.take {w : World} {a : Option Addr} {n cap : Nat} {l : List Chg} (h : ChsAt w (.slice a n cap) l) (k : Nat) (hk : k ≤ l.length) : ChsAt w (.slice a k cap) (l.take k) := by
  obtain ⟨vs, h⟩ := h
  exact ⟨_, h.take k hk⟩
theorem ChsAt.drop {w : World} {b o n cap : Nat} {l : List Chg} (h : ChsAt w (.slice (some ⟨b, o, none⟩) n cap) l) (k : Nat) (hk : k ≤ l.length) : ChsAt w (.slice (some ⟨b, o + k * 9, none⟩) (l.length - k) (cap - k)) (l.drop k) := by
  obtain ⟨vs, ⟨h1, a', cap', h2, h3, h4, h5, h6⟩, hl, he⟩ := h
  simp only [Value.slice.injEq] at h2
  obtain ⟨rfl, rfl, rfl⟩ := h2
  have hlk : (l.take k).length = k := by rw [List.length_take]; omega
  have hvk : (vs.take k).length = k := by rw [List.length_take]; omega
  refine ⟨vs.drop k, ⟨chsC_len _ _ (by simp [hl]), some ⟨b, o + k * 9, none⟩, cap - k, by simp, by simp; omega, by simp; omega, (fun h => by cases h), fun j u hj => ?_⟩, by simp [hl], fun j g g' => ?_⟩
  · have e : chsC l vs = chsC (l.take k) (vs.take k) ++ chsC (l.drop k) (vs.drop k) := by
      rw [← chsC_append _ _ _ _ (by rw [hlk, hvk]), List.take_append_drop, List.take_append_drop]
    have hk9 : (chsC (l.take k) (vs.take k)).length = k * 9 := by rw [chsC_len _ _ (by rw [hlk, hvk]), hlk]
    have := h6 (k * 9 + j) u (by rw [e, List.getElem?_append_right (by omega), hk9, Nat.add_sub_cancel_left]; exact hj)
    obtain ⟨b', o', e', q⟩ := this
    cases e'
    exact ⟨b, o + k * 9, rfl, by rw [Nat.add_assoc]; exact q⟩
  · simp only [List.getElem_drop]
    rw [List.length_drop] at g g'
    exact he (k + j) (by omega) (by omega)
end Go.Proofs.YtmpjaakkjhmpmaaGreatDoor
namespace Go.Proofs.YtmpjaakkjhmpmaaGreatDoor
open Go Go.RowKit Go.Maps
theorem EntO.keep {w W' : World} {base base' : Nat} {vS vU vP : Value} {x : En} (h : EntO w base vS vU vP x) (hb : base' ≤ base) (hs : ∀ q, base ≤ q → q < w.heap.size → (vS.ownBlock = some q ∨ vU.ownBlock = some q ∨ vP.ownBlock = some q) → W'.heap[q]? = w.heap[q]?) : EntO W' base' vS vU vP x :=
  ⟨owns_base (owns_blocks h.s fun q h1 h2 h3 => hs q h1 h2 (Or.inl h3)) hb, owns_base (owns_blocks h.u fun q h1 h2 h3 => hs q h1 h2 (Or.inr (Or.inl h3))) hb, owns_base (owns_blocks h.p fun q h1 h2 h3 => hs q h1 h2 (Or.inr (Or.inr h3))) hb, h.ls, h.lu, h.lp, h.nu, h.n1, h.n2⟩
end Go.Proofs.YtmpjaakkjhmpmaaGreatDoor
namespace Go.Proofs.YtmpjaakkjhmpmaaGreatDoor
open Go Go.RowKit Go.Maps
end Go.Proofs.YtmpjaakkjhmpmaaGreatDoor
namespace Go.Proofs.YtmpjaakkjhmpmaaGreatDoor
open Go Go.RowKit Go.Maps
end Go.Proofs.YtmpjaakkjhmpmaaGreatDoor
