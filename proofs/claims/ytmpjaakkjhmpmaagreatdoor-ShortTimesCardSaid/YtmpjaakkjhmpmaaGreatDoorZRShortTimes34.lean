/-
  WHAT IT HOLDS: the plain law of statements that go along: one answer alone; what goes along is proved by the moved entry. No program in sight.
  WHAT IT HOLDS: contracts of Givens of the reference of layer 6, of ValidGivens, right, run and Says of the reference of layer 4. Conditions: the arguments read as data.
  WHAT IT HOLDS: what a proof says whose steps were moved: what it said. No program in sight.
  WHAT IT HOLDS: plain words on a lemma that is put into the rest of a proof: the whole says what the rest says where the lemma's statement is a further given. No program in sight.
  WHAT IT HOLDS: plain law of ShortLemmas: a lemma cut out of a proof says what its step said, the rest says what the proof says where the lemma's statement is a further given, and so does the rest with the lemma put back. No program in sight.
  WHAT IT HOLDS: contracts of valid, said and Good of package short, of Run of the reference of layer 4, of run, Good and valid of the reference of layer 7. Conditions: the arguments read as data; a small sign, small lists.
  WHAT IT HOLDS: contract of needed of package short: which steps are needed. Conditions: the steps read as data; the proof is valid.
  WHAT IT HOLDS: contract of times of package short: how often each step comes in the tree of the last one. Conditions: the steps read as data; the proof is valid.
  WHAT IT HOLDS: contract of times of the reference of layer 7: how often each step comes in the tree of the last one. Conditions: the steps read as data; the proof is valid.
  WHAT IT HOLDS: plain words on givens that no step of a proof cites: which are cited, the proof without the others, and that it comes back when it is moved. No program in sight.
  WHAT IT HOLDS: contract of split of package short: the givens that steps cite, and the others. Conditions: the steps read as data; the proof is valid.
  WHAT IT HOLDS: plain words on steps that are changed in place, one by one, and on where a number stands in a list. No program in sight.
  WHAT IT HOLDS: contracts of Run of the reference of layer 4, of run, Good and valid of the reference of layer 7, of Good of package short. Conditions: the arguments read as data; a small sign, small lists.
-/
import Derived.Deep.RegionHeld3
import Derived.BigQuiet
import Derived.Test.YtmpjaakkjhmpmaaGreatDoorZRShortTimes33
import Derived.Test.YtmpjaakkjhmpmaaGreatDoorZRShortTimes28
import Derived.Test.YtmpjaakkjhmpmaaGreatDoorZRShortTimes31
import Derived.Test.YtmpjaakkjhmpmaaGreatDoorZRShortTimes30
import Derived.Test.YtmpjaakkjhmpmaaGreatDoorZRShortTimes2
import Derived.Test.YtmpjaakkjhmpmaaGreatDoorZRShortTimes0
import Derived.Test.YtmpjaakkjhmpmaaGreatDoorZRShortTimes14
namespace Go.Proofs.YtmpjaakkjhmpmaaGreatDoor
open Go Go.RowKit Go.Maps
theorem AloR.unique {s : Sg} {l : List En} {a n : Nm} {x y : List Int × Int} (h : AloR s l a n x) (k : AloR s l a n y) : x = y := by
  rcases h with ⟨h1, rfl⟩ | ⟨h1, -, p, q, hp, hq, hx⟩
  · rcases k with ⟨-, rfl⟩ | ⟨k1, -⟩
    · rfl
    · exact absurd k1 h1
  · rcases k with ⟨k1, -⟩ | ⟨-, -, p', q', hp', hq', hy⟩
    · exact absurd h1 k1
    · rw [hp] at hp'; rw [hq] at hq'; cases hp'; cases hq'
      exact hx.unique hy
theorem TheR.unique {s : Sg} {l : List En} {a b n : Nm} {x y : List Int × Int} (h : TheR s l a b n x) (k : TheR s l a b n y) : x = y := by
  rcases h with ⟨h1, rfl⟩ | ⟨h1, -, p, q, r, z, hp, hq, hr, hz, hx⟩
  · rcases k with ⟨-, rfl⟩ | ⟨k1, -⟩
    · rfl
    · exact absurd k1 h1
  · rcases k with ⟨k1, -⟩ | ⟨-, -, p', q', r', z', hp', hq', hr', hz', hy⟩
    · exact absurd h1 k1
    · rw [hp] at hp'; rw [hq] at hq'; rw [hr] at hr'; cases hp'; cases hq'; cases hr'
      have e := hz.unique hz'
      subst e
      rcases hx with ⟨h2, rfl⟩ | ⟨h2, hx⟩
      · rcases hy with ⟨-, rfl⟩ | ⟨k2, -⟩
        · rfl
        · exact absurd k2 h2
      · rcases hy with ⟨k2, -⟩ | ⟨-, hy⟩
        · exact absurd h2 k2
        · exact hx.unique hy
theorem MovR.unique {s : Sg} {l : List En} {a n o b : Nm} {x y : En} {e f : Int} (h : MovR s l a n o b x e) (k : MovR s l a n o b y f) : x = y ∧ e = f := by
  rcases h with ⟨h1, rfl, rfl⟩ | ⟨h1, p, q, z, hp, hq, hz, hx⟩
  · rcases k with ⟨-, rfl, rfl⟩ | ⟨k1, -⟩
    · exact ⟨rfl, rfl⟩
    · exact absurd k1 h1
  · rcases k with ⟨k1, -⟩ | ⟨-, p', q', z', hp', hq', hz', hy⟩
    · exact absurd h1 k1
    · rw [hp] at hp'; rw [hq] at hq'; cases hp'; cases hq'
      have e := hz.unique hz'
      subst e
      rcases hx with ⟨h2, rfl, rfl⟩ | ⟨h2, rfl, rfl⟩
      · rcases hy with ⟨-, rfl, rfl⟩ | ⟨k2, -⟩
        · exact ⟨rfl, rfl⟩
        · exact absurd k2 h2
      · rcases hy with ⟨k2, -⟩ | ⟨-, rfl, rfl⟩
        · exact absurd h2 k2
        · exact ⟨rfl, rfl⟩
theorem SayP.unique {s : Sg} {g : List (List Int)} {p : List St} {x y : List Int × Int} (h : SayP s g p x) (k : SayP s g p y) : x = y := by
  rcases h with ⟨h1, rfl⟩ | ⟨h1, l, hr, hx⟩
  · rcases k with ⟨-, rfl⟩ | ⟨k1, -⟩
    · rfl
    · rw [h1] at k1; cases k1
  · rcases k with ⟨k1, -⟩ | ⟨-, l', hr', hy⟩
    · rw [h1] at k1; cases k1
    · obtain ⟨rfl, he⟩ := hr.unique hr'
      rcases hx with ⟨h2, h3⟩ | ⟨h2, h3⟩
      · rcases hy with ⟨-, k3⟩ | ⟨k2, -⟩
        · rw [h3] at k3; exact Prod.ext (Option.some.inj k3) he
        · exact absurd (he ▸ h2) k2
      · rcases hy with ⟨k2, -⟩ | ⟨-, k3⟩
        · exact absurd (he ▸ k2) h2
        · exact Prod.ext (h3.trans k3.symm) he
theorem StrP.unique {s : Sg} {l : List En} {e : En} {x y : List Int × Bool} (h : StrP s l e x) (k : StrP s l e y) : x = y := by
  rcases h with ⟨h1, rfl⟩ | ⟨h1, h⟩
  · rcases k with ⟨-, rfl⟩ | ⟨k1, -⟩
    · rfl
    · exact absurd h1 k1
  · rcases k with ⟨k1, -⟩ | ⟨-, k⟩
    · exact absurd k1 h1
    · rcases h with ⟨h2, rfl⟩ | ⟨g, z, h2, h3, rfl⟩
      · rcases k with ⟨-, rfl⟩ | ⟨g', z', k2, -, rfl⟩
        · rfl
        · rw [h2] at k2; cases k2
      · rcases k with ⟨k2, -⟩ | ⟨g', z', k2, k3, rfl⟩
        · rw [h2] at k2; cases k2
        · rw [h2] at k2; cases k2
          rw [h3.unique k3]
theorem HoldR.unique {s : Sg} {l : List En} {n : Nm} {z z' : Bool} {e e' : Int} (h : HoldR s l n z e) (k : HoldR s l n z' e') : z = z' ∧ e = e' := by
  rcases h with ⟨h1, rfl, rfl⟩ | ⟨h1, h⟩
  · rcases k with ⟨-, rfl, rfl⟩ | ⟨k1, -⟩
    · exact ⟨rfl, rfl⟩
    · rw [h1] at k1; cases k1
  · rcases k with ⟨k1, -⟩ | ⟨-, k⟩
    · rw [h1] at k1; cases k1
    · rcases h with ⟨h2, rfl, rfl⟩ | ⟨i, hi, h2, ⟨x, hx, rfl⟩, rfl⟩
      · rcases k with ⟨-, rfl, rfl⟩ | ⟨j, hj, k2, -⟩
        · exact ⟨rfl, rfl⟩
        · rw [h2] at k2; cases k2
      · rcases k with ⟨k2, -⟩ | ⟨j, hj, k2, ⟨y, hy, rfl⟩, rfl⟩
        · rw [h2] at k2; cases k2
        · rw [h2] at k2; cases k2
          rw [hx.unique hy]; exact ⟨rfl, rfl⟩
theorem StgR.unique {s : Sg} {l : List En} {n : Nm} {t t' : List Int} {e e' : Int} (h : StgR s l n t e) (k : StgR s l n t' e') : t = t' ∧ e = e' := by
  rcases h with ⟨h1, rfl, rfl⟩ | ⟨h1, h⟩
  · rcases k with ⟨-, rfl, rfl⟩ | ⟨k1, -⟩
    · exact ⟨rfl, rfl⟩
    · rw [h1] at k1; cases k1
  · rcases k with ⟨k1, -⟩ | ⟨-, k⟩
    · rw [h1] at k1; cases k1
    · rcases h with ⟨h2, rfl, rfl⟩ | ⟨i, hi, h2, x, hx, h3⟩
      · rcases k with ⟨-, rfl, rfl⟩ | ⟨j, hj, k2, -⟩
        · exact ⟨rfl, rfl⟩
        · rw [h2] at k2; cases k2
      · rcases k with ⟨k2, -⟩ | ⟨j, hj, k2, y, hy, k3⟩
        · rw [h2] at k2; cases k2
        · rw [h2] at k2; cases k2
          have e := hx.unique hy
          subst e
          rcases h3 with ⟨a1, rfl, rfl⟩ | ⟨a1, rfl, rfl⟩
          · rcases k3 with ⟨b1, rfl, rfl⟩ | ⟨b1, rfl, rfl⟩
            · exact ⟨rfl, rfl⟩
            · rw [a1] at b1; cases b1
          · rcases k3 with ⟨b1, rfl, rfl⟩ | ⟨b1, rfl, rfl⟩
            · rw [a1] at b1; cases b1
            · exact ⟨rfl, rfl⟩
end Go.Proofs.YtmpjaakkjhmpmaaGreatDoor
namespace Go.Proofs.YtmpjaakkjhmpmaaGreatDoor
open Go Go.RowKit Go.Maps
def GivQ (l : List En) (ns : List Nm) (w : World) (e : Ending) (w' : World) : Prop := ∃ u ts z, ((givL l ns = none ∧ ts = [] ∧ z = false) ∨ (givL l ns = some ts ∧ z = true)) ∧ e = .returned (.tuple #[u, .bool z]) ∧ Terms w' u ts ∧ Below w.heap.size w w'
theorem GivQ.mk {l : List En} {ns : List Nm} {w : World} {e : Ending} {w' : World} (u : Value) (ts : List (List Int)) (z : Bool) (h1 : (givL l ns = none ∧ ts = [] ∧ z = false) ∨ (givL l ns = some ts ∧ z = true)) (h2 : e = .returned (.tuple #[u, .bool z])) (h3 : Terms w' u ts) (h4 : Below w.heap.size w w') : GivQ l ns w e w' := ⟨u, ts, z, h1, h2, h3, h4⟩
theorem right_step {g k : Int} {x : St} (h : rightB g k x = true) : (x.1 = 1 ∧ 0 ≤ x.2.1 ∧ x.2.1 < g) ∨ (x.1 = 2 ∧ 0 ≤ x.2.1 ∧ x.2.1 < k ∧ 0 ≤ x.2.2 ∧ x.2.2 < k) := by
  unfold rightB at h
  split at h
  · rename_i h1
    simp only [Bool.and_eq_true] at h
    have := inB_true.1 h.1
    exact Or.inl ⟨h1, by omega, by omega⟩
  · split at h
    · rename_i h1 h2
      simp only [Bool.and_eq_true] at h
      have := inB_true.1 h.1
      have := inB_true.1 h.2
      exact Or.inr ⟨h2, by omega, by omega, by omega, by omega⟩
    · cases h
end Go.Proofs.YtmpjaakkjhmpmaaGreatDoor
namespace Go.Proofs.YtmpjaakkjhmpmaaGreatDoor
open Go Go.RowKit
end Go.Proofs.YtmpjaakkjhmpmaaGreatDoor
namespace Go.Proofs.YtmpjaakkjhmpmaaGreatDoor
open Go Go.RowKit
end Go.Proofs.YtmpjaakkjhmpmaaGreatDoor
namespace Go.Proofs.YtmpjaakkjhmpmaaGreatDoor
open Go Go.RowKit
theorem run_len {s : Sg} {g : List (List Int)} {p : List St} {l : List (List Int)} (h : RunR s g p l 0) : l.length = p.length := by
  rcases h.2 with ⟨-, h⟩ | ⟨h, -⟩ <;> first | exact h | exact absurd rfl h
theorem proofB_take {g : Int} {p : List St} (h : proofB g p = true) {k : Nat} (h1 : 1 ≤ k) (hk : k ≤ p.length) : proofB g (p.take k) = true := by
  have h60 := proof60 h
  rw [proofB_all (fun j hj => by
    have hj' : j < p.length := by rw [List.length_take] at hj; omega
    rw [List.getElem_take]
    exact proofB_at h hj')]
  rw [List.length_take]
  exact inB_true.2 (by omega)
def cutS (p : List St) (i : Nat) (g : Int) : List St := p.set i (1, g, 0)
theorem cut_valid {g : Nat} {p : List St} (hp : proofB g p = true) (i : Nat) : proofB ((g : Int) + 1) (cutS p i g) = true := by
  have h60 := proof60 hp
  have h1 := proof1 hp
  rw [proofB_all (fun j hj => ?_)]
  · unfold cutS; rw [List.length_set]; exact inB_true.2 (by omega)
  · unfold cutS at hj ⊢
    rw [List.length_set] at hj
    rw [List.getElem_set]
    split
    · unfold rightB
      rw [if_pos rfl, Bool.and_eq_true]
      exact ⟨inB_true.2 (by dsimp only; omega), by simp⟩
    · have hr := proofB_at hp hj
      rcases right_step hr with ⟨c1, c2, c3⟩ | ⟨c1, -⟩
      · unfold rightB at hr ⊢
        rw [if_pos c1, Bool.and_eq_true] at hr ⊢
        exact ⟨inB_true.2 (by omega), hr.2⟩
      · unfold rightB at hr ⊢
        rw [if_neg (by omega)] at hr ⊢
        exact hr
end Go.Proofs.YtmpjaakkjhmpmaaGreatDoor
namespace Go.Proofs.YtmpjaakkjhmpmaaGreatDoor
open Go Go.RowKit Go.Maps
def vldB (g : Int) (p : List St) : Bool := inB g 0 60 && proofB g p
def vldE (g : Int) (p : List St) : Int := if vldB g p = true then 0 else 1
/-- what all steps say: an error if the arguments are not valid, or a step says nothing. -/
def SaidQ (s : Sg) (g : List (List Int)) (p : List St) (l : List (List Int)) (er : Int) : Prop :=
  (askedB s g p = false ∧ l = [] ∧ er = 1) ∨ (askedB s g p = true ∧ ∃ l' e', RunR s g p l' e' ∧ ((e' = 0 ∧ l = l' ∧ er = 0) ∨ (e' ≠ 0 ∧ l = [] ∧ er = 11)))
theorem SaidQ.unique {s : Sg} {g : List (List Int)} {p : List St} {l l' : List (List Int)} {e e' : Int} (h : SaidQ s g p l e) (k : SaidQ s g p l' e') : l = l' ∧ e = e' := by
  rcases h with ⟨h1, rfl, rfl⟩ | ⟨h1, a, x, h2, h3⟩
  · rcases k with ⟨-, rfl, rfl⟩ | ⟨k1, -⟩
    · exact ⟨rfl, rfl⟩
    · rw [h1] at k1; cases k1
  · rcases k with ⟨k1, -⟩ | ⟨k1, b, y, k2, k3⟩
    · rw [h1] at k1; cases k1
    · obtain ⟨rfl, rfl⟩ := h2.unique k2
      rcases h3 with ⟨e, rfl, rfl⟩ | ⟨e, rfl, rfl⟩ <;> rcases k3 with ⟨f, rfl, rfl⟩ | ⟨f, rfl, rfl⟩
      · exact ⟨rfl, rfl⟩
      · exact absurd e f
      · exact absurd f e
      · exact ⟨rfl, rfl⟩
/-- a good proof. -/
theorem SaidQ.good {s : Sg} {g : List (List Int)} {p : List St} {l : List (List Int)} (h : SaidQ s g p l 0) : askedB s g p = true ∧ RunR s g p l 0 := by
  rcases h with ⟨-, -, h⟩ | ⟨h1, a, x, h2, ⟨rfl, rfl, -⟩ | ⟨-, -, h⟩⟩
  · cases h
  · exact ⟨h1, h2⟩
  · cases h
set_option maxHeartbeats 1000000 in
theorem short_valid (g : Int) (v : Value) (p : List St) (w : World) (hp : StepsAt w v p) :
    Calls Tryz.prog 56 #[.int .i64 g, v] w fun e w' => e = .returned (.int .i64 (vldE g p)) ∧ Below w.heap.size w w' := by
  have HV := hid (fun (h : 0 ≤ g ∧ g ≤ 60) => kernel_ValidProof g v p w h hp)
  obtain ⟨a, cap, rfl, -⟩ := hp.open
  clear hp
  by_cases h1 : g < 0
  · have HF : Hid (vldE g p = 1) := hid (by unfold vldE vldB; rw [inB_false.2 (Or.inl h1)]; rfl)
    clear HV
    go_enter Tryz.func56, Tryz.ntmps56
    go_wp2
    go_ret
    exact ⟨congrArg (fun z : Int => Ending.returned (.int .i64 z)) HF.out.symm, Below.refl _ _⟩
  by_cases h2 : 60 < g
  · have HF : Hid (vldE g p = 1) := hid (by unfold vldE vldB; rw [inB_false.2 (Or.inr h2)]; rfl)
    clear HV
    go_enter Tryz.func56, Tryz.ntmps56
    go_wp2
    go_ret
    exact ⟨congrArg (fun z : Int => Ending.returned (.int .i64 z)) HF.out.symm, Below.refl _ _⟩
  have HK := hid (HV.out ⟨by omega, by omega⟩)
  have hi : inB g 0 60 = true := inB_true.2 ⟨by omega, by omega⟩
  clear HV
  cases hb : proofB g p
  · have HF : Hid (vldE g p = 1) := hid (by unfold vldE vldB; rw [hb, Bool.and_false]; rfl)
    rw [hb] at HK
    clear hb
    go_enter Tryz.func56, Tryz.ntmps56
    go_wp2_with fail
    refine HK.out.mono ?_
    rintro e w1 ⟨rfl, hb1⟩
    go_wp2
    go_ret
    exact ⟨congrArg (fun z : Int => Ending.returned (.int .i64 z)) HF.out.symm, hb1⟩
  · have HF : Hid (vldE g p = 0) := hid (by unfold vldE vldB; rw [hb, hi]; rfl)
    rw [hb] at HK
    clear hb
    go_enter Tryz.func56, Tryz.ntmps56
    go_wp2_with fail
    refine HK.out.mono ?_
    rintro e w1 ⟨rfl, hb1⟩
    go_wp2
    go_ret
    exact ⟨congrArg (fun z : Int => Ending.returned (.int .i64 z)) HF.out.symm, hb1⟩
set_option maxHeartbeats 2000000 in
theorem short_said (vs vg vp : Value) (s : Sg) (g : List (List Int)) (p : List St) (w : World) (hs : SignAt w vs s) (hg : Terms w vg g) (hp : StepsAt w vp p) (hs1 : s.length ≤ 1000) :
    Calls Tryz.prog 60 #[vs, vg, vp] w fun e w' => ∃ u l er, e = .returned (.tuple #[u, .int .i64 er]) ∧ SaidQ s g p l er ∧ Terms w' u l ∧ Below w.heap.size w w' := by
  have HG := hid (kernel_ValidGivens vs vg s g w hs hg hs1)
  have HP := hid (fun (h : (0 : Int) ≤ (g.length : Int) ∧ (g.length : Int) ≤ 60) (X : World) (hX : Below w.heap.size w X) => kernel_ValidProof (g.length : Int) vp p X h (hp.below hX))
  have HR := hid (fun (X : World) (hX : Below w.heap.size w X) => kernel_Run vs vg vp s g p X (hs.below hX) (hg.below hX) (hp.below hX) hs1)
  obtain ⟨sa, sc, rfl, -⟩ := hs.open
  obtain ⟨ga, gc, rfl, -⟩ := hg.open
  obtain ⟨pa, pc, rfl, -⟩ := hp.open
  clear hs hg hp hs1
  cases e1 : givensB s g
  · have HF : Hid (SaidQ s g p [] 1) := hid (Or.inl ⟨by unfold askedB; rw [e1]; rfl, rfl, rfl⟩)
    rw [e1] at HG
    clear e1
    go_enter Tryz.func60, Tryz.ntmps60
    go_wp2_with fail
    refine HG.out.mono ?_
    rintro e w1 ⟨rfl, hb1⟩
    go_wp2
    go_ret2
    exact ⟨_, _, _, rfl, HF.out, terms_nilK _, hb1⟩
  have h60 : g.length ≤ 60 := by
    have h := e1
    unfold givensB at h
    rw [Bool.and_eq_true, Bool.and_eq_true, decide_eq_true_eq] at h
    exact h.1.2
  have HP1 := hid (HP.out ⟨by omega, by omega⟩)
  rw [e1] at HG
  have HAS : Hid (askedB s g p = proofB g.length p) := hid (by unfold askedB; rw [e1]; rfl)
  clear e1 HP
  cases e2 : proofB g.length p
  · have HF : Hid (SaidQ s g p [] 1) := hid (Or.inl ⟨HAS.out.trans e2, rfl, rfl⟩)
    simp only [e2] at HP1
    clear e2
    go_enter Tryz.func60, Tryz.ntmps60
    go_wp2_with fail
    refine HG.out.mono ?_
    rintro e w1 ⟨rfl, hb1⟩
    have HB1 := hid hb1
    have K1 := hid (HP1.out w1 hb1)
    clear hb1
    go_wp2_with fail
    refine K1.out.mono ?_
    rintro e w2 ⟨rfl, hb2⟩
    go_wp2
    go_ret2
    exact ⟨_, _, _, rfl, HF.out, terms_nilK _, HB1.out.trans (hb2.mono HB1.out.size)⟩
  simp only [e2] at HP1
  have HASK := hid (HAS.out.trans e2)
  clear e2 HAS
  go_enter Tryz.func60, Tryz.ntmps60
  go_wp2_with fail
  refine HG.out.mono ?_
  rintro e w1 ⟨rfl, hb1⟩
  have HB1 := hid hb1
  have K1 := hid (HP1.out w1 hb1)
  clear hb1
  go_wp2_with fail
  refine K1.out.mono ?_
  rintro e w2 ⟨rfl, hb2⟩
  have HB2 := hid (HB1.out.trans (hb2.mono HB1.out.size))
  have K2 := hid (HR.out w2 HB2.out)
  clear hb2
  go_wp2_with fail
  refine K2.out.mono ?_
  rintro e w3 ⟨u, l, n, er, rfl, hq, hT, hb3⟩
  have HB3 := hid (HB2.out.trans (hb3.mono HB2.out.size))
  have HT := hid hT
  obtain ⟨ua, uc, rfl, -⟩ := hT.open
  have HQ : Hid (RunR s g p l er) := hid (by
    rcases hq with ⟨h, -⟩ | ⟨-, h, -⟩
    · rw [HASK.out] at h; cases h
    · exact h)
  clear hq hT hb3
  by_cases h0 : er = 0
  · subst h0
    have HF : Hid (SaidQ s g p l 0) := hid (Or.inr ⟨HASK.out, l, 0, HQ.out, Or.inl ⟨rfl, rfl, rfl⟩⟩)
    go_wp2
    go_ret2
    exact ⟨_, _, _, rfl, HF.out, HT.out, HB3.out⟩
  · have n0 : (er != 0) = true := by simpa using h0
    have HF : Hid (SaidQ s g p [] 11) := hid (Or.inr ⟨HASK.out, l, er, HQ.out, Or.inr ⟨h0, rfl, rfl⟩⟩)
    clear h0
    go_wp2
    go_ret2
    exact ⟨_, _, _, rfl, HF.out, terms_nilK _, HB3.out⟩
end Go.Proofs.YtmpjaakkjhmpmaaGreatDoor
namespace Go.Proofs.YtmpjaakkjhmpmaaGreatDoor
open Go Go.RowKit Go.Maps
theorem bools_at {b : List Bool} {i : Nat} (h : i < b.length) : (b.map Value.bool)[i]? = some (.bool (stB b i)) := by
  rw [List.getElem?_map, List.getElem?_eq_getElem h]
  unfold stB
  rw [List.getD_eq_getElem?_getD, List.getElem?_eq_getElem h]; rfl
/-- the step of a valid proof, its numbers as natural ones. -/
theorem st_at {g : Int} {p : List St} (h : proofB g p = true) {i : Nat} (hi : i < p.length) : p.getD i st0 = p[i] ∧ ((p[i].1 = 1 ∧ 0 ≤ p[i].2.1 ∧ p[i].2.1 < g) ∨ (p[i].1 = 2 ∧ p[i].2.1 = (nA p[i] : Int) ∧ p[i].2.2 = (nB p[i] : Int) ∧ nA p[i] < i ∧ nB p[i] < i)) := by
  have e : p.getD i st0 = p[i] := by rw [List.getD_eq_getElem?_getD, List.getElem?_eq_getElem hi]; rfl
  refine ⟨e, ?_⟩
  rcases right_step (proofB_at h hi) with ⟨c1, c2, c3⟩ | ⟨c1, c2, c3, c4, c5⟩
  · exact Or.inl ⟨c1, c2, c3⟩
  · exact Or.inr ⟨c1, by unfold nA; omega, by unfold nB; omega, by unfold nA; omega, by unfold nB; omega⟩
def NedQ (p : List St) (w : World) (e : Ending) (w' : World) : Prop := ∃ q, e = .returned (.slice (some ⟨q, 0, none⟩) p.length p.length) ∧ w.heap.size ≤ q ∧ w'.ownsRow w.heap.size 4 1 (.slice (some ⟨q, 0, none⟩) p.length p.length) p.length ((needL p).map Value.bool) ∧ Below w.heap.size w w'
set_option maxHeartbeats 4000000 in
set_option maxRecDepth 100000 in
theorem short_needed (g : Int) (v : Value) (p : List St) (w : World) (hp : StepsAt w v p) (hg : proofB g p = true) :
    Calls Tryz.prog 65 #[v] w fun e w' => NedQ p w e w' := by
  have h60 := proof60 hg
  have h1 := proof1 hg
  have HSA := hid (fun (i : Nat) (hi : i < p.length) => st_at hg hi)
  have HND := hid (show needL p = needF p p.length (need0 p) from rfl)
  have HN0 := hid (show need0 p = (List.replicate p.length false).set (p.length - 1) true from rfl)
  obtain ⟨pa, pc, rfl, hc, hl, -, HC⟩ := hp.open
  have HC' := hid HC
  unfold NedQ
  obtain ⟨nd, hnd⟩ : ∃ nd, needL p = nd := ⟨_, rfl⟩
  rw [hnd] at HND ⊢
  obtain ⟨n0, hn0⟩ : ∃ n0, need0 p = n0 := ⟨_, rfl⟩
  rw [hn0] at HND HN0
  obtain ⟨m, hm⟩ : ∃ m, p.length = m + 1 := ⟨p.length - 1, by omega⟩
  have HM := hid hm
  simp only [hm, Nat.add_sub_cancel] at HND HN0 hc hl h60 ⊢
  clear hnd hn0 hm hg hp HC h1
  have hw0 : IntKind.i64.wrap (((m + 1 : Nat) : Int) - 1) = m := by rw [IntWalk.i64_in _ (by omega)]; omega
  have q0 : (((m + 1 : Nat) : Int) - 1) = m := by omega
  go_enter Tryz.func65, Tryz.ntmps65
  go_wp2_with (at_make; refine wpList_make_row rfl _ _ 82 rfl w.heap.size 4 el_bool Tryz.underlying82 rfl (m + 1) rfl rfl (by omega) (by omega) (by simp) ?_; intro q w1 hq0 hq1 hown1 hgrow1; have hc1 := hown1.cellAt m (by omega); have hf1 := hown1.frozenAt m)
  have hb1 : Below w.heap.size w w1 := (Below.refl _ _).grown hgrow1 (by simp) (fun _ h => by cases h)
  have hst1 := (hown1.stored m (.bool true)).1
  have hbs1 : Below w.heap.size w (w1.setCell ⟨q, m, none⟩ (.bool true)) := hb1.setCell (p := ⟨q, m, none⟩) hq0 _
  rw [← List.map_replicate, ← List.map_set, ← HN0.out] at hst1
  have hlen0 : n0.length = m + 1 := by rw [HN0.out]; simp
  have HST := hid hst1
  have HBS := hid hbs1
  obtain ⟨W, hW⟩ : ∃ W, w1.setCell ⟨q, m, none⟩ (.bool true) = W := ⟨_, rfl⟩
  have HW := hid hW
  rw [hW] at HST HBS
  clear hown1 hgrow1 hst1 hbs1 hb1 hc1 hf1 hw0 q0
  (try rw [HW.out])
  clear hW HW
  go_loopw [4] (fun kv wr => ∃ (k : Int) (b : List Bool), -1 ≤ k ∧ k ≤ m ∧ kv = .int .i64 k ∧ b.length = m + 1 ∧ needF p (k + 1).toNat b = nd ∧ wr.ownsRow w.heap.size 4 1 (.slice (some ⟨q, 0, none⟩) (m + 1) (m + 1)) (m + 1) (b.map Value.bool) ∧ Below w.heap.size w wr) (fun kv _ => (intOf kv + 1).toNat)
  case atStart => exact ⟨m, n0, by omega, by omega, rfl, hlen0, by rw [HND.out]; congr 1, HST.out, HBS.out⟩
  case round =>
    clear HST HBS hlen0 HN0 HND
    obtain ⟨k, b, hk0, hk1, rfl, hbl, hnf, hown, hb⟩ := hrel
    by_cases hlt : 0 ≤ k
    case neg =>
      obtain rfl : k = -1 := by omega
      have e : b = nd := hnf
      subst e
      have HOWN := hid hown
      have HB := hid hb
      clear hown hb hnf
      go_wp2
      go_ret
      exact ⟨q, rfl, hq0, HOWN.out, HB.out⟩
    obtain ⟨i, rfl⟩ : ∃ i : Nat, k = i := ⟨k.toNat, by omega⟩
    have him : i < m + 1 := by omega
    have hip : i < p.length := by have := HM.out; omega
    obtain ⟨eg, hx⟩ := HSA.out i hip
    have hnf' : needF p i (mkN p[i] i b) = nd := by rw [← hnf, ← eg]; rfl
    obtain ⟨xb, xo, rfl, y0, y1, y2⟩ := HC'.out i hip
    have x0 := (hb.cell (World.block_lt_of_cell? _ _ y0)).trans y0
    have x1 := (hb.cell (World.block_lt_of_cell? _ _ y1)).trans y1
    have x2 := (hb.cell (World.block_lt_of_cell? _ _ y2)).trans y2
    obtain ⟨x, hxx⟩ : ∃ x, p[i] = x := ⟨_, rfl⟩
    rw [hxx] at x0 x1 x2 hx hnf'
    have hc1 := hown.cellAt i (by omega)
    rw [bools_at (by omega)] at hc1
    have HNF := hid hnf'
    have HOWN := hid hown
    have HB := hid hb
    have HBLN := hid hbl
    have q1 : IntKind.i64.wrap ((i : Int) - 1) = (i : Int) - 1 := IntWalk.i64_in _ (by omega)
    clear hnf hnf' hown hb hxx eg y0 y1 y2
    have skip : mkN x i b = b → ∃ (k : Int) (b : List Bool), -1 ≤ k ∧ k ≤ (m : Int) ∧ Value.int .i64 ((i : Int) - 1) = .int .i64 k ∧ b.length = m + 1 ∧ needF p (k + 1).toNat b = nd ∧ wr.ownsRow w.heap.size 4 1 (.slice (some ⟨q, 0, none⟩) (m + 1) (m + 1)) (m + 1) (b.map Value.bool) ∧ Below w.heap.size w wr := fun h =>
      ⟨(i : Int) - 1, b, by omega, by omega, rfl, HBLN.out, by rw [show ((i : Int) - 1 + 1).toNat = i by omega, ← HNF.out, h], HOWN.out, HB.out⟩
    have HSK := hid skip
    clear skip
    cases hs : stB b i
    · have HE : Hid (mkN x i b = b) := hid (by unfold mkN; rw [if_neg (fun h => by have h1 : stB b i = true := h.1; rw [hs] at h1; cases h1)])
      rw [hs] at hc1
      clear hx hs
      go_wp2
      go_roundw
      case rel => exact HSK.out HE.out
      case measure => simp [intOf]
    rw [hs] at hc1
    rcases hx with ⟨hx1, -, -⟩ | ⟨hx1, ha, hbb, ha', hb'⟩
    · have HE : Hid (mkN x i b = b) := hid (by unfold mkN; rw [if_neg (fun h => by omega)])
      rw [hx1] at x0
      clear hs hx1
      go_wp2
      go_roundw
      case rel => exact HSK.out HE.out
      case measure => simp [intOf]
    have HE : Hid (mkN x i b = (b.set (nA x) true).set (nB x) true) := hid (by unfold mkN; rw [if_pos ⟨hs, hx1⟩])
    rw [hx1] at x0
    rw [ha] at x1
    rw [hbb] at x2
    obtain ⟨A, hA⟩ : ∃ A, nA x = A := ⟨_, rfl⟩
    obtain ⟨B, hBq⟩ : ∃ B, nB x = B := ⟨_, rfl⟩
    rw [hA] at x1 ha' HE
    rw [hBq] at x2 hb' HE
    clear hA hBq ha hbb hx1 hs
    have hcA := HOWN.out.cellAt A (by omega)
    rw [bools_at (by omega)] at hcA
    have hfA := HOWN.out.frozenAt A
    have hst := (HOWN.out.stored A (.bool true)).1
    have hcB := hst.cellAt B (by omega)
    rw [← List.map_set, bools_at (by rw [List.length_set]; omega)] at hcB
    have hfB := hst.frozenAt B
    have hst2 := (hst.stored B (.bool true)).1
    rw [← List.map_set, ← List.map_set] at hst2
    have HST2 := hid hst2
    have HBS2 := hid (show Below w.heap.size w ((wr.setCell ⟨q, A, none⟩ (.bool true)).setCell ⟨q, B, none⟩ (.bool true)) from (HB.out.setCell (p := ⟨q, A, none⟩) hq0 _).setCell (p := ⟨q, B, none⟩) hq0 _)
    clear hst hst2
    go_wp2
    go_region
    go_wp2
    go_roundw
    case rel =>
      refine ⟨(i : Int) - 1, (b.set A true).set B true, by omega, by omega, rfl, by rw [List.length_set, List.length_set]; exact HBLN.out, by rw [show ((i : Int) - 1 + 1).toNat = i by omega, ← HNF.out, HE.out], ?_, ?_⟩
      · first | exact HST2.out | exact owns_below HST2.out (below_self_drewN _ _)
      · first | exact HBS2.out | exact below_drewN HBS2.out _
    case measure => simp [intOf]
end Go.Proofs.YtmpjaakkjhmpmaaGreatDoor
namespace Go.Proofs.YtmpjaakkjhmpmaaGreatDoor
open Go Go.RowKit Go.Maps
def tmA (b : List Int) (i : Nat) : Int := b.getD i 0
/-- what one step does to the numbers: sums as the machine makes them. -/
def mkT (x : St) (i : Nat) (b : List Int) : List Int := if x.1 = 2 then (b.set (nA x) (IntKind.i64.wrap (tmA b (nA x) + tmA b i))).set (nB x) (IntKind.i64.wrap (tmA (b.set (nA x) (IntKind.i64.wrap (tmA b (nA x) + tmA b i))) (nB x) + tmA (b.set (nA x) (IntKind.i64.wrap (tmA b (nA x) + tmA b i))) i)) else b
def tmF (p : List St) : Nat → List Int → List Int
  | 0, b => b
  | i + 1, b => tmF p i (mkT (p.getD i st0) i b)
def tm0 (p : List St) : List Int := (List.replicate p.length 0).set (p.length - 1) 1
def timL (p : List St) : List Int := tmF p p.length (tm0 p)
theorem tms_at {b : List Int} {i : Nat} (h : i < b.length) : (b.map (Value.int .i64))[i]? = some (.int .i64 (tmA b i)) := by
  rw [List.getElem?_map, List.getElem?_eq_getElem h]
  unfold tmA
  rw [List.getD_eq_getElem?_getD, List.getElem?_eq_getElem h]; rfl
def TmsQ (p : List St) (w : World) (e : Ending) (w' : World) : Prop := ∃ q, e = .returned (.slice (some ⟨q, 0, none⟩) p.length p.length) ∧ w.heap.size ≤ q ∧ w'.ownsRow w.heap.size 3 1 (.slice (some ⟨q, 0, none⟩) p.length p.length) p.length ((timL p).map (Value.int .i64)) ∧ Below w.heap.size w w'
set_option maxHeartbeats 4000000 in
set_option maxRecDepth 100000 in
theorem short_times (g : Int) (v : Value) (p : List St) (w : World) (hp : StepsAt w v p) (hg : proofB g p = true) :
    Calls Tryz.prog 79 #[v] w fun e w' => TmsQ p w e w' := by
  have h60 := proof60 hg
  have h1 := proof1 hg
  have HSA := hid (fun (i : Nat) (hi : i < p.length) => st_at hg hi)
  have HND := hid (show timL p = tmF p p.length (tm0 p) from rfl)
  have HN0 := hid (show tm0 p = (List.replicate p.length 0).set (p.length - 1) 1 from rfl)
  obtain ⟨pa, pc, rfl, hc, hl, -, HC⟩ := hp.open
  have HC' := hid HC
  unfold TmsQ
  obtain ⟨nd, hnd⟩ : ∃ nd, timL p = nd := ⟨_, rfl⟩
  rw [hnd] at HND ⊢
  obtain ⟨n0, hn0⟩ : ∃ n0, tm0 p = n0 := ⟨_, rfl⟩
  rw [hn0] at HND HN0
  obtain ⟨m, hm⟩ : ∃ m, p.length = m + 1 := ⟨p.length - 1, by omega⟩
  have HM := hid hm
  simp only [hm, Nat.add_sub_cancel] at HND HN0 hc hl h60 ⊢
  clear hnd hn0 hm hg hp HC h1
  have hw0 : IntKind.i64.wrap (((m + 1 : Nat) : Int) - 1) = m := by rw [IntWalk.i64_in _ (by omega)]; omega
  have q0 : (((m + 1 : Nat) : Int) - 1) = m := by omega
  go_enter Tryz.func79, Tryz.ntmps79
  go_wp2_with (at_make; refine wpList_make_row rfl _ _ 33 rfl w.heap.size 3 el_int Tryz.underlying33 rfl (m + 1) rfl rfl (by omega) (by omega) (by simp) ?_; intro q w1 hq0 hq1 hown1 hgrow1; have hc1 := hown1.cellAt m (by omega); have hf1 := hown1.frozenAt m)
  have hb1 : Below w.heap.size w w1 := (Below.refl _ _).grown hgrow1 (by simp) (fun _ h => by cases h)
  have hst1 := (hown1.stored m (.int .i64 1)).1
  have hbs1 : Below w.heap.size w (w1.setCell ⟨q, m, none⟩ (.int .i64 1)) := hb1.setCell (p := ⟨q, m, none⟩) hq0 _
  rw [← List.map_replicate, ← List.map_set, ← HN0.out] at hst1
  have hlen0 : n0.length = m + 1 := by rw [HN0.out]; simp
  have HST := hid hst1
  have HBS := hid hbs1
  obtain ⟨W, hW⟩ : ∃ W, w1.setCell ⟨q, m, none⟩ (.int .i64 1) = W := ⟨_, rfl⟩
  have HW := hid hW
  rw [hW] at HST HBS
  clear hown1 hgrow1 hst1 hbs1 hb1 hc1 hf1 hw0 q0
  (try rw [HW.out])
  clear hW HW
  go_loopw [4] (fun kv wr => ∃ (k : Int) (b : List Int), -1 ≤ k ∧ k ≤ m ∧ kv = .int .i64 k ∧ b.length = m + 1 ∧ tmF p (k + 1).toNat b = nd ∧ wr.ownsRow w.heap.size 3 1 (.slice (some ⟨q, 0, none⟩) (m + 1) (m + 1)) (m + 1) (b.map (Value.int .i64)) ∧ Below w.heap.size w wr) (fun kv _ => (intOf kv + 1).toNat)
  case atStart => exact ⟨m, n0, by omega, by omega, rfl, hlen0, by rw [HND.out]; congr 1, HST.out, HBS.out⟩
  case round =>
    clear HST HBS hlen0 HN0 HND
    obtain ⟨k, b, hk0, hk1, rfl, hbl, hnf, hown, hb⟩ := hrel
    by_cases hlt : 0 ≤ k
    case neg =>
      obtain rfl : k = -1 := by omega
      have e : b = nd := hnf
      subst e
      have HOWN := hid hown
      have HB := hid hb
      clear hown hb hnf
      go_wp2
      go_ret
      exact ⟨q, rfl, hq0, HOWN.out, HB.out⟩
    obtain ⟨i, rfl⟩ : ∃ i : Nat, k = i := ⟨k.toNat, by omega⟩
    have him : i < m + 1 := by omega
    have hip : i < p.length := by have := HM.out; omega
    obtain ⟨eg, hx⟩ := HSA.out i hip
    have hnf' : tmF p i (mkT p[i] i b) = nd := by rw [← hnf, ← eg]; rfl
    obtain ⟨xb, xo, rfl, y0, y1, y2⟩ := HC'.out i hip
    have x0 := (hb.cell (World.block_lt_of_cell? _ _ y0)).trans y0
    have x1 := (hb.cell (World.block_lt_of_cell? _ _ y1)).trans y1
    have x2 := (hb.cell (World.block_lt_of_cell? _ _ y2)).trans y2
    obtain ⟨x, hxx⟩ : ∃ x, p[i] = x := ⟨_, rfl⟩
    rw [hxx] at x0 x1 x2 hx hnf'
    have hc1 := hown.cellAt i (by omega)
    rw [tms_at (by omega)] at hc1
    have HNF := hid hnf'
    have HOWN := hid hown
    have HB := hid hb
    have HBLN := hid hbl
    have q1 : IntKind.i64.wrap ((i : Int) - 1) = (i : Int) - 1 := IntWalk.i64_in _ (by omega)
    have hxq := World.block_lt_of_cell? _ _ y0
    clear hnf hnf' hown hb hxx eg y0 y1 y2
    have skip : mkT x i b = b → ∃ (k : Int) (b : List Int), -1 ≤ k ∧ k ≤ (m : Int) ∧ Value.int .i64 ((i : Int) - 1) = .int .i64 k ∧ b.length = m + 1 ∧ tmF p (k + 1).toNat b = nd ∧ wr.ownsRow w.heap.size 3 1 (.slice (some ⟨q, 0, none⟩) (m + 1) (m + 1)) (m + 1) (b.map (Value.int .i64)) ∧ Below w.heap.size w wr := fun h =>
      ⟨(i : Int) - 1, b, by omega, by omega, rfl, HBLN.out, by rw [show ((i : Int) - 1 + 1).toNat = i by omega, ← HNF.out, h], HOWN.out, HB.out⟩
    have HSK := hid skip
    clear skip
    rcases hx with ⟨hx1, -, -⟩ | ⟨hx1, ha, hbb, ha', hb'⟩
    · have HE : Hid (mkT x i b = b) := hid (by unfold mkT; rw [if_neg (fun h => by omega)])
      rw [hx1] at x0
      clear hx1
      go_wp2
      go_roundw
      case rel => exact HSK.out HE.out
      case measure => simp [intOf]
    rw [hx1] at x0
    rw [ha] at x1
    rw [hbb] at x2
    obtain ⟨A, hA⟩ : ∃ A, nA x = A := ⟨_, rfl⟩
    obtain ⟨B, hBq⟩ : ∃ B, nB x = B := ⟨_, rfl⟩
    rw [hA] at x1 ha'
    rw [hBq] at x2 hb'
    obtain ⟨z1, hz1⟩ : ∃ z, IntKind.i64.wrap (tmA b A + tmA b i) = z := ⟨_, rfl⟩
    obtain ⟨b1, hb1⟩ : ∃ b1, b.set A z1 = b1 := ⟨_, rfl⟩
    obtain ⟨z2, hz2⟩ : ∃ z, IntKind.i64.wrap (tmA b1 B + tmA b1 i) = z := ⟨_, rfl⟩
    obtain ⟨b2, hb2⟩ : ∃ b2, b1.set B z2 = b2 := ⟨_, rfl⟩
    have HE : Hid (mkT x i b = b2) := hid (by unfold mkT; rw [if_pos hx1, hA, hBq, hz1, hb1, hz2, hb2])
    have hl1 : b1.length = m + 1 := by rw [← hb1, List.length_set]; exact HBLN.out
    have hl2 : b2.length = m + 1 := by rw [← hb2, List.length_set]; exact hl1
    have hcA := HOWN.out.cellAt A (by omega)
    rw [tms_at (by omega)] at hcA
    have hfA := HOWN.out.frozenAt A
    have hst := (HOWN.out.stored A (.int .i64 (z1))).1
    rw [← List.map_set, hb1] at hst
    have hci2 := hst.cellAt i (by omega)
    rw [tms_at (by omega)] at hci2
    have hcB := hst.cellAt B (by omega)
    rw [tms_at (by omega)] at hcB
    have hfB := hst.frozenAt B
    have hst2 := (hst.stored B (.int .i64 (z2))).1
    rw [← List.map_set, hb2] at hst2
    have HL2 := hid hl2
    have HST2 := hid hst2
    have HBS2 := hid (show Below w.heap.size w ((wr.setCell ⟨q, A, none⟩ (.int .i64 (z1))).setCell ⟨q, B, none⟩ (.int .i64 (z2))) from (HB.out.setCell (p := ⟨q, A, none⟩) hq0 _).setCell (p := ⟨q, B, none⟩) hq0 _)
    have oth : ∀ (c : Nat) (a : Addr) (v : Value), wr.cell? ⟨xb, c, none⟩ = some v → a.block = q → xb ≠ q → ∀ u, (wr.setCell a u).cell? ⟨xb, c, none⟩ = some v := fun c a v h h1 h2 u => (World.cell?_of_block (Below.heap_setCell _ _ _ _ (fun e => h2 (by rw [← h1]; exact e)))).trans h
    clear hst hst2 hA hBq ha hbb hx1 hb1 hb2 hl1 hl2
    go_wp2
    go_region
    obtain ⟨W5, hW5⟩ : ∃ W5, (wr.setCell ⟨q, A, none⟩ (.int .i64 (z1))).drew = W5 := ⟨_, rfl⟩
    have hne : xb ≠ q := by have h : xb < w.heap.size := hxq; omega
    have j2 : W5.cell? ⟨xb, xo + i * 3 + 2, none⟩ = some (.int .i64 (B : Int)) := hW5 ▸ oth _ ⟨q, A, none⟩ _ x2 rfl hne _
    have ji : W5.cell? ⟨q, i, none⟩ = some (.int .i64 (tmA b1 i)) := hW5 ▸ hci2
    have jB : W5.cell? ⟨q, B, none⟩ = some (.int .i64 (tmA b1 B)) := hW5 ▸ hcB
    have jf : W5.frozen? ⟨q, B, none⟩ = false := hW5 ▸ hfB
    rw [hW5]
    have HW5 := hid hW5
    clear hW5 hci2 hcB hfB hcA hfA x0 x1 x2 oth hc1
    go_wp2
    go_region
    go_wp2
    go_roundw
    case rel =>
      refine ⟨(i : Int) - 1, b2, by omega, by omega, rfl, HL2.out, by rw [show ((i : Int) - 1 + 1).toNat = i by omega, ← HNF.out, HE.out], ?_, ?_⟩
      · rw [← HW5.out]; exact owns_below HST2.out (below_self_drewN _ 2)
      · rw [← HW5.out]; exact below_drewN HBS2.out 2
    case measure => simp [intOf]
end Go.Proofs.YtmpjaakkjhmpmaaGreatDoor
namespace Go.Proofs.YtmpjaakkjhmpmaaGreatDoor
open Go Go.RowKit Go.Maps
set_option maxHeartbeats 4000000 in
set_option maxRecDepth 100000 in
theorem ref7_times (g : Int) (v : Value) (p : List St) (w : World) (hp : StepsAt w v p) (hg : proofB g p = true) :
    Calls Tryz.prog 74 #[v] w fun e w' => TmsQ p w e w' := by
  have h60 := proof60 hg
  have h1 := proof1 hg
  have HSA := hid (fun (i : Nat) (hi : i < p.length) => st_at hg hi)
  have HND := hid (show timL p = tmF p p.length (tm0 p) from rfl)
  have HN0 := hid (show tm0 p = (List.replicate p.length 0).set (p.length - 1) 1 from rfl)
  obtain ⟨pa, pc, rfl, hc, hl, -, HC⟩ := hp.open
  have HC' := hid HC
  unfold TmsQ
  obtain ⟨nd, hnd⟩ : ∃ nd, timL p = nd := ⟨_, rfl⟩
  rw [hnd] at HND ⊢
  obtain ⟨n0, hn0⟩ : ∃ n0, tm0 p = n0 := ⟨_, rfl⟩
  rw [hn0] at HND HN0
  obtain ⟨m, hm⟩ : ∃ m, p.length = m + 1 := ⟨p.length - 1, by omega⟩
  have HM := hid hm
  simp only [hm, Nat.add_sub_cancel] at HND HN0 hc hl h60 ⊢
  clear hnd hn0 hm hg hp HC h1
  have hw0 : IntKind.i64.wrap (((m + 1 : Nat) : Int) - 1) = m := by rw [IntWalk.i64_in _ (by omega)]; omega
  have q0 : (((m + 1 : Nat) : Int) - 1) = m := by omega
  go_enter Tryz.func74, Tryz.ntmps74
  go_wp2_with (at_make; refine wpList_make_row rfl _ _ 33 rfl w.heap.size 3 el_int Tryz.underlying33 rfl (m + 1) rfl rfl (by omega) (by omega) (by simp) ?_; intro q w1 hq0 hq1 hown1 hgrow1; have hc1 := hown1.cellAt m (by omega); have hf1 := hown1.frozenAt m)
  have hb1 : Below w.heap.size w w1 := (Below.refl _ _).grown hgrow1 (by simp) (fun _ h => by cases h)
  have hst1 := (hown1.stored m (.int .i64 1)).1
  have hbs1 : Below w.heap.size w (w1.setCell ⟨q, m, none⟩ (.int .i64 1)) := hb1.setCell (p := ⟨q, m, none⟩) hq0 _
  rw [← List.map_replicate, ← List.map_set, ← HN0.out] at hst1
  have hlen0 : n0.length = m + 1 := by rw [HN0.out]; simp
  have HST := hid hst1
  have HBS := hid hbs1
  obtain ⟨W, hW⟩ : ∃ W, w1.setCell ⟨q, m, none⟩ (.int .i64 1) = W := ⟨_, rfl⟩
  have HW := hid hW
  rw [hW] at HST HBS
  clear hown1 hgrow1 hst1 hbs1 hb1 hc1 hf1 hw0 q0
  (try rw [HW.out])
  clear hW HW
  go_loopw [4] (fun kv wr => ∃ (k : Int) (b : List Int), -1 ≤ k ∧ k ≤ m ∧ kv = .int .i64 k ∧ b.length = m + 1 ∧ tmF p (k + 1).toNat b = nd ∧ wr.ownsRow w.heap.size 3 1 (.slice (some ⟨q, 0, none⟩) (m + 1) (m + 1)) (m + 1) (b.map (Value.int .i64)) ∧ Below w.heap.size w wr) (fun kv _ => (intOf kv + 1).toNat)
  case atStart => exact ⟨m, n0, by omega, by omega, rfl, hlen0, by rw [HND.out]; congr 1, HST.out, HBS.out⟩
  case round =>
    clear HST HBS hlen0 HN0 HND
    obtain ⟨k, b, hk0, hk1, rfl, hbl, hnf, hown, hb⟩ := hrel
    by_cases hlt : 0 ≤ k
    case neg =>
      obtain rfl : k = -1 := by omega
      have e : b = nd := hnf
      subst e
      have HOWN := hid hown
      have HB := hid hb
      clear hown hb hnf
      go_wp2
      go_ret
      exact ⟨q, rfl, hq0, HOWN.out, HB.out⟩
    obtain ⟨i, rfl⟩ : ∃ i : Nat, k = i := ⟨k.toNat, by omega⟩
    have him : i < m + 1 := by omega
    have hip : i < p.length := by have := HM.out; omega
    obtain ⟨eg, hx⟩ := HSA.out i hip
    have hnf' : tmF p i (mkT p[i] i b) = nd := by rw [← hnf, ← eg]; rfl
    obtain ⟨xb, xo, rfl, y0, y1, y2⟩ := HC'.out i hip
    have x0 := (hb.cell (World.block_lt_of_cell? _ _ y0)).trans y0
    have x1 := (hb.cell (World.block_lt_of_cell? _ _ y1)).trans y1
    have x2 := (hb.cell (World.block_lt_of_cell? _ _ y2)).trans y2
    obtain ⟨x, hxx⟩ : ∃ x, p[i] = x := ⟨_, rfl⟩
    rw [hxx] at x0 x1 x2 hx hnf'
    have hc1 := hown.cellAt i (by omega)
    rw [tms_at (by omega)] at hc1
    have HNF := hid hnf'
    have HOWN := hid hown
    have HB := hid hb
    have HBLN := hid hbl
    have q1 : IntKind.i64.wrap ((i : Int) - 1) = (i : Int) - 1 := IntWalk.i64_in _ (by omega)
    have hxq := World.block_lt_of_cell? _ _ y0
    clear hnf hnf' hown hb hxx eg y0 y1 y2
    have skip : mkT x i b = b → ∃ (k : Int) (b : List Int), -1 ≤ k ∧ k ≤ (m : Int) ∧ Value.int .i64 ((i : Int) - 1) = .int .i64 k ∧ b.length = m + 1 ∧ tmF p (k + 1).toNat b = nd ∧ wr.ownsRow w.heap.size 3 1 (.slice (some ⟨q, 0, none⟩) (m + 1) (m + 1)) (m + 1) (b.map (Value.int .i64)) ∧ Below w.heap.size w wr := fun h =>
      ⟨(i : Int) - 1, b, by omega, by omega, rfl, HBLN.out, by rw [show ((i : Int) - 1 + 1).toNat = i by omega, ← HNF.out, h], HOWN.out, HB.out⟩
    have HSK := hid skip
    clear skip
    rcases hx with ⟨hx1, -, -⟩ | ⟨hx1, ha, hbb, ha', hb'⟩
    · have HE : Hid (mkT x i b = b) := hid (by unfold mkT; rw [if_neg (fun h => by omega)])
      rw [hx1] at x0
      clear hx1
      go_wp2
      go_roundw
      case rel => exact HSK.out HE.out
      case measure => simp [intOf]
    rw [hx1] at x0
    rw [ha] at x1
    rw [hbb] at x2
    obtain ⟨A, hA⟩ : ∃ A, nA x = A := ⟨_, rfl⟩
    obtain ⟨B, hBq⟩ : ∃ B, nB x = B := ⟨_, rfl⟩
    rw [hA] at x1 ha'
    rw [hBq] at x2 hb'
    obtain ⟨z1, hz1⟩ : ∃ z, IntKind.i64.wrap (tmA b A + tmA b i) = z := ⟨_, rfl⟩
    obtain ⟨b1, hb1⟩ : ∃ b1, b.set A z1 = b1 := ⟨_, rfl⟩
    obtain ⟨z2, hz2⟩ : ∃ z, IntKind.i64.wrap (tmA b1 B + tmA b1 i) = z := ⟨_, rfl⟩
    obtain ⟨b2, hb2⟩ : ∃ b2, b1.set B z2 = b2 := ⟨_, rfl⟩
    have HE : Hid (mkT x i b = b2) := hid (by unfold mkT; rw [if_pos hx1, hA, hBq, hz1, hb1, hz2, hb2])
    have hl1 : b1.length = m + 1 := by rw [← hb1, List.length_set]; exact HBLN.out
    have hl2 : b2.length = m + 1 := by rw [← hb2, List.length_set]; exact hl1
    have hcA := HOWN.out.cellAt A (by omega)
    rw [tms_at (by omega)] at hcA
    have hfA := HOWN.out.frozenAt A
    have hst := (HOWN.out.stored A (.int .i64 (z1))).1
    rw [← List.map_set, hb1] at hst
    have hci2 := hst.cellAt i (by omega)
    rw [tms_at (by omega)] at hci2
    have hcB := hst.cellAt B (by omega)
    rw [tms_at (by omega)] at hcB
    have hfB := hst.frozenAt B
    have hst2 := (hst.stored B (.int .i64 (z2))).1
    rw [← List.map_set, hb2] at hst2
    have HL2 := hid hl2
    have HST2 := hid hst2
    have HBS2 := hid (show Below w.heap.size w ((wr.setCell ⟨q, A, none⟩ (.int .i64 (z1))).setCell ⟨q, B, none⟩ (.int .i64 (z2))) from (HB.out.setCell (p := ⟨q, A, none⟩) hq0 _).setCell (p := ⟨q, B, none⟩) hq0 _)
    have oth : ∀ (c : Nat) (a : Addr) (v : Value), wr.cell? ⟨xb, c, none⟩ = some v → a.block = q → xb ≠ q → ∀ u, (wr.setCell a u).cell? ⟨xb, c, none⟩ = some v := fun c a v h h1 h2 u => (World.cell?_of_block (Below.heap_setCell _ _ _ _ (fun e => h2 (by rw [← h1]; exact e)))).trans h
    clear hst hst2 hA hBq ha hbb hx1 hb1 hb2 hl1 hl2
    go_wp2
    go_region
    obtain ⟨W5, hW5⟩ : ∃ W5, (wr.setCell ⟨q, A, none⟩ (.int .i64 (z1))).drew = W5 := ⟨_, rfl⟩
    have hne : xb ≠ q := by have h : xb < w.heap.size := hxq; omega
    have j2 : W5.cell? ⟨xb, xo + i * 3 + 2, none⟩ = some (.int .i64 (B : Int)) := hW5 ▸ oth _ ⟨q, A, none⟩ _ x2 rfl hne _
    have ji : W5.cell? ⟨q, i, none⟩ = some (.int .i64 (tmA b1 i)) := hW5 ▸ hci2
    have jB : W5.cell? ⟨q, B, none⟩ = some (.int .i64 (tmA b1 B)) := hW5 ▸ hcB
    have jf : W5.frozen? ⟨q, B, none⟩ = false := hW5 ▸ hfB
    rw [hW5]
    have HW5 := hid hW5
    clear hW5 hci2 hcB hfB hcA hfA x0 x1 x2 oth hc1
    go_wp2
    go_region
    go_wp2
    go_roundw
    case rel =>
      refine ⟨(i : Int) - 1, b2, by omega, by omega, rfl, HL2.out, by rw [show ((i : Int) - 1 + 1).toNat = i by omega, ← HNF.out, HE.out], ?_, ?_⟩
      · rw [← HW5.out]; exact owns_below HST2.out (below_self_drewN _ 2)
      · rw [← HW5.out]; exact below_drewN HBS2.out 2
    case measure => simp [intOf]
end Go.Proofs.YtmpjaakkjhmpmaaGreatDoor
namespace Go.Proofs.YtmpjaakkjhmpmaaGreatDoor
open Go Go.RowKit
end Go.Proofs.YtmpjaakkjhmpmaaGreatDoor
namespace Go.Proofs.YtmpjaakkjhmpmaaGreatDoor
open Go Go.RowKit Go.Maps
end Go.Proofs.YtmpjaakkjhmpmaaGreatDoor
namespace Go.Proofs.YtmpjaakkjhmpmaaGreatDoor
open Go Go.RowKit
end Go.Proofs.YtmpjaakkjhmpmaaGreatDoor
namespace Go.Proofs.YtmpjaakkjhmpmaaGreatDoor
open Go Go.RowKit Go.Maps
set_option maxHeartbeats 1000000 in
theorem ref7_valid (g : Int) (v : Value) (p : List St) (w : World) (hp : StepsAt w v p) :
    Calls Tryz.prog 58 #[.int .i64 g, v] w fun e w' => e = .returned (.bool (vldB g p)) ∧ Below w.heap.size w w' := by
  have HV := hid (fun (h : 0 ≤ g ∧ g ≤ 60) => ref4_ValidProof g v p w h hp)
  obtain ⟨a, cap, rfl, -⟩ := hp.open
  clear hp
  by_cases h1 : 0 ≤ g
  case neg =>
    have HF : Hid (vldB g p = false) := hid (by unfold vldB; rw [inB_false.2 (Or.inl (by omega))]; rfl)
    clear HV
    go_enter Tryz.func58, Tryz.ntmps58
    go_wp2
    go_ret
    exact ⟨ret_bool HF.out.symm, Below.refl _ _⟩
  by_cases h2 : g ≤ 60
  case neg =>
    have HF : Hid (vldB g p = false) := hid (by unfold vldB; rw [inB_false.2 (Or.inr (by omega))]; rfl)
    clear HV
    go_enter Tryz.func58, Tryz.ntmps58
    go_wp2
    go_ret
    exact ⟨ret_bool HF.out.symm, Below.refl _ _⟩
  have HK := hid (HV.out ⟨by omega, by omega⟩)
  have HF : Hid (vldB g p = proofB g p) := hid (by unfold vldB; rw [inB_true.2 ⟨by omega, by omega⟩]; rfl)
  clear HV
  go_enter Tryz.func58, Tryz.ntmps58
  go_wp2_with fail
  refine HK.out.mono ?_
  rintro e w1 ⟨rfl, hb1⟩
  go_wp2
  go_ret
  exact ⟨ret_bool HF.out.symm, hb1⟩
end Go.Proofs.YtmpjaakkjhmpmaaGreatDoor
