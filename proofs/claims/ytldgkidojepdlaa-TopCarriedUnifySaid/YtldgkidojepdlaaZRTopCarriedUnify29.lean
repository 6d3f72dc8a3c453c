/-
  WHAT IT HOLDS: 'a slice value reads as these binds' (BindsAt), and how it is opened and kept. Over any program. No condition.
-/
import Derived.Test.YtldgkidojepdlaaZRTopCarriedUnify5
namespace Go.Proofs.Ytldgkidojepdlaa
open Go Go.RowKit
abbrev BV := Int × Value × List Int
def biC (bs : List BV) : List Value := bs.flatMap fun b => [.int .i64 b.1, b.2.1]
def biP (bs : List BV) : List (Int × List Int) := bs.map fun b => (b.1, b.2.2)
theorem biC_len (bs : List BV) : (biC bs).length = bs.length * 2 := by
  induction bs with
  | nil => rfl
  | cons b bs ih => simp [biC] at ih ⊢; omega
theorem biC_snoc (bs : List BV) (b : BV) : biC (bs ++ [b]) = biC bs ++ [.int .i64 b.1, b.2.1] := by simp [biC]
theorem biP_snoc (bs : List BV) (b : BV) : biP (bs ++ [b]) = biP bs ++ [(b.1, b.2.2)] := by simp [biP]
theorem biP_len (bs : List BV) : (biP bs).length = bs.length := by simp [biP]
theorem biC_get (bs : List BV) : ∀ (j : Nat) (h : j < bs.length), (biC bs)[j * 2]? = some (.int .i64 bs[j].1) ∧ (biC bs)[j * 2 + 1]? = some bs[j].2.1 := by
  induction bs with
  | nil => intro j h; simp at h
  | cons x r ih =>
    intro j h
    cases j with
    | zero => simp [biC]
    | succ j =>
      have := ih j (by simpa using h)
      simpa [biC, Nat.add_mul, Nat.add_assoc] using this
def BindsV (w : World) (v : Value) (bs : List BV) : Prop := RowK w v 2 bs.length (biC bs) ∧ ∀ x ∈ bs, Ints w x.2.1 x.2.2
def BindsAt (w : World) (v : Value) (l : List (Int × List Int)) : Prop := ∃ bs, BindsV w v bs ∧ biP bs = l
theorem BindsV.below {w w' : World} {v : Value} {bs : List BV} (h : BindsV w v bs) (hb : Below w.heap.size w w') : BindsV w' v bs := ⟨h.1.below hb, fun x hx => (h.2 x hx).below hb⟩
theorem BindsAt.below {w w' : World} {v : Value} {l : List (Int × List Int)} (h : BindsAt w v l) (hb : Below w.heap.size w w') : BindsAt w' v l := by
  obtain ⟨bs, h1, h2⟩ := h; exact ⟨bs, h1.below hb, h2⟩
theorem BindsAt.drewN {w : World} {v : Value} {l : List (Int × List Int)} (h : BindsAt w v l) (n : Nat) : BindsAt (w.drewN n) v l := h.below (below_self_drewN w n)
theorem BindsAt.open {w : World} {v : Value} {l : List (Int × List Int)} (h : BindsAt w v l) :
    ∃ a cap, v = .slice a l.length cap ∧ l.length ≤ cap ∧ l.length ≤ 140737488355328 ∧ (a = none → cap = 0) ∧
      ∀ j (h : j < l.length), ∃ b o u, a = some ⟨b, o, none⟩ ∧ w.cell? ⟨b, o + j * 2, none⟩ = some (.int .i64 l[j].1) ∧ w.cell? ⟨b, o + j * 2 + 1, none⟩ = some u ∧ Ints w u l[j].2 := by
  obtain ⟨bs, ⟨⟨_, a, cap, h2, h3, h4, h5, h6⟩, h7⟩, rfl⟩ := h
  have hlen := biP_len bs
  refine ⟨a, cap, by rw [hlen]; exact h2, by omega, by omega, h5, fun j hj' => ?_⟩
  have hj : j < bs.length := by omega
  have hc := biC_get bs j hj
  obtain ⟨b, o, h8, h9⟩ := h6 _ _ hc.1
  obtain ⟨b', o', h10, h11⟩ := h6 _ _ hc.2
  rw [h8] at h10
  cases h10
  refine ⟨b, o, _, h8, ?_, by rw [Nat.add_assoc]; exact h11, ?_⟩
  · simpa [biP] using h9
  · simpa [biP] using h7 _ (List.getElem_mem hj)
theorem BindsAt.of_owns {w : World} {base : Nat} {e : TypeId} {v : Value} {bs : List BV} (h : w.ownsRow base e 2 v bs.length (biC bs)) (hn : bs.length ≤ 140737488355328) (hi : ∀ x ∈ bs, Ints w x.2.1 x.2.2) : BindsAt w v (biP bs) := ⟨bs, ⟨RowK.of_owns h hn, hi⟩, rfl⟩
theorem chainW {P : Program} {f : FuncId} {args : Array Value} {WB W : World} {R : Ending → Prop} (hb : Below WB.heap.size WB W) (h : Calls P f args W fun e w' => R e ∧ Below W.heap.size W w') : Calls P f args W fun e w' => R e ∧ Below WB.heap.size WB w' :=
  h.mono fun _ _ ⟨h1, h2⟩ => ⟨h1, hb.trans (h2.mono hb.size)⟩
end Go.Proofs.Ytldgkidojepdlaa
