/-
  WHAT IT HOLDS: a region that draws its order, in a round of a loop over a function: one walk of the lexical order serves. Over any program. No condition.
-/
import Derived.BigQuiet
import Derived.OrdersIn
import Derived.Test.YtpflkjldapmgdaaGreatZRCarryConverse6
namespace Go.Proofs.YtpflkjldapmgdaaGreat
open Go
def noDefer (o : Oper) : Bool := match o.op with
  | .defer _ => false
  | _ => true
theorem noDefer_ne {o : Oper} (h : noDefer o = true) : ∀ c, o.op ≠ .defer c := by
  intro c e
  unfold noDefer at h
  rw [e] at h
  cases h
theorem wpInR_of_quiet {P : Program} {C : World → Prop} {o : Oper} {a : Act} {K : Act → Prop} {K' : Act → World → Prop} {Q' : Exit → Act → World → Prop} {w : World} {l n : Nat} (hd : noDefer o = true) (hw : C w) (h : ∀ a w', C w' → K a → K' a w') (hh : o.quiet P a C K) :
    o.wpIn (Fence.wide.inRound l) n P a w K' Q' := by
  obtain ⟨v, h1, h2⟩ := hh
  have h3 := h1 w hw
  unfold Oper.quietAt at h3
  unfold Oper.wpIn
  refine ⟨fun _ _ => trivial, ?_⟩
  rw [Oper.semAt_eq _ _ _ (noDefer_ne hd)]
  generalize (execOp a.eval o).run P w = r at *
  cases r with
  | ok x w' =>
    cases x <;> simp only [Oper.quietUpon] at h3 <;> simp only [Oper.uponIn]
    case value u =>
      obtain ⟨e1, e2⟩ := h3
      rw [e1, e2]
      exact h _ _ hw h2
    case skip =>
      obtain ⟨e1, e2⟩ := h3
      rw [e1, ← e2]
      exact h _ _ hw h2
    case enter f args =>
      obtain ⟨e1, hc⟩ := h3
      rw [e1]
      refine ⟨fun hx => (by cases hx), ?_⟩
      refine (callsIn_wide (n := n - 1)).2 (Calls.mono hc ?_)
      rintro e w'' ⟨rfl, hw''⟩
      exact h _ _ hw'' h2
  | halt x w' => simp only [Oper.quietUpon] at h3
theorem wpOpInR_of_qOp {P : Program} {C : World → Prop} {ops : Array Oper} {i : Nat} {a : Act} {K : Act → Prop} {K' : Act → World → Prop} {Q' : Exit → Act → World → Prop} {w : World} {l n : Nat} (hd : ∀ o ∈ ops, noDefer o = true) (hC : C w) (h : ∀ a w', C w' → K a → K' a w') (hh : qOp P ops C i K a) :
    wpOpIn (Fence.wide.inRound l) n P ops Q' i K' a w := by
  unfold qOp at hh
  unfold wpOpIn
  split
  · rename_i ho; simp only [ho] at hh; exact h _ _ hC hh
  · rename_i o ho
    simp only [ho] at hh
    split
    · rename_i hw; simp only [hw, if_true] at hh; exact wpInR_of_quiet (hd o (Array.mem_of_getElem? ho)) hC h hh
    · rename_i hw; simp only [hw] at hh; exact ⟨fun _ _ => trivial, h _ _ hC hh⟩
theorem wpAnyInR_of_quiet {P : Program} {C : World → Prop} {md : Region.Mode} {ops : Array Oper} {Q : Act → Prop} {Q' : Exit → Act → World → Prop} {l n : Nat} (hd : ∀ o ∈ ops, noDefer o = true) (hQ : ∀ a w, C w → Q a → Q' .normal a w) : ∀ (fuel : Nat) (listed : Array Bool) (a : Act) (w : World), C w →
    wpAnyQ P md ops C Q fuel listed a → wpAnyIn (Fence.wide.inRound l) n P md ops Q' fuel listed a w
  | 0, _, _, _, hw, h => ⟨h.1, hQ _ _ hw h.2⟩
  | fuel + 1, _, _, _, hw, h => ⟨fun h0 => hQ _ _ hw (h.1 h0), fun i hi => wpOpInR_of_qOp hd hw (fun a' w' hw' => wpAnyInR_of_quiet hd hQ fuel _ a' w' hw') (h.2 i hi)⟩
/-- the region in a round: only reads and quiet calls. -/
theorem wpIn_region_quiet_round {P : Program} {id l n : Nat} {Q : Exit → Act → World → Prop} {a : Act} {w : World} {ls : List Oper} (hm : P.follows .mixedOrders = true) (hB : Region.lexB .any ls.toArray = true) (hd : ls.all noDefer = true)
    (h : wpQuiet P ls.toArray (fun w' => ∃ n, w' = w.drewN n) (fun a' => ∀ w', (∃ n, w' = w.drewN n) → Q .normal a' w') ls a) : (Code.region id ls.toArray true).wpIn (Fence.wide.inRound l) n P Q a w := by
  simp only [Region.lexB, Bool.and_eq_true] at hB
  refine wpIn_region_any hm (wpAnyInR_of_quiet (C := fun w' => ∃ n, w' = w.drewN n) (Q := fun a' => ∀ w', (∃ n, w' = w.drewN n) → Q .normal a' w') ?_ (fun _ w' hw' h => h w' hw') _ _ _ _ ⟨1, rfl⟩ ?_)
  · intro o ho
    exact List.all_eq_true.1 hd o (by simpa using ho)
  · have := wpAnyQ_lex (C := fun w' => ∃ n, w' = w.drewN n) (md := .any) hB.1 ls 0 (Array.replicate ls.toArray.size false) a (by simp) (by simpa using hB.2) (by simpa using h)
    simpa using this
end Go.Proofs.YtpflkjldapmgdaaGreat
