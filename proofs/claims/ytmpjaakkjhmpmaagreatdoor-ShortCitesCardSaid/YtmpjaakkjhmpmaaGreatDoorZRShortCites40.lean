/-
  WHAT IT HOLDS: own law: a region of a round's body that draws its order is walked as any other region. Over any program. No condition.
  WHAT IT HOLDS: own laws for a region that draws its order, reads some cells beside calls, and writes some of them: what some reads need (S) is to hold only until a named operation (the first write) has come up, what others need (T) holds all along. Over any program. No condition.
-/
import Derived.RangeFuncCalls
import Derived.OwnWalkIn
import Derived.OrdersIn
import Derived.Deep.RegionHeld3
import Derived.Test.YtmpjaakkjhmpmaaGreatDoorZRShortCites31
namespace Go.Proofs.YtmpjaakkjhmpmaaGreatDoor
open Go
section
variable {P : Program} {ops : Array Oper} {Q : Exit → Act → World → Prop} {S : World → Prop} {k : Nat}
theorem rows_in {l n : Nat} {row : String} {args : Array Value} {w : World} {R : Value → World → Prop} (h : Rows P row args w R) : RowsIn (Fence.wide.inRound l) n P row args w R := fun c cs _ => by
  obtain ⟨v, w', r, s⟩ := h c cs
  exact ⟨v, w', r, stepsIn_wide.2 s⟩
theorem op_in {l n : Nat} {o : Oper} {a : Act} {w : World} {K K' : Act → World → Prop} (hd : ∀ c, o.op ≠ .defer c) (hK : ∀ a w, K a w → K' a w) (h : o.wp P a w K Q) : o.wpIn (Fence.wide.inRound l) n P a w K' Q := by
  refine ⟨fun _ _ => trivial, ?_⟩
  rw [Oper.semAt_plain _ _ _ hd]
  unfold Oper.wp at h
  generalize (execOp a.eval o).run P w = r at h ⊢
  cases r with
  | ok x w' =>
    cases x with
    | value v => exact hK _ _ h
    | skip => exact hK _ _ h
    | defer d => exact hK _ _ h
    | enter f args => exact ⟨fun hx => (by cases hx), CallsIn.inRound l (callsIn_wide.2 (Calls.mono h (fun e w'' he => by cases e <;> first | exact hK _ _ he | exact he)))⟩
    | row row args => exact ⟨fun hx => (by cases hx), rows_in (Rows.mono h fun v w'' hv => hK _ _ hv)⟩
    | _ => exact h.elim
  | halt hh =>
    cases hh with
    | panic v => exact h
    | _ => exact h.elim
theorem any_in (hQ : ¬ LetsOut Q) (hd : ∀ (i : Nat) (o : Oper), ops[i]? = some o → ∀ c, o.op ≠ .defer c) {md : Region.Mode} {l n : Nat} : ∀ (fuel : Nat) (listed : Array Bool) (a : Act) (w : World), wpAny P md ops Q fuel listed a w → wpAnyIn (Fence.wide.inRound l) n P md ops Q fuel listed a w
  | 0, _, _, _, h => h
  | fuel + 1, listed, a, w, h => ⟨h.1, fun i hi => by
      have h2 := h.2 i hi
      unfold wpOp at h2
      unfold wpOpIn
      cases e : ops[i]? with
      | none => rw [e] at h2; exact any_in hQ hd fuel _ a w h2
      | some o =>
        rw [e] at h2
        dsimp only at h2 ⊢
        by_cases hw : Region.wanted o (yielded ops a.tmps) = true
        · rw [if_pos hw] at h2 ⊢
          rcases h2 with h2 | ⟨-, h2⟩
          · exact op_in (hd i o e) (fun a w h => any_in hQ hd fuel _ a w h) h2
          · exact absurd h2 hQ
        · rw [if_neg hw] at h2 ⊢
          exact ⟨fun _ _ => trivial, any_in hQ hd fuel _ _ w h2⟩⟩
def isDefer (o : Oper) : Bool := match o.op with | .defer _ => true | _ => false
theorem no_defer {ops : Array Oper} (h : ops.all (fun o => !isDefer o) = true) : ∀ (i : Nat) (o : Oper), ops[i]? = some o → ∀ c, o.op ≠ .defer c := fun i o hi c e => by
  have h1 := Array.all_eq_true.1 h i (Array.getElem?_eq_some_iff.1 hi).1
  rw [(Array.getElem?_eq_some_iff.1 hi).2] at h1
  unfold isDefer at h1
  rw [e] at h1
  cases h1
theorem anyK.beginIn {id l n : Nat} {a : Act} {w : World} (hm : P.follows .mixedOrders = true) (hd : ops.all (fun o => !isDefer o) = true) (hS : S w.drew)
    (h : S w.drew → anyK P .any ops (fun e a w => e ≠ .outgrown ∧ Q e a w) S k ops.size (Array.replicate ops.size false) a w.drew) : (Code.region id ops true).wpIn (Fence.wide.inRound l) n P Q a w :=
  wpIn_mono (wpIn_region_any hm (any_in (fun h0 => by obtain ⟨_, _, h1, -⟩ := h0; exact h1 rfl) (no_defer hd) _ _ _ _ (h hS).plain)) fun _ _ _ h => h.2
end
end Go.Proofs.YtmpjaakkjhmpmaaGreatDoor
namespace Go.Proofs.YtmpjaakkjhmpmaaGreatDoor
open Go
section
variable {P : Program} {ops : Array Oper} {Q : Exit → Act → World → Prop} {md : Region.Mode} {S T : World → Prop} {k : Nat}
/-- the rest of a region in whatever order; S holds behind each operation as long as number k has not come up. -/
def anyT (P : Program) (md : Region.Mode) (ops : Array Oper) (Q : Exit → Act → World → Prop) (T S : World → Prop) (k : Nat) : Nat → Array Bool → Act → World → Prop
  | 0, done, a, w => Region.ready md ops done = [] ∧ Q .normal a w
  | n + 1, done, a, w => (Region.ready md ops done = [] → Q .normal a w) ∧ ∀ j, j ∈ Region.ready md ops done →
      wpOp P ops Q j (fun b v => (T v ∧ ((done.setIfInBounds j true).getD k true = false → S v)) ∧ anyT P md ops Q T S k n (done.setIfInBounds j true) b v) a w
theorem anyT.plain : ∀ {n : Nat} {done : Array Bool} {a : Act} {w : World}, anyT P md ops Q T S k n done a w → wpAny P md ops Q n done a w := by
  intro n
  induction n with
  | zero => intro done a w h; exact h
  | succ n ih => intro done a w h; exact ⟨h.1, fun j hj => wpOp_mono (fun b v hb => ih hb.2) (h.2 j hj)⟩
theorem anyT.begin {id : Nat} {a : Act} {w : World} (hm : P.follows .mixedOrders = true) (h : anyT P .any ops Q T S k ops.size (Array.replicate ops.size false) a w.drew) : (Code.region id ops true).wp P Q a w :=
  wp_region_any hm h.plain
theorem anyT.done {done : Array Bool} {a : Act} {w : World} (hr : Region.ready md ops done = []) (h : Q .normal a w) (n : Nat) : anyT P md ops Q T S k n done a w := by
  cases n with
  | zero => exact ⟨hr, h⟩
  | succ n => exact ⟨fun _ => h, fun j hj => by rw [hr] at hj; cases hj⟩
/-- an operation that yields one value wherever S holds, and for which number k waits, may be taken first. -/
theorem anyT.first {i : Nat} {oi : Oper} {v : Value} (hi : ops[i]? = some oi) (hs : Region.noSelect ops = true) (hQ : ∀ c a w, Q (.panic c) (a.put oi.dst v) w → Q (.panic c) a w) (hk : waitsK md ops k i = true) :
    ∀ (n : Nat) (done : Array Bool) (a : Act) (w : World), Region.free md ops done i = true → i ∈ Region.ready md ops done → done.getD k true = false → i ≠ k → YieldsIf P ops S oi v a → T w → S w →
      anyT P md ops Q T S k n (done.setIfInBounds i true) (a.put oi.dst v) w → anyT P md ops Q T S k (n + 1) done a w := by
  have hsel := Region.noSelect_spec hs
  have key : ∀ (n : Nat) (done : Array Bool) (a : Act) (w : World), (∀ j oj, ops[j]? = some oj → j ≠ i → done.getD j true = false → (∀ e ∈ oj.after, Region.binds md e = true → e.on ≠ i) → oi.apart ops oj = true) →
      i ∈ Region.ready md ops done → done.getD k true = false → i ≠ k → YieldsIf P ops S oi v a → T w → S w →
      anyT P md ops Q T S k n (done.setIfInBounds i true) (a.put oi.dst v) w → anyT P md ops Q T S k (n + 1) done a w := by
    intro n
    induction n with
    | zero =>
      intro done a w _ hr hdk hik hy hT hS H
      refine ⟨fun h => (by rw [h] at hr; cases hr), fun j hj => ?_⟩
      by_cases e : j = i
      · subst e
        exact hy.wpOp hi hS ⟨⟨hT, fun _ => hS⟩, H⟩
      · have h0 := ready_mono hj e
        rw [H.1] at h0
        cases h0
    | succ n ih =>
      intro done a w hf hr hdk hik hy hT hS H
      refine ⟨fun h => (by rw [h] at hr; cases hr), fun j hj => ?_⟩
      by_cases e : j = i
      · subst e
        exact hy.wpOp hi hS ⟨⟨hT, fun _ => hS⟩, H⟩
      obtain ⟨ju, oj, hoj, hw⟩ := mem_ready.1 hj
      have iu := (mem_ready.1 hr).1
      -- j does not wait for i, so j is not k
      have hjw : ∀ d ∈ oj.after, Region.binds md d = true → d.on ≠ i := by
        intro d hd hb he
        have h1 := hw d hd hb
        rw [he] at h1
        by_cases hsz : i < done.size
        · simp [hsz] at iu h1
          rw [iu] at h1; cases h1
        · simp [Array.getElem?_eq_none (Nat.le_of_not_lt hsz)] at h1
      have hjk : j ≠ k := by
        rintro rfl
        unfold waitsK at hk
        rw [hoj] at hk
        simp only [Array.any_eq_true] at hk
        obtain ⟨q, hq, hb⟩ := hk
        simp only [Bool.and_eq_true, beq_iff_eq] at hb
        exact hjw _ (Array.getElem_mem hq) hb.1 hb.2
      have hdk' : (done.setIfInBounds j true).getD k true = false := by rw [getD_set_ne true hjk]; exact hdk
      have hdi : ((done.setIfInBounds i true).setIfInBounds j true).getD k true = false := by
        rw [getD_set_ne true hjk, getD_set_ne true hik]; exact hdk
      have hj' := H.2 j (ready_mono hj e)
      have step := wpOp_putIf hoj (hf j oj hoj e ju hjw) (fun cs b => hsel i oi cs b hi) (fun cs b => hsel j oj cs b hoj) hQ hy hj'
      refine wpOp_mono (fun b u h => ?_) step
      obtain ⟨hyb, ⟨hTu, hSu⟩, hH⟩ := h
      have hSu := hSu hdi
      refine ⟨⟨hTu, fun _ => hSu⟩, ih (done.setIfInBounds j true) b u ?_ (ready_mono hr (Ne.symm e)) hdk' hik hyb hTu hSu ?_⟩
      · intro q oq hq hqi hqu hqw
        refine hf q oq hq hqi ?_ hqw
        by_cases e2 : j = q
        · subst e2; exact ju
        · rw [getD_set_ne true e2] at hqu; exact hqu
      · rw [Array.setIfInBounds_comm _ _ e]
        exact hH
  intro n done a w hf hr hdk hik hy hT hS H
  exact key n done a w (Region.free_spec hi hf) hr hdk hik hy hT hS H
/-- an operation that yields one value wherever T holds may be taken first. -/
theorem anyT.firstT {i : Nat} {oi : Oper} {v : Value} (hi : ops[i]? = some oi) (hs : Region.noSelect ops = true) (hQ : ∀ c a w, Q (.panic c) (a.put oi.dst v) w → Q (.panic c) a w) :
    ∀ (n : Nat) (done : Array Bool) (a : Act) (w : World), Region.free md ops done i = true → i ∈ Region.ready md ops done → i ≠ k → YieldsIf P ops T oi v a → T w → (done.getD k true = false → S w) →
      anyT P md ops Q T S k n (done.setIfInBounds i true) (a.put oi.dst v) w → anyT P md ops Q T S k (n + 1) done a w := by
  have hsel := Region.noSelect_spec hs
  have key : ∀ (n : Nat) (done : Array Bool) (a : Act) (w : World), (∀ j oj, ops[j]? = some oj → j ≠ i → done.getD j true = false → (∀ e ∈ oj.after, Region.binds md e = true → e.on ≠ i) → oi.apart ops oj = true) →
      i ∈ Region.ready md ops done → i ≠ k → YieldsIf P ops T oi v a → T w → (done.getD k true = false → S w) →
      anyT P md ops Q T S k n (done.setIfInBounds i true) (a.put oi.dst v) w → anyT P md ops Q T S k (n + 1) done a w := by
    intro n
    induction n with
    | zero =>
      intro done a w _ hr hik hy hT hS H
      refine ⟨fun h => (by rw [h] at hr; cases hr), fun j hj => ?_⟩
      by_cases e : j = i
      · subst e
        exact hy.wpOp hi hT ⟨⟨hT, fun h => hS (by rw [getD_set_ne true hik] at h; exact h)⟩, H⟩
      · have h0 := ready_mono hj e
        rw [H.1] at h0
        cases h0
    | succ n ih =>
      intro done a w hf hr hik hy hT hS H
      refine ⟨fun h => (by rw [h] at hr; cases hr), fun j hj => ?_⟩
      by_cases e : j = i
      · subst e
        exact hy.wpOp hi hT ⟨⟨hT, fun h => hS (by rw [getD_set_ne true hik] at h; exact h)⟩, H⟩
      obtain ⟨ju, oj, hoj, hw⟩ := mem_ready.1 hj
      have iu := (mem_ready.1 hr).1
      -- j does not wait for i, so j is not k
      have hjw : ∀ d ∈ oj.after, Region.binds md d = true → d.on ≠ i := by
        intro d hd hb he
        have h1 := hw d hd hb
        rw [he] at h1
        by_cases hsz : i < done.size
        · simp [hsz] at iu h1
          rw [iu] at h1; cases h1
        · simp [Array.getElem?_eq_none (Nat.le_of_not_lt hsz)] at h1
      have hj' := H.2 j (ready_mono hj e)
      have step := wpOp_putIf hoj (hf j oj hoj e ju hjw) (fun cs b => hsel i oi cs b hi) (fun cs b => hsel j oj cs b hoj) hQ hy hj'
      refine wpOp_mono (fun b u h => ?_) step
      obtain ⟨hyb, ⟨hTu, hSu⟩, hH⟩ := h
      have hSu' : (done.setIfInBounds j true).getD k true = false → S u := fun h => hSu (by rw [Array.setIfInBounds_comm _ _ (Ne.symm e), getD_set_ne true hik]; exact h)
      refine ⟨⟨hTu, hSu'⟩, ih (done.setIfInBounds j true) b u ?_ (ready_mono hr (Ne.symm e)) hik hyb hTu hSu' ?_⟩
      · intro q oq hq hqi hqu hqw
        refine hf q oq hq hqi ?_ hqw
        by_cases e2 : j = q
        · subst e2; exact ju
        · rw [getD_set_ne true e2] at hqu; exact hqu
      · rw [Array.setIfInBounds_comm _ _ e]
        exact hH
  intro n done a w hf hr hik hy hT hS H
  exact key n done a w (Region.free_spec hi hf) hr hik hy hT hS H
theorem anyT.take {i : Nat} {oi : Oper} {v : Value} {n : Nat} {done : Array Bool} {a : Act} {w : World} (hi : ops[i]? = some oi) (hs : Region.noSelect ops = true) (hf : Region.free md ops done i = true) (hr : (Region.ready md ops done).contains i = true) (hk : waitsK md ops k i = true) (hd : done.getD k true = false) (hik : i ≠ k)
    (hQ : ∀ c a w, Q (.panic c) (a.put oi.dst v) w → Q (.panic c) a w) (hy : YieldsIf P ops S oi v a) (hT : T w) (hS : S w) (h : anyT P md ops Q T S k n (done.setIfInBounds i true) (a.put oi.dst v) w) : anyT P md ops Q T S k (n + 1) done a w :=
  anyT.first hi hs hQ hk n done a w hf (by simpa using hr) hd hik hy hT hS h
theorem anyT.takeT {i : Nat} {oi : Oper} {v : Value} {n : Nat} {done : Array Bool} {a : Act} {w : World} (hi : ops[i]? = some oi) (hs : Region.noSelect ops = true) (hf : Region.free md ops done i = true) (hr : (Region.ready md ops done).contains i = true) (hik : i ≠ k)
    (hQ : ∀ c a w, Q (.panic c) (a.put oi.dst v) w → Q (.panic c) a w) (hy : YieldsIf P ops T oi v a) (hT : T w) (hS : done.getD k true = false → S w) (h : anyT P md ops Q T S k n (done.setIfInBounds i true) (a.put oi.dst v) w) : anyT P md ops Q T S k (n + 1) done a w :=
  anyT.firstT hi hs hQ n done a w hf (by simpa using hr) hik hy hT hS h
/-- the one operation that may come up. -/
theorem anyT.one {n : Nat} {done : Array Bool} {a : Act} {w : World} {i : Nat} {o : Oper} (hr : Region.ready md ops done = [i]) (ho : ops[i]? = some o)
    (h : ∀ K' : Act → World → Prop, Shut (∀ b v, (T v ∧ ((done.setIfInBounds i true).getD k true = false → S v)) → anyT P md ops Q T S k n (done.setIfInBounds i true) b v → K' b v) →
      if Region.wanted o (yielded ops a.tmps) = true then Oper.wp P o a w K' Q else K' (a.put o.dst undef) w) : anyT P md ops Q T S k (n + 1) done a w := by
  refine ⟨fun h0 => (by rw [hr] at h0; cases h0), fun j hj => ?_⟩
  rw [hr] at hj
  cases List.mem_singleton.1 hj
  exact wpOp_step ho fun K' hK => h K' fun b v h1 h2 => hK b v ⟨h1, h2⟩
theorem anyT.beginIn {id l n : Nat} {a : Act} {w : World} (hm : P.follows .mixedOrders = true) (hd : ops.all (fun o => !isDefer o) = true) (hT : T w.drew) (hS : S w.drew)
    (h : T w.drew → S w.drew → anyT P .any ops (fun e a w => e ≠ .outgrown ∧ Q e a w) T S k ops.size (Array.replicate ops.size false) a w.drew) : (Code.region id ops true).wpIn (Fence.wide.inRound l) n P Q a w :=
  wpIn_mono (wpIn_region_any hm (any_in (fun h0 => by obtain ⟨_, _, h1, -⟩ := h0; exact h1 rfl) (no_defer hd) _ _ _ _ (h hT hS).plain)) fun _ _ _ h => h.2
end
end Go.Proofs.YtmpjaakkjhmpmaaGreatDoor
