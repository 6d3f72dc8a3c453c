/-
  WHAT IT HOLDS: own laws for a region that draws its order, reads some cells beside calls, and writes these cells at its end: what the reads need is to hold only until a named operation (the first write) has come up. Over any program. No condition.
-/
import Derived.Deep.RegionHeld3
import Derived.Test.YtmpjaakkjhmpmaaGreatDoorZRShortCites0
namespace Go.Proofs.YtmpjaakkjhmpmaaGreatDoor
open Go
section
variable {P : Program} {ops : Array Oper} {Q : Exit → Act → World → Prop} {md : Region.Mode} {S : World → Prop} {k : Nat}
/-- the rest of a region in whatever order; S holds behind each operation as long as number k has not come up. -/
def anyK (P : Program) (md : Region.Mode) (ops : Array Oper) (Q : Exit → Act → World → Prop) (S : World → Prop) (k : Nat) : Nat → Array Bool → Act → World → Prop
  | 0, done, a, w => Region.ready md ops done = [] ∧ Q .normal a w
  | n + 1, done, a, w => (Region.ready md ops done = [] → Q .normal a w) ∧ ∀ j, j ∈ Region.ready md ops done →
      wpOp P ops Q j (fun b v => ((done.setIfInBounds j true).getD k true = false → S v) ∧ anyK P md ops Q S k n (done.setIfInBounds j true) b v) a w
theorem anyK.plain : ∀ {n : Nat} {done : Array Bool} {a : Act} {w : World}, anyK P md ops Q S k n done a w → wpAny P md ops Q n done a w := by
  intro n
  induction n with
  | zero => intro done a w h; exact h
  | succ n ih => intro done a w h; exact ⟨h.1, fun j hj => wpOp_mono (fun b v hb => ih hb.2) (h.2 j hj)⟩
theorem anyK.begin {id : Nat} {a : Act} {w : World} (hm : P.follows .mixedOrders = true) (h : anyK P .any ops Q S k ops.size (Array.replicate ops.size false) a w.drew) : (Code.region id ops true).wp P Q a w :=
  wp_region_any hm h.plain
theorem anyK.done {done : Array Bool} {a : Act} {w : World} (hr : Region.ready md ops done = []) (h : Q .normal a w) (n : Nat) : anyK P md ops Q S k n done a w := by
  cases n with
  | zero => exact ⟨hr, h⟩
  | succ n => exact ⟨fun _ => h, fun j hj => by rw [hr] at hj; cases hj⟩
/-- number k waits for number i. -/
def waitsK (md : Region.Mode) (ops : Array Oper) (k i : Nat) : Bool := match ops[k]? with
  | some o => o.after.any fun e => Region.binds md e && e.on == i
  | none => false
/-- an operation that yields one value wherever S holds, and for which number k waits, may be taken first. -/
theorem anyK.first {i : Nat} {oi : Oper} {v : Value} (hi : ops[i]? = some oi) (hs : Region.noSelect ops = true) (hQ : ∀ c a w, Q (.panic c) (a.put oi.dst v) w → Q (.panic c) a w) (hk : waitsK md ops k i = true) :
    ∀ (n : Nat) (done : Array Bool) (a : Act) (w : World), Region.free md ops done i = true → i ∈ Region.ready md ops done → done.getD k true = false → i ≠ k → YieldsIf P ops S oi v a → S w →
      anyK P md ops Q S k n (done.setIfInBounds i true) (a.put oi.dst v) w → anyK P md ops Q S k (n + 1) done a w := by
  have hsel := Region.noSelect_spec hs
  have key : ∀ (n : Nat) (done : Array Bool) (a : Act) (w : World), (∀ j oj, ops[j]? = some oj → j ≠ i → done.getD j true = false → (∀ e ∈ oj.after, Region.binds md e = true → e.on ≠ i) → oi.apart ops oj = true) →
      i ∈ Region.ready md ops done → done.getD k true = false → i ≠ k → YieldsIf P ops S oi v a → S w →
      anyK P md ops Q S k n (done.setIfInBounds i true) (a.put oi.dst v) w → anyK P md ops Q S k (n + 1) done a w := by
    intro n
    induction n with
    | zero =>
      intro done a w _ hr hdk hik hy hS H
      refine ⟨fun h => (by rw [h] at hr; cases hr), fun j hj => ?_⟩
      by_cases e : j = i
      · subst e
        exact hy.wpOp hi hS ⟨fun _ => hS, H⟩
      · have h0 := ready_mono hj e
        rw [H.1] at h0
        cases h0
    | succ n ih =>
      intro done a w hf hr hdk hik hy hS H
      refine ⟨fun h => (by rw [h] at hr; cases hr), fun j hj => ?_⟩
      by_cases e : j = i
      · subst e
        exact hy.wpOp hi hS ⟨fun _ => hS, H⟩
      obtain ⟨ju, oj, hoj, hw⟩ := mem_ready.1 hj
      have iu := (mem_ready.1 hr).1
      -- j does not wait for i, so j is not k
      have hjw : ∀ d ∈ oj.after, Region.binds md d = true → d.on ≠ i := by
        intro d hd hb he
        have h1 := hw d hd hb
        rw [he] at h1
        by_cases hsz : i < done.size
        · simp [hsz] at iu h1
          rw [iu] at h1; cases h1
        · simp [Array.getElem?_eq_none (Nat.le_of_not_lt hsz)] at h1
      have hjk : j ≠ k := by
        rintro rfl
        unfold waitsK at hk
        rw [hoj] at hk
        simp only [Array.any_eq_true] at hk
        obtain ⟨q, hq, hb⟩ := hk
        simp only [Bool.and_eq_true, beq_iff_eq] at hb
        exact hjw _ (Array.getElem_mem hq) hb.1 hb.2
      have hdk' : (done.setIfInBounds j true).getD k true = false := by rw [getD_set_ne true hjk]; exact hdk
      have hdi : ((done.setIfInBounds i true).setIfInBounds j true).getD k true = false := by
        rw [getD_set_ne true hjk, getD_set_ne true hik]; exact hdk
      have hj' := H.2 j (ready_mono hj e)
      have step := wpOp_putIf hoj (hf j oj hoj e ju hjw) (fun cs b => hsel i oi cs b hi) (fun cs b => hsel j oj cs b hoj) hQ hy hj'
      refine wpOp_mono (fun b u h => ?_) step
      obtain ⟨hyb, hSu, hH⟩ := h
      have hSu := hSu hdi
      refine ⟨fun _ => hSu, ih (done.setIfInBounds j true) b u ?_ (ready_mono hr (Ne.symm e)) hdk' hik hyb hSu ?_⟩
      · intro q oq hq hqi hqu hqw
        refine hf q oq hq hqi ?_ hqw
        by_cases e2 : j = q
        · subst e2; exact ju
        · rw [getD_set_ne true e2] at hqu; exact hqu
      · rw [Array.setIfInBounds_comm _ _ e]
        exact hH
  intro n done a w hf hr hdk hik hy hS H
  exact key n done a w (Region.free_spec hi hf) hr hdk hik hy hS H
theorem anyK.take {i : Nat} {oi : Oper} {v : Value} {n : Nat} {done : Array Bool} {a : Act} {w : World} (hi : ops[i]? = some oi) (hs : Region.noSelect ops = true) (hf : Region.free md ops done i = true) (hr : (Region.ready md ops done).contains i = true) (hk : waitsK md ops k i = true) (hd : done.getD k true = false) (hik : i ≠ k)
    (hQ : ∀ c a w, Q (.panic c) (a.put oi.dst v) w → Q (.panic c) a w) (hy : YieldsIf P ops S oi v a) (hS : S w) (h : anyK P md ops Q S k n (done.setIfInBounds i true) (a.put oi.dst v) w) : anyK P md ops Q S k (n + 1) done a w :=
  anyK.first hi hs hQ hk n done a w hf (by simpa using hr) hd hik hy hS h
/-- the one operation that may come up. -/
theorem anyK.one {n : Nat} {done : Array Bool} {a : Act} {w : World} {i : Nat} {o : Oper} (hr : Region.ready md ops done = [i]) (ho : ops[i]? = some o)
    (h : ∀ K' : Act → World → Prop, Shut (∀ b v, ((done.setIfInBounds i true).getD k true = false → S v) → anyK P md ops Q S k n (done.setIfInBounds i true) b v → K' b v) →
      if Region.wanted o (yielded ops a.tmps) = true then Oper.wp P o a w K' Q else K' (a.put o.dst undef) w) : anyK P md ops Q S k (n + 1) done a w := by
  refine ⟨fun h0 => (by rw [hr] at h0; cases h0), fun j hj => ?_⟩
  rw [hr] at hj
  cases List.mem_singleton.1 hj
  exact wpOp_step ho fun K' hK => h K' fun b v h1 h2 => hK b v ⟨h1, h2⟩
end
end Go.Proofs.YtmpjaakkjhmpmaaGreatDoor
