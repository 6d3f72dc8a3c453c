/-
  WHAT IT HOLDS: a range over the keys of a map (MapK, int keys): what is still to come. Over any program. Condition: the map is small.
-/
import Derived.Maps.RangeWalk
import Derived.Test.YtidigpfiagjeiaaZRUnifyUnifies4
import Derived.Test.YtidigpfiagjeiaaZRUnifyUnifies5
namespace Go.Proofs.Ytidigpfiagjeiaa
open Go Go.RowKit Go.Maps
open Go.WideElems (rd rg)
def anyR (_ : Value) : Option (DataW Unit × List MemPlace) := some (.nil, [])
/-- V: the keys that have come; left: what is still to come. -/
def Lf {ε : Type} (left : Lit → Bool) (m : Int → Option ε) (V : List Int) : Prop := ∀ x, left (.int .i64 x) = true ↔ (m x).isSome = true ∧ x ∉ V
theorem sameKey_ints (x y : Int) : (Lit.int .i64 x).sameKey (.int .i64 y) = true ↔ x = y := by
  constructor
  · intro h; have := WideAt.sameKey_eq h; simpa using this
  · rintro rfl; simp [Lit.sameKey]
theorem Lf.step {ε : Type} {left : Lit → Bool} {m : Int → Option ε} {V : List Int} (h : Lf left m V) (x0 : Int) : Lf (fun z => left z && !z.sameKey (.int .i64 x0)) m (x0 :: V) := by
  intro x
  have := h x
  have h2 := sameKey_ints x x0
  cases hs : (Lit.int .i64 x).sameKey (.int .i64 x0)
  · have hne : x ≠ x0 := fun e => by rw [h2.2 e] at hs; cases hs
    simp [hs, this, hne]
  · have he := h2.1 hs
    simp only [hs, Bool.not_true, Bool.and_false]
    constructor
    · intro h; cases h
    · rintro ⟨_, h⟩; exact absurd (by rw [he]; simp) h
theorem MapK.owns {P : Program} {k : TypeId} {ε : Type} {ev : ε → Value} {w : World} {b n : Nat} {m : Int → Option ε} (h : MapK P k (Value.int .i64) ev w b n m) (hk : P.underlying k = some (.int .i64)) (hn : n ≤ maxLen) :
    ∃ D, w.ownsMap P k anyR b n D ∧ Lf (Maps.has D) m [] := by
  obtain ⟨es, clock, hb, hsz, hks, hin, hout, hst⟩ := h
  have hrd : ∀ e ∈ es.toList, ∃ x, e.key = .int .i64 x ∧ rd P k anyR e = some (.int .i64 x, .nil) := fun e he => by
    obtain ⟨l, hl⟩ := hks e he
    obtain ⟨x, hx, rfl, _⟩ := Maps.keyOf_int_inv hk hl
    exact ⟨x, hx, by simp [rd, hl, anyR]⟩
  refine ⟨_, ⟨es, clock, hb, ⟨by omega, hst, fun e he => by obtain ⟨x, _, hx⟩ := hrd e he; exact ⟨_, hx⟩⟩, by omega, rfl⟩, fun x => ?_⟩
  rw [Maps.has_eq, List.any_eq_true]
  simp only [List.not_mem_nil, not_false_eq_true, and_true]
  constructor
  · rintro ⟨p, hp, hpk⟩
    obtain ⟨e, he, rfl⟩ := List.mem_map.1 (mem_sorted.1 hp)
    obtain ⟨y, hy, hr⟩ := hrd e he
    rw [WideElems.rg_of hr] at hpk
    have hyx := (sameKey_ints y x).1 hpk
    subst hyx
    obtain ⟨x1, v1, h1, h2, h3⟩ := hin e he
    rw [hy] at h1
    cases h1
    rw [h3]; rfl
  · intro hm
    obtain ⟨v, hv⟩ := Option.isSome_iff_exists.1 hm
    obtain ⟨e, he, h1, h2⟩ := hout x v hv
    obtain ⟨y, hy, hr⟩ := hrd e he
    rw [hy] at h1
    cases h1
    exact ⟨rg P k anyR e, mem_sorted.2 (List.mem_map.2 ⟨e, he, rfl⟩), by rw [WideElems.rg_of hr]; exact (sameKey_ints x x).2 rfl⟩
theorem wpList_next_keys {P : Program} (w : World) {ops : Array Oper} {rest : List Oper} {o : Oper} {a : Act} {Q : Exit → Act → World → Prop} (hg : o.guard = none) (it : Operand) (hop : o.op = Op.next it false) (k : TypeId) (K : Keyed P k) (hk : P.underlying k = some (.int .i64))
    (b r n : Nat) (D : DataW Unit) (left : Lit → Bool) (cnt : Nat) (hit : a.eval it = .pointer (some ⟨r, 0, none⟩)) (h : w.ranges P k anyR b r n D left cnt)
    (hDone : (∀ kl, left kl = false) → wpList P ops Q rest (a.put o.dst (.tuple #[.bool false])) w)
    (hMore : ∀ (x : Int) (c : Value) (w' : World) (cnt' : Nat), left (.int .i64 x) = true → w'.ranges P k anyR b r n D (fun z => left z && !z.sameKey (.int .i64 x)) cnt' → cnt' < cnt →
      w.grownBy w' (some r) → w'.heap.size = w.heap.size → (Instr.entry (.pointer (some ⟨r, 0, none⟩))).run P w' = .ok (.tuple #[.int .i64 x, c]) w' → wpList P ops Q rest (a.put o.dst (.tuple #[.bool true, .int .i64 x, c])) w') :
    wpList P ops Q (o :: rest) a w :=
  wpList_next_ranges (α := Int) (β := Value) w hg it hop k K anyR (Value.int .i64) id (fun key kl hkey => by obtain ⟨x, rfl, _⟩ := Maps.keyOf_int_inv hk hkey; exact ⟨x, rfl⟩) (fun v y _ => ⟨v, rfl⟩)
    b r n D left cnt hit h (fun _ hl => hDone hl) (fun x c kl y w' cnt' hkey hlk _ _ hrg hlt hgr hsz hen => by
      obtain ⟨x', ex, rfl, _⟩ := Maps.keyOf_int_inv hk hkey
      cases ex
      exact hMore x c w' cnt' hlk hrg hlt hgr hsz hen)
end Go.Proofs.Ytidigpfiagjeiaa
