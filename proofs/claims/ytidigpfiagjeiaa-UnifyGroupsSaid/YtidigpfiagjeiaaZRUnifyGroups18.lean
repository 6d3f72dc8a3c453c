/-
  WHAT IT HOLDS: contracts of functions of package find: within, Valid, search. Conditions: the arguments read as data; at most 1000 names and terms; a function value that is handed in says what p says and leaves what was there.
  WHAT IT HOLDS: contracts of join and Common of package unify. Conditions: the arguments read as data; both are terms of at most 100 numbers; a sign of 1 to 12 symbols.
  WHAT IT HOLDS: contracts of Closeness of package find, and of the laws' own helpers Small, Few, awake. Conditions: the arguments read as data.
-/
import Derived.Test.YtidigpfiagjeiaaZRUnifyGroups12
import Derived.Test.YtidigpfiagjeiaaZRUnifyGroups14
import Derived.Test.YtidigpfiagjeiaaZRUnifyGroups2
import Derived.Test.YtidigpfiagjeiaaZRUnifyGroups17
namespace Go.Proofs.Ytidigpfiagjeiaa
open Go Go.RowKit Go.Maps
theorem term_Valid' (v vt : Value) (s : Sg) (t : List Int) (w : World) (hs : SignAt w v s) (ht : Ints w vt t) (hs1 : s.length ≤ 1000) :
    Calls Try.prog 21 #[v, vt] w fun e w' => e = .returned (.bool (termB s t)) ∧ Below w.heap.size w w' := term_Valid v vt s t w hs ht hs1 end_need
end Go.Proofs.Ytidigpfiagjeiaa
namespace Go.Proofs.Ytidigpfiagjeiaa
open Go Go.RowKit Go.Maps
set_option maxHeartbeats 1000000 in
theorem unify_join (s : Sg) (vs va vb : Value) (a b : List Int) (w : World) (hsl : 1 ≤ s.length) (hsl2 : s.length ≤ 12) (ha : IsT s 12 a) (hb : IsT s 12 b) (hs : SignAt w vs s) (ra : Ints w va a) (rb : Ints w vb b) (hla : a.length ≤ 100) (hlb : b.length ≤ 100) :
    Calls Try.prog 63 #[vs, va, vb] w fun e w' => ∃ u, e = .returned u ∧ w'.ownsRow w.heap.size 3 1 u (comW s a b []).1.length ((comW s a b []).1.map (Value.int .i64)) ∧ Below w.heap.size w w' := by
  obtain ⟨sa, scap, hse, _⟩ := hs.open
  subst hse
  obtain ⟨aa, acap, hae, _⟩ := ra.open
  subst hae
  obtain ⟨ba, bcap, hbe, _⟩ := rb.open
  subst hbe
  have hmm := @run_makeMap Try.prog
  go_enter Try.func63, Try.ntmps63
  go_wp2_with fail
  clear hmm
  have k0 : ∀ o1 o2 o3, ((((w.alloc (.cells #[.slice sa s.length scap] 23)).alloc o1).alloc o2).alloc o3).cell? ⟨w.heap.size, 0, none⟩ = some (.slice sa s.length scap) := fun o1 o2 o3 => cell_alloc_keep _ (cell_alloc_keep _ (cell_alloc_keep _ (cell_new1 _ _ _)))
  have hbx : ∀ o0 o1 o2 o3, Below w.heap.size w ((((w.alloc o0).alloc o1).alloc o2).alloc o3) := fun o0 o1 o2 o3 => ((((Below.refl _ _).alloc (Nat.le_refl _) _).alloc (by simp) _).alloc (by simp; omega) _).alloc (by simp; omega) _
  have k1 := cell_new1 ((w.alloc (.cells #[.slice sa s.length scap] 23)).alloc (.map #[] 0)) (.map (some (w.heap.size + 1))) 109
  have k2 := cell_new1 (((w.alloc (.cells #[.slice sa s.length scap] 23)).alloc (.map #[] 0)).alloc (.cells #[.map (some (w.heap.size + 1))] 109)) (fnW (w.heap.size + 1 + 1) w.heap.size (w.heap.size + 1 + 1 + 1)) 110
  have km := MapK.made Try.prog 113 ek2 (Value.int .i64) (w.alloc (.cells #[.slice sa s.length scap] 23))
  simp only [World.size_alloc] at k1 k2 km
  have hj := unify_join1 s (.slice sa s.length scap) (w.heap.size + 1 + 1) w.heap.size (w.heap.size + 1 + 1 + 1) (w.heap.size + 1) hsl hsl2 ha b hb _ _ [] _ (hs.below (hbx _ _ _ _)) (ra.below (hbx _ _ _ _)) (rb.below (hbx _ _ _ _)) (cell_alloc_keep _ k1) (k0 _ _ _) k2 (by
    have h := (km.alloc (.cells #[.map (some (w.heap.size + 1))] 109)).alloc (.cells #[fnW (w.heap.size + 1 + 1) w.heap.size (w.heap.size + 1 + 1 + 1)] 110)
    unfold JMap
    rw [show mapK [] = fun _ => none from funext fun x => by simp [mapK]]
    exact h) hla hlb (by simp; omega)
  refine Calls.mono hj ?_
  rintro e w1 ⟨u, rfl, hown, _, hg⟩
  have hB := hbx (.cells #[.slice sa s.length scap] 23) (.map #[] 0) (.cells #[.map (some (w.heap.size + 1))] 109) (.cells #[fnW (w.heap.size + 1 + 1) w.heap.size (w.heap.size + 1 + 1 + 1)] 110)
  have hB2 : Below w.heap.size w w1 := hB.grown hg hB.size (fun q hq => by cases hq; omega)
  have hown2 := owns_base hown hB.size
  clear hj k0 hbx k1 k2 km hown hg hB
  go_wp2
  go_ret
  exact ⟨_, rfl, hown2, hB2⟩
end Go.Proofs.Ytidigpfiagjeiaa
namespace Go.Proofs.Ytidigpfiagjeiaa
open Go Go.RowKit Go.Maps
theorem termB_facts {s : Sg} {t : List Int} (h : termB s t = true) : signB s = true ∧ 1 ≤ s.length ∧ s.length ≤ 12 ∧ t.length ≤ 60 := by
  have h' := h
  unfold termB at h'
  simp only [Bool.and_eq_true] at h'
  have h1 := signB_len h'.1.1
  have h2 := inB_true.1 h'.1.2
  exact ⟨h'.1.1, h1.1, h1.2, by omega⟩
def sCN : Sg := [(⟨#[67]⟩, 2), (⟨#[78]⟩, 1)]
theorem below_alloc3 (w : World) (a b c : Obj) : Below w.heap.size w (((w.alloc a).alloc b).alloc c) :=
  (((Below.refl _ _).alloc (Nat.le_refl _) _).alloc (by simp) _).alloc (by simp; omega) _
theorem law1_Small (vs vl : Value) (s : Sg) (l : List (List Int)) (w : World) (hs : SignAt w vs s) (hl : Terms w vl l) :
    Calls Try.prog 15 #[vs, vl] w fun e w' => e = .returned (.bool (smallB s l)) ∧ w = w' := by
  obtain ⟨sa, scap, rfl, _, hsl, _⟩ := hs.open
  obtain ⟨la, lcap, rfl, hl1, hl2, _, LC⟩ := hl.open
  have LC' := hid LC
  clear LC hs hl
  go_enter Try.func15, Try.ntmps15
  go_wp2
  go_loop [5] (fun i => ∃ k : Nat, k ≤ l.length ∧ i = .int .i64 k ∧ (l.take k).all (fun t => decide (t.length ≤ 200)) = true) (fun i => l.length - (intOf i).toNat)
  case atStart => exact ⟨0, by omega, rfl, by simp⟩
  case round =>
    obtain ⟨k, hk, rfl, hrel⟩ := hrel
    have HR := hid hrel
    clear hrel
    by_cases hlt : k < l.length
    · obtain ⟨b, o, u, rfl, hcell, hu⟩ := LC'.out k hlt
      obtain ⟨ua, ucap, rfl, _, hul, _⟩ := hu.open
      by_cases h2 : (200 : Int) < l[k].length
      · have HF : Hid (smallB s l = false) := hid (by
          unfold smallB
          have : l.all (fun t => decide (t.length ≤ 200)) = false := by
            rw [List.all_eq_false]; exact ⟨l[k], List.getElem_mem hlt, by simp; omega⟩
          rw [this]; rfl)
        go_wp2
        go_ret
        exact ⟨ret_bool HF.out.symm, rfl⟩
      · go_wp2
        go_round
        case rel =>
          refine ⟨k + 1, by omega, by go_num, ?_⟩
          rw [List.take_succ_eq_append_getElem hlt, List.all_append, HR.out]
          simp; omega
        case measure => simp [intOf]; omega
    · have HF : Hid (smallB s l = decide ((s.length : Int) ≤ 40)) := hid (by
        unfold smallB
        have := HR.out
        rw [List.take_of_length_le (by omega)] at this
        rw [this]
        simp; omega)
      go_wp2
      go_ret
      exact ⟨ret_bool HF.out.symm, rfl⟩
end Go.Proofs.Ytidigpfiagjeiaa
