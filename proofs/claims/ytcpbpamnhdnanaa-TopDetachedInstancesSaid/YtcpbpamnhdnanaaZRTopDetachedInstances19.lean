/-
  WHAT IT HOLDS: contracts of join and Common of package unify. Conditions: the arguments read as data; both are terms of at most 100 numbers.
  WHAT IT HOLDS: contracts of join and Common of package unify. Conditions: the arguments read as data; both are terms of at most 100 numbers; a sign of 1 to 12 symbols.
  WHAT IT HOLDS: contracts of Closeness of package find, and of the laws' own helpers Small, Few, awake. Conditions: the arguments read as data.
-/
import Derived.Deep.RegionLaw
import Derived.Test.YtcpbpamnhdnanaaZRTopDetachedInstances18
import Derived.Test.YtcpbpamnhdnanaaZRTopDetachedInstances15
namespace Go.Proofs.Ytcpbpamnhdnanaa
open Go Go.RowKit Go.Maps
theorem T_small {s : Sg} {t : List Int} (h : IsT s 12 t) (hs : s.length ≤ 100) : ∀ z ∈ t, -12 ≤ z ∧ z ≤ 200 := by
  intro z hz
  rcases h.range z hz with h | h <;> omega
theorem T_lt {s : Sg} {t : List Int} (h : IsT s 12 t) (h0 : 0 < s.length) : ∀ z ∈ t, z < s.length := by
  intro z hz
  rcases h.range z hz with h | h <;> omega

theorem drop_flat {c : Nat} {zs : List (List Int)} {k : Nat} (h : k < zs.length) : ((c : Int) :: zs.flatten).drop (1 + (zs.take k).flatten.length) = zs[k] ++ (zs.drop (k + 1)).flatten := by
  rw [Nat.add_comm, List.drop_succ_cons]
  have : zs.flatten = (zs.take k).flatten ++ (zs[k] ++ (zs.drop (k + 1)).flatten) := by
    conv => lhs; rw [← List.take_append_drop k zs, List.flatten_append, List.drop_eq_getElem_cons h, List.flatten_cons]
  rw [this, List.drop_left]
theorem flat_next (zs : List (List Int)) {k : Nat} (h : k < zs.length) : 1 + (zs.take (k + 1)).flatten.length = 1 + (zs.take k).flatten.length + zs[k].length := by
  rw [List.take_succ_eq_append_getElem h, List.flatten_append, List.length_append]
  simp only [List.flatten_cons, List.flatten_nil, List.append_nil]
  omega
theorem comW_step {s : Sg} {zs us : List (List Int)} {σ : List KK} {k : Nat} (hz : ∀ a ∈ zs, IsT s 12 a) (hu : ∀ a ∈ us, IsT s 12 a) (hl : zs.length = us.length) (h : k < zs.length) (h' : k < us.length) :
    comW s (zs.take (k + 1)).flatten (us.take (k + 1)).flatten σ = ((comW s (zs.take k).flatten (us.take k).flatten σ).1 ++ (comW s zs[k] us[k] (comW s (zs.take k).flatten (us.take k).flatten σ).2).1, (comW s zs[k] us[k] (comW s (zs.take k).flatten (us.take k).flatten σ).2).2) := by
  rw [List.take_succ_eq_append_getElem h, List.take_succ_eq_append_getElem h', List.flatten_append, List.flatten_append]
  simp only [List.flatten_cons, List.flatten_nil, List.append_nil]
  exact comW_flat _ _ (fun a ha => hz a (List.mem_of_mem_take ha)) (fun a ha => hu a (List.mem_of_mem_take ha)) (by simp; omega) _ _ _

end Go.Proofs.Ytcpbpamnhdnanaa
namespace Go.Proofs.Ytcpbpamnhdnanaa
open Go Go.RowKit Go.Maps
def symN (l : List Int) : Nat := (l.filter fun x => decide (0 ≤ x)).length
theorem symN_le (l : List Int) : symN l ≤ l.length := List.length_filter_le _ _
theorem symN_snoc (l : List Int) (x : Int) : symN (l ++ [x]) = symN l + if 0 ≤ x then 1 else 0 := by
  unfold symN
  rw [List.filter_append]
  by_cases h : 0 ≤ x <;> simp [h]
end Go.Proofs.Ytcpbpamnhdnanaa
namespace Go.Proofs.Ytcpbpamnhdnanaa
open Go Go.RowKit Go.Maps
theorem termB_facts {s : Sg} {t : List Int} (h : termB s t = true) : signB s = true ∧ 1 ≤ s.length ∧ s.length ≤ 12 ∧ t.length ≤ 60 := by
  have h' := h
  unfold termB at h'
  simp only [Bool.and_eq_true] at h'
  have h1 := signB_len h'.1.1
  have h2 := inB_true.1 h'.1.2
  exact ⟨h'.1.1, h1.1, h1.2, by omega⟩
def sCN : Sg := [(⟨#[67]⟩, 2), (⟨#[78]⟩, 1)]
theorem below_alloc3 (w : World) (a b c : Obj) : Below w.heap.size w (((w.alloc a).alloc b).alloc c) :=
  (((Below.refl _ _).alloc (Nat.le_refl _) _).alloc (by simp) _).alloc (by simp; omega) _
def closeB (s : Sg) (t q : List Int) : Int × Int := if termB s t && termB s q then ((symN (comW s t q []).1 : Int), 0) else (0, 1)
theorem law1_Small (vs vl : Value) (s : Sg) (l : List (List Int)) (w : World) (hs : SignAt w vs s) (hl : Terms w vl l) :
    Calls Try.prog 5 #[vs, vl] w fun e w' => e = .returned (.bool (smallB s l)) ∧ w = w' := by
  obtain ⟨sa, scap, rfl, _, hsl, _⟩ := hs.open
  obtain ⟨la, lcap, rfl, hl1, hl2, _, LC⟩ := hl.open
  have LC' := hid LC
  clear LC hs hl
  go_enter Try.func5, Try.ntmps5
  go_wp2
  go_loop [5] (fun i => ∃ k : Nat, k ≤ l.length ∧ i = .int .i64 k ∧ (l.take k).all (fun t => decide (t.length ≤ 200)) = true) (fun i => l.length - (intOf i).toNat)
  case atStart => exact ⟨0, by omega, rfl, by simp⟩
  case round =>
    obtain ⟨k, hk, rfl, hrel⟩ := hrel
    have HR := hid hrel
    clear hrel
    by_cases hlt : k < l.length
    · obtain ⟨b, o, u, rfl, hcell, hu⟩ := LC'.out k hlt
      obtain ⟨ua, ucap, rfl, _, hul, _⟩ := hu.open
      by_cases h2 : (200 : Int) < l[k].length
      · have HF : Hid (smallB s l = false) := hid (by
          unfold smallB
          have : l.all (fun t => decide (t.length ≤ 200)) = false := by
            rw [List.all_eq_false]; exact ⟨l[k], List.getElem_mem hlt, by simp; omega⟩
          rw [this]; rfl)
        go_wp2
        go_ret
        exact ⟨ret_bool HF.out.symm, rfl⟩
      · go_wp2
        go_round
        case rel =>
          refine ⟨k + 1, by omega, by go_num, ?_⟩
          rw [List.take_succ_eq_append_getElem hlt, List.all_append, HR.out]
          simp; omega
        case measure => simp [intOf]; omega
    · have HF : Hid (smallB s l = decide ((s.length : Int) ≤ 40)) := hid (by
        unfold smallB
        have := HR.out
        rw [List.take_of_length_le (by omega)] at this
        rw [this]
        simp; omega)
      go_wp2
      go_ret
      exact ⟨ret_bool HF.out.symm, rfl⟩
theorem awake_close : closeB sCN [0, 1, -1, -2] [0, 1, -1, 1, -1] = (2, 0) := by decide +kernel
end Go.Proofs.Ytcpbpamnhdnanaa
