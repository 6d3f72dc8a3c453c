/-
  WHAT IT HOLDS: the contract of key of package unify: a list of small numbers as a text. Conditions: the argument reads as data; its numbers lie in -12 .. 200; it is not empty and has at most 1000 numbers.
-/
import Derived.Laws.IdiomStrings
import Derived.Test.YtcpbpamnhdnanaaZRTopDetachedInstances8
import Derived.Test.YtcpbpamnhdnanaaZRTopDetachedInstances1
namespace Go.Proofs.Ytcpbpamnhdnanaa
open Go Go.RowKit Go.Maps
def keyL (t : List Int) : List UInt8 := t.map fun n => UInt8.ofNat (n + 12).toNat
def keyB (t : List Int) : ByteArray := ⟨(keyL t).toArray⟩
theorem keyL_cells {t : List Int} (h : ∀ x ∈ t, -12 ≤ x ∧ x ≤ 200) : (keyL t).map (fun b => Value.int .u8 (b.toNat : Int)) = t.map (fun n => Value.int .u8 (n + 12)) := by
  unfold keyL
  rw [List.map_map]
  apply List.map_congr_left
  intro x hx
  have := h x hx
  obtain ⟨k, hk⟩ := Int.eq_ofNat_of_zero_le (show 0 ≤ x + 12 by omega)
  simp only [Function.comp]
  rw [hk, Int.toNat_natCast]
  have : (UInt8.ofNat k).toNat = k := by rw [UInt8.toNat_ofNat']; omega
  rw [this]
theorem keyB_inj {t u : List Int} (h : ∀ x ∈ t, -12 ≤ x ∧ x ≤ 200) (h' : ∀ x ∈ u, -12 ≤ x ∧ x ≤ 200) (he : keyB t = keyB u) : t = u := by
  have h1 : keyL t = keyL u := by
    unfold keyB at he
    simpa using he
  have h2 := keyL_cells h
  rw [h1, keyL_cells h'] at h2
  have := congrArg (List.map (fun v => (match v with | .int _ n => n - 12 | _ => 0 : Int))) h2
  rw [List.map_map, List.map_map] at this
  have e : ∀ l : List Int, List.map ((fun v => (match v with | Value.int _ n => n - 12 | _ => 0 : Int)) ∘ fun n => Value.int .u8 (n + 12)) l = l := by
    intro l
    conv => rhs; rw [← List.map_id l]
    apply List.map_congr_left
    intro x _
    simp
  rw [e, e] at this
  exact this.symm
theorem keyB_size (t : List Int) : (keyB t).size = t.length := by simp [keyB, keyL, ByteArray.size]
set_option maxHeartbeats 400000 in
theorem find_key (vt : Value) (t : List Int) (w : World) (ht : Ints w vt t) (hr : ∀ x ∈ t, -12 ≤ x ∧ x ≤ 200) (h0 : 0 < t.length) (hl : t.length ≤ 1000) :
    Calls Try.prog 81 #[vt] w fun e w' => e = .returned (.string (keyB t)) ∧ Below w.heap.size w w' := by
  obtain ⟨ta, tcap, rfl, ht1, ht2, _, TC⟩ := ht.open
  have TC' := hid TC
  have HR := hid hr
  clear TC ht hr
  go_enter Try.func81, Try.ntmps81
  go_wp2
  go_loopw [3, 8] (fun u i wr => ∃ k : Nat, k ≤ t.length ∧ i = .int .i64 k ∧ wr.ownsRow w.heap.size 5 1 u k ((t.take k).map (fun n => Value.int .u8 (n + 12))) ∧ Below w.heap.size w wr) (fun _ i _ => t.length - (intOf i).toNat)
  case atStart => exact ⟨0, by omega, rfl, World.ownsRow_nil _ _ _ _, Below.refl _ _⟩
  case round =>
    obtain ⟨k, hk, rfl, hown, hb⟩ := hrel
    have hsz := hb.size
    by_cases hlt : k < t.length
    · obtain ⟨b, o, rfl, hcell0⟩ := TC'.out k hlt
      have hcell : wr.cell? ⟨b, o + k, none⟩ = some (.int .i64 t[k]) := (hb.cell (World.block_lt_of_cell? _ _ hcell0)).trans hcell0
      have hx := HR.out t[k] (List.getElem_mem hlt)
      clear hcell0
      go_wp2_with (at_builtin; refine wpList_append_row rfl _ _ 126 rfl w.heap.size 5 el_u8 Try.underlying126 rfl (by decide) _ _ _ rfl (hown.alloc _) _ 1 [.int .u8 (t[k] + 12)] rfl (row_one_new _ _ _) (oneCell_one rfl) (by omega) (by omega) (by simp; omega) ?_; intro v' w4 hown4 hgrow4 _)
      have hb4 : Below w.heap.size w w4 := (hb.alloc (by omega) _).grown hgrow4 (by simp; omega) (fun q hq => (hown.lt q hq).1)
      go_roundw
      case rel => exact ⟨k + 1, by omega, by go_num, by rw [List.take_succ_eq_append_getElem hlt, List.map_append]; exact hown4, hb4⟩
      case measure => simp [intOf]; omega
    · have hkt : k = t.length := by omega
      rw [hkt, List.take_of_length_le (Nat.le_refl _)] at hown
      have hshape : ∃ g cap, u3 = .slice (some ⟨g, 0, none⟩) t.length cap := by
        rcases hown.2 with ⟨_, h⟩ | ⟨g, cap, cur, h, _⟩
        · omega
        · exact ⟨g, cap, h⟩
      obtain ⟨g, cap, rfl⟩ := hshape
      have hkl : (keyL t).length = t.length := by simp [keyL]
      have kc : (convert 126 9 (.slice (some ⟨g, 0, none⟩) t.length cap)).run Try.prog wr = .ok (.string (keyB t)) wr := by
        have := run_convert_bytes_back (P := Try.prog) wr 126 9 5 ⟨g, 0, none⟩ cap (keyL t) Try.underlying126 Try.underlying5 Try.underlying9 (fun j hj => by
          have hadd : (⟨g, 0, none⟩ : Addr).add j = ⟨g, j, none⟩ := by unfold Addr.add; split <;> simp_all
          rw [hadd, hown.cellAt j (by omega), ← keyL_cells HR.out]
          simp [hj])
        rw [hkl] at this
        exact this
      clear hkl hown hkt
      go_wp2
      go_ret
      exact ⟨rfl, hb⟩
end Go.Proofs.Ytcpbpamnhdnanaa
