/-
  WHAT IT HOLDS: contracts of single, OneToOne of package tongue. Conditions: the arguments read as data; small signs.
-/
import Derived.Test.YtldgkidojepdlaaZRTopCarriedUnify40
namespace Go.Proofs.Ytldgkidojepdlaa
open Go Go.RowKit Go.Maps Go.Shelf
def insA {α : Type} [DecidableEq α] (ks : List α) (x : α) : List α := if x ∈ ks then ks else ks ++ [x]
/-- each once, in the order in which they come first. -/
def keysA {α : Type} [DecidableEq α] (l : List α) : List α := l.foldl insA []
theorem keysA_snoc {α : Type} [DecidableEq α] (l : List α) (x : α) : keysA (l ++ [x]) = insA (keysA l) x := by simp [keysA]
theorem mem_foldA {α : Type} [DecidableEq α] : ∀ (l ks : List α) (x : α), x ∈ l.foldl insA ks ↔ x ∈ ks ∨ x ∈ l := by
  intro l
  induction l with
  | nil => intro ks x; simp
  | cons y l ih =>
    intro ks x
    rw [List.foldl_cons, ih]
    unfold insA
    split
    · constructor
      · rintro (h | h)
        · exact Or.inl h
        · exact Or.inr (by simp [h])
      · rintro (h | h)
        · exact Or.inl h
        · rcases List.mem_cons.1 h with rfl | h
          · exact Or.inl (by assumption)
          · exact Or.inr h
    · simp [or_assoc]
theorem mem_keysA {α : Type} [DecidableEq α] {l : List α} {x : α} : x ∈ keysA l ↔ x ∈ l := by unfold keysA; rw [mem_foldA]; simp
theorem foldA_len {α : Type} [DecidableEq α] : ∀ (l ks : List α), ks.Nodup → (l.foldl insA ks).length ≤ ks.length + l.length ∧ ((l.foldl insA ks).length = ks.length + l.length ↔ (ks ++ l).Nodup) := by
  intro l
  induction l with
  | nil => intro ks h; simp [h]
  | cons y l ih =>
    intro ks h
    rw [List.foldl_cons]
    by_cases hy : y ∈ ks
    · rw [show insA ks y = ks from if_pos hy]
      have := (ih ks h).1
      refine ⟨by simp; omega, ⟨fun e => by simp at e; omega, fun hn => ?_⟩⟩
      have := (List.nodup_append.1 hn).2.2 y hy y (by simp)
      exact absurd rfl this
    · rw [show insA ks y = ks ++ [y] from if_neg hy]
      have h' : (ks ++ [y]).Nodup := by
        rw [List.nodup_append]
        refine ⟨h, by simp, fun a ha b hb => ?_⟩
        simp at hb
        subst hb
        rintro rfl
        exact hy ha
      have := ih (ks ++ [y]) h'
      rw [List.append_assoc, List.singleton_append] at this
      simp only [List.length_append, List.length_cons, List.length_nil] at this
      refine ⟨by simp; omega, ?_⟩
      rw [← this.2]
      simp
      omega
theorem keysA_len {α : Type} [DecidableEq α] (l : List α) : (keysA l).length ≤ l.length ∧ ((keysA l).length = l.length ↔ l.Nodup) := by
  have := foldA_len l [] (by simp)
  simpa [keysA] using this
/-- a set as a map. -/
def setA {α : Type} [DecidableEq α] (ks : List α) (x : α) : Option Bool := if x ∈ ks then some true else none
theorem setA_nil {α : Type} [DecidableEq α] : setA ([] : List α) = fun _ => none := by funext x; simp [setA]
theorem setA_ins {α : Type} [DecidableEq α] (l : List α) (x : α) : (fun y => if y = x then some true else setA (keysA l) y) = setA (keysA (l ++ [x])) := by
  funext y
  unfold setA
  simp only [mem_keysA, List.mem_append, List.mem_singleton]
  by_cases h : y = x
  · simp [h]
  · simp [h]
theorem setA_len {α : Type} [DecidableEq α] (l : List α) (x : α) : (if (setA (keysA l) x).isSome = true then (keysA l).length else (keysA l).length + 1) = (keysA (l ++ [x])).length := by
  rw [keysA_snoc]
  unfold setA insA
  by_cases h : x ∈ keysA l <;> simp [h]
abbrev ISet (w : World) (b : Nat) (l : List Int) : Prop := MapK Try.prog 3 eI Value.bool w b (keysA l).length (setA (keysA l))
theorem iset_made (w : World) : ISet (w.alloc (.map #[] 0)) w.heap.size [] := by
  unfold ISet
  rw [show keysA ([] : List Int) = [] from rfl, setA_nil]
  exact MapK.made _ _ _ _ w
theorem iset_ins {w : World} {b : Nat} {l : List Int} {x : Int} (h : MapK Try.prog 3 eI Value.bool w b (if (setA (keysA l) x).isSome = true then (keysA l).length else (keysA l).length + 1) (fun y => if y = x then some true else setA (keysA l) y)) : ISet w b (l ++ [x]) := by
  rw [setA_len, setA_ins] at h
  exact h
def singB (a b : Sg) (d : Dic) : Bool := decide (a.length = b.length) && decide (d.map (·.1)).Nodup
theorem oneB_eq (a b : Sg) (d : Dic) : oneB a b d = (dicB a b d && singB a b d) := rfl
set_option maxHeartbeats 2000000 in
theorem tongue_single (va vb vd : Value) (a b : Sg) (d : Dic) (w : World) (ha : SignAt w va a) (hb : SignAt w vb b) (hd : BindsAt w vd d) (hr : ∀ x ∈ d, 0 ≤ x.1 ∧ x.1 ≤ 1000) (hdl : d.length ≤ 1000) :
    Calls Try.prog 52 #[va, vb, vd] w fun e w' => e = .returned (.bool (singB a b d)) ∧ Below w.heap.size w w' := by
  obtain ⟨aa, ac, rfl, -, hal, -, -⟩ := ha.open
  obtain ⟨ba, bc, rfl, -, hbl, -, -⟩ := hb.open
  obtain ⟨da, dc, rfl, -, -, -, DC⟩ := hd.open
  have DC := hid DC
  have HR := hid hr
  clear ha hb hd hr
  have hmm := @run_makeMap Try.prog
  have hm0 := hid (iset_made w)
  have hb0 := hid (show Below w.heap.size w (w.alloc (.map #[] 0)) from (Below.refl _ _).alloc (Nat.le_refl _) _)
  go_enter Try.func52, Try.ntmps52
  go_wp2
  clear hmm
  go_loopw [13] (fun kv wr => ∃ k : Nat, k ≤ d.length ∧ kv = .int .i64 k ∧ Below w.heap.size w wr ∧ ISet wr w.heap.size ((d.map (·.1)).take k)) (fun kv _ => d.length - (intOf kv).toNat)
  case atStart => exact ⟨0, by omega, rfl, hb0.out, hm0.out⟩
  case round =>
    clear hm0 hb0
    obtain ⟨k, hk, rfl, hb, hm⟩ := hrel
    have hsz := hb.size
    by_cases hlt : k < d.length
    · obtain ⟨cb, co, u, rfl, c10, c20, i0⟩ := DC.out k hlt
      have hxr := HR.out d[k] (List.getElem_mem hlt)
      have hT : (d.map (·.1)).take (k + 1) = (d.map (·.1)).take k ++ [d[k].1] := by rw [List.take_succ_eq_append_getElem (by simpa using hlt)]; simp
      obtain ⟨x, hx⟩ : ∃ x, d[k].1 = x := ⟨_, rfl⟩
      obtain ⟨ua, uc, rfl, -⟩ := i0.open
      obtain ⟨n, hn⟩ : ∃ n, d[k].2.length = n := ⟨_, rfl⟩
      rw [hx] at c10 hT hxr
      rw [hn] at c20
      have c1' := (hb.cell (World.block_lt_of_cell? _ _ c10)).trans c10
      have c2' := (hb.cell (World.block_lt_of_cell? _ _ c20)).trans c20
      have HT := hid hT
      have HKEY := hid (int_key x (wf_small (by omega) (by omega)))
      have hbA : Below wr.heap.size wr (wr.alloc (.cells #[.int .i64 x, .slice ua n uc] 74)) := (Below.refl _ _).alloc (Nat.le_refl _) _
      have HB := hid (hb.trans (hbA.mono hsz))
      have HM := hid (hm.belowS hbA)
      clear c10 c20 i0 hx hn hT hm hbA hb
      go_wp2_with (at_mapUpdate; refine wpList_update_mapK rfl _ _ _ 104 rfl (int_keyed Try.underlying3) eI_inj Try.underlying104 rfl HM.out x true rfl rfl HKEY.out ?_; intro w2 hm2 hg2)
      go_roundw
      case rel => exact ⟨k + 1, by omega, by go_num, HB.out.grown hg2 (by have := HB.out.size; omega) (fun q hq => by cases hq; exact Nat.le_refl _), by rw [HT.out]; exact iset_ins hm2⟩
      case measure => simp [intOf]; omega
    · have hkl : k = d.length := by omega
      subst hkl
      rw [List.take_of_length_le (by simp)] at hm
      have hlen := fun ty => hm.run_len Try.underlying104 ty
      have HK := hid (keysA_len (d.map (·.1)))
      obtain ⟨n, hn⟩ : ∃ n, (keysA (d.map (·.1))).length = n := ⟨_, rfl⟩
      rw [hn] at hlen
      have HN := hid hn
      clear hm hn
      by_cases h1 : a.length = b.length
      · have q1 : ((a.length : Int) == (b.length : Int)) = true := by simp [h1]
        by_cases h2 : n = d.length
        · have q2 : ((n : Int) == (d.length : Int)) = true := by simp [h2]
          have HF : Hid (singB a b d = true) := hid (by unfold singB; rw [decide_eq_true h1, decide_eq_true (HK.out.2.1 (by rw [HN.out, h2]; simp))]; rfl)
          clear h1 h2
          go_wp2
          go_ret
          exact ⟨ret_bool HF.out.symm, hb⟩
        · have q2 : ((n : Int) == (d.length : Int)) = false := by simp; omega
          have HF : Hid (singB a b d = false) := hid (by
            unfold singB
            rw [decide_eq_false (p := (d.map (·.1)).Nodup) (fun h => h2 (by have := HK.out.2.2 h; rw [HN.out] at this; simpa using this)), Bool.and_false])
          clear h1 h2
          go_wp2
          go_ret
          exact ⟨ret_bool HF.out.symm, hb⟩
      · have q1 : ((a.length : Int) == (b.length : Int)) = false := by simp; omega
        have HF : Hid (singB a b d = false) := hid (by unfold singB; rw [decide_eq_false h1, Bool.false_and])
        clear h1
        go_wp2
        go_ret
        exact ⟨ret_bool HF.out.symm, hb⟩
theorem dic_range {a b : Sg} {d : Dic} (h : dicB a b d = true) : (∀ x ∈ d, 0 ≤ x.1 ∧ x.1 ≤ 1000) ∧ d.length ≤ 1000 := by
  have hd := dicB_ok h
  obtain ⟨b1, b2⟩ := sign_len hd.sb
  obtain ⟨a1, a2⟩ := sign_len hd.sa
  refine ⟨fun x hx => ?_, by have := hd.len; omega⟩
  obtain ⟨i, hi, rfl⟩ := List.getElem_of_mem hx
  have := (hd.way i hi).1
  omega
theorem tongue_OneToOne (va vb vd : Value) (a b : Sg) (d : Dic) (w : World) (ha : SignAt w va a) (hb : SignAt w vb b) (hd : BindsAt w vd d) (ha1 : a.length ≤ 1000) (hb1 : b.length ≤ 1000) :
    Calls Try.prog 24 #[va, vb, vd] w fun e w' => e = .returned (.bool (oneB a b d)) ∧ Below w.heap.size w w' := by
  have HV := hid (tongue_Valid va vb vd a b d w ha hb hd ha1 hb1)
  rw [oneB_eq]
  cases h : dicB a b d
  · rw [h] at HV
    clear h
    go_enter Try.func24, Try.ntmps24
    go_wp2_with fail
    refine HV.out.mono ?_
    rintro e w1 ⟨rfl, hb1⟩
    go_wp2
    go_ret
    exact ⟨rfl, hb1⟩
  · rw [h] at HV
    have HS := hid (fun (X : World) (hX : Below w.heap.size w X) => tongue_single va vb vd a b d X (ha.below hX) (hb.below hX) (hd.below hX) (dic_range h).1 (dic_range h).2)
    clear h ha hb hd
    go_enter Try.func24, Try.ntmps24
    go_wp2_with fail
    refine HV.out.mono ?_
    rintro e w1 ⟨rfl, hb1⟩
    go_wp2_with fail
    refine (HS.out _ hb1).mono ?_
    rintro e w2 ⟨rfl, hb2⟩
    go_wp2
    go_ret
    exact ⟨ret_bool (by simp), hb1.trans (hb2.mono hb1.size)⟩
end Go.Proofs.Ytldgkidojepdlaa
