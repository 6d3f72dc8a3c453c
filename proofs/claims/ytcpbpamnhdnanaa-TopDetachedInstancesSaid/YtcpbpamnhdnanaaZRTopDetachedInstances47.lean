/-
  WHAT IT HOLDS: the plain law that what instances are detached to is an instance of the detachment. No program in sight.
  WHAT IT HOLDS: the walk of the law TopDetachedInstances.
-/
import Derived.Test.YtcpbpamnhdnanaaZRTopDetachedInstances32
import Derived.Test.YtcpbpamnhdnanaaZRTopDetachedInstances43
import Derived.Test.YtcpbpamnhdnanaaZRTopDetachedInstances29
import Derived.Test.YtcpbpamnhdnanaaZRTopDetachedInstances26
import Derived.Test.YtcpbpamnhdnanaaZRTopDetachedInstances46
import Derived.Test.YtcpbpamnhdnanaaZRTopDetachedInstances45
namespace Go.Proofs.Ytcpbpamnhdnanaa
open Go Go.RowKit Go.Maps
theorem det_inst {s : Sg} {M N : List Int} {l k : BL} {x y : List Int × Int} (h1 : (appR s l M).2 = 0) (h2 : (appR s k N).2 = 0) (hx : DetR s (appR s l M).1 (appR s k N).1 x) (hy : DetR s M N y) (hx0 : x.2 = 0) (hy4 : y.2 ≠ 4) (hy10 : y.2 ≠ 10) :
    y.2 = 0 ∧ instB s y.1 x.1 = true := by
  have app : ∀ {l : BL} {t : List Int}, (appR s l t).2 = 0 → termB s t = true ∧ bndsB s l = true ∧ (appR s l t).1 = subL (ofN l) t := by
    intro l t h
    unfold appR at h ⊢
    cases ht : termB s t
    · rw [ht] at h; simp at h
    · cases hl : bndsB s l
      · rw [ht, hl] at h; simp at h
      · rw [ht, hl] at h
        simp only [Bool.and_self, if_true] at h ⊢
        by_cases h6 : (subL (ofN l) t).length ≤ 60
        · exact ⟨by first | trivial | rfl, by first | trivial | rfl, by rw [if_pos h6]⟩
        · rw [if_neg h6] at h; simp at h
  obtain ⟨vM, bl, e1⟩ := app h1
  obtain ⟨vN, bk, e2⟩ := app h2
  rw [e1, e2] at hx
  clear h1 h2 e1 e2 app
  rcases hy with ⟨hf, -⟩ | ⟨-, -, ⟨-, rfl⟩ | ⟨C, D, rfl, tC, tD, hy⟩⟩
  · rw [vM, vN] at hf; cases hf
  · exact absurd rfl hy10
  rcases hx with ⟨-, rfl⟩ | ⟨vm, vn, ⟨-, rfl⟩ | ⟨A, B, hm, tA, tB, hx⟩⟩
  · cases hx0
  · cases hx0
  have hf := termB_facts vM
  have lT : ∀ n, -12 ≤ n → n < 0 → IsT s 12 (ofN l n) := fun n a b => (ofN_T bl a b).1
  have kT : ∀ n, -12 ≤ n → n < 0 → IsT s 12 (ofN k n) := fun n a b => (ofN_T bk a b).1
  have hs0 : subL (ofN l) (0 :: (C ++ D)) = 0 :: (subL (ofN l) C ++ subL (ofN l) D) := by
    rw [subL_cons_app _ (by omega), subL_append]
  rw [hs0] at hm
  have tC' : IsT s 12 (subL (ofN l) C) := tC.sub fun n hn h0 => lT n (by have := tC.vars n hn h0; omega) h0
  have tD' : IsT s 12 (subL (ofN l) D) := tD.sub fun n hn h0 => lT n (by have := tD.vars n hn h0; omega) h0
  have hu := cut_unique [subL (ofN l) C, subL (ofN l) D] [A, B] [] [] (by intro a ha; simp at ha; rcases ha with rfl | rfl <;> assumption) (by intro a ha; simp at ha; rcases ha with rfl | rfl <;> assumption) rfl (by simpa using hm)
  simp only [List.cons.injEq, and_true] at hu
  obtain ⟨rfl, rfl⟩ := hu
  rcases hx with ⟨-, rfl⟩ | ⟨m', hm', ⟨hb', rfl⟩ | ⟨-, rfl⟩⟩
  · cases hx0
  rotate_left
  · cases hx0
  have tN := termB_T vN
  -- the unifier of the whole
  let θ : Int → List Int := fun v => if -12 ≤ v then subL (sg m') (ofN l v) else subL (sg m') (aparL (ofN k (v + 12)))
  have hsT := fun v h1 h2 => sg_T hm'.1 (n := v) h1 h2
  have θT : ∀ v, -24 ≤ v → v < 0 → IsT s 24 (θ v) := by
    intro v h1 h2
    show IsT s 24 (if -12 ≤ v then _ else _)
    split
    · rename_i h
      exact subL_T hsT ((lT v h h2).mono (by omega))
    · exact subL_T hsT (aparL_T (kT (v + 12) (by omega) (by omega)))
  have hTS : TS s θ := ⟨24, θT⟩
  have θ1 : ∀ {t : List Int}, IsT s 12 t → subL θ t = subL (sg m') (subL (ofN l) t) := by
    intro t ht
    rw [subL_comp]
    refine subL_congr fun n hn h0 => ?_
    have := ht.vars n hn h0
    show (if -12 ≤ n then _ else _) = _
    rw [if_pos (by omega)]
  have θ2 : subL θ (aparL N) = subL (sg m') (aparL (subL (ofN k) N)) := by
    have e1 : aparL (subL (ofN k) N) = subL (fun n => aparL (ofN k n)) N := by
      rw [aparL_sub, subL_comp]
      exact subL_congr fun n _ _ => (aparL_sub _).symm
    rw [e1, aparL_sub N, subL_comp, subL_comp]
    refine subL_congr fun n hn h0 => ?_
    have := tN.vars n hn h0
    rw [subL_one, if_pos (by omega)]
    show (if -12 ≤ n - 12 then _ else _) = _
    rw [if_neg (by omega), show n - 12 + 12 = n by omega]
  have hE : subL θ C = subL θ (aparL N) := by rw [θ1 tC, θ2]; exact hm'.sol
  rcases hy with ⟨hno, -⟩ | ⟨m, hm2, ⟨hb, rfl⟩ | ⟨-, rfl⟩⟩
  · exact absurd hE (hno θ hTS)
  rotate_left
  · exact absurd rfl hy4
  refine ⟨rfl, ?_⟩
  have hg := hm2.gen hTS hE D
  have hF := fw_T hm2.1 (tD.mono (m' := 24) (by omega))
  have hF' := fw_T hm'.1 (tD'.mono (m' := 24) (by omega))
  have hv := made_term hf.1 hF hb
  have hv' := made_term hf.1 hF' hb'
  refine instB_iff.2 ⟨hv, hv', Inst.down (q := 24) (by omega) (termB_T hv) (termB_T hv') (((inst_canon hF).trans ⟨θ, fun n hn h0 => θT n (by have := hF.vars n hn h0; omega) h0, ?_⟩).trans (canon_inst ((termB_T hv').mono (by omega)) (canonL_canon _).symm))⟩
  rw [hg, θ1 tD, fw_sub hm'.1]
end Go.Proofs.Ytcpbpamnhdnanaa
namespace Go.Proofs.Ytcpbpamnhdnanaa
open Go Go.RowKit Go.Maps
/-- four values lie in the block b. -/
def Box4 (X : World) (b : Nat) (e0 e1 e2 e3 : Value) : Prop := X.cell? ⟨b, 0, none⟩ = some e0 ∧ X.cell? ⟨b, 1, none⟩ = some e1 ∧ X.cell? ⟨b, 2, none⟩ = some e2 ∧ X.cell? ⟨b, 3, none⟩ = some e3
theorem Box4.below {X Y : World} {b : Nat} {e0 e1 e2 e3 : Value} (h : Box4 X b e0 e1 e2 e3) (hb : Below X.heap.size X Y) : Box4 Y b e0 e1 e2 e3 :=
  ⟨(hb.cell (World.block_lt_of_cell? _ _ h.1)).trans h.1, (hb.cell (World.block_lt_of_cell? _ _ h.2.1)).trans h.2.1, (hb.cell (World.block_lt_of_cell? _ _ h.2.2.1)).trans h.2.2.1, (hb.cell (World.block_lt_of_cell? _ _ h.2.2.2)).trans h.2.2.2⟩
theorem Box4.new (w : World) (e0 e1 e2 e3 : Value) (T : TypeId) : Box4 (w.alloc (.cells #[e0, e1, e2, e3] T)) w.heap.size e0 e1 e2 e3 := by
  refine ⟨?_, ?_, ?_, ?_⟩ <;> rw [World.cell?_alloc_new] <;> rfl
set_option maxHeartbeats 4000000 in
set_option maxRecDepth 100000 in
theorem walk_TopDetachedInstances (vs va vb vl vk : Value) (s : Sg) (a b : List Int) (l k : BL) (w : World) (hs : SignAt w vs s) (ha : Ints w va a) (hb : Ints w vb b) (hl : BindsAt w vl l) (hk : BindsAt w vk k) :
    Calls Try.prog 3 #[vs, .agg #[va, vb, vl, vk]] w fun e w' => e = .returned (.bool true) ∧ Below w.heap.size w w' := by
  obtain ⟨aa, ka, he0, -⟩ := ha.open
  obtain ⟨ab, kb, he1, -⟩ := hb.open
  obtain ⟨al, kl, he2, hl2, -⟩ := hl.open
  obtain ⟨ak, kk, he3, hk2, -⟩ := hk.open
  subst he0 he1 he2 he3
  have hbx := Box4.new w (.slice aa a.length ka) (.slice ab b.length kb) (.slice al l.length kl) (.slice ak k.length kk) 28
  have hb1 : Below w.heap.size w (w.alloc (.cells #[.slice aa a.length ka, .slice ab b.length kb, .slice al l.length kl, .slice ak k.length kk] 28)) := (Below.refl _ _).alloc (Nat.le_refl _) _
  have hT := litT2 (ha.below hb1) (hb.below hb1) 25
  rw [World.size_alloc] at hT
  have hb12 : Below (w.alloc (.cells #[.slice aa a.length ka, .slice ab b.length kb, .slice al l.length kl, .slice ak k.length kk] 28)).heap.size (w.alloc (.cells #[.slice aa a.length ka, .slice ab b.length kb, .slice al l.length kl, .slice ak k.length kk] 28)) ((w.alloc (.cells #[.slice aa a.length ka, .slice ab b.length kb, .slice al l.length kl, .slice ak k.length kk] 28)).alloc (.cells #[.slice aa a.length ka, .slice ab b.length kb] 25)) := (Below.refl _ _).alloc (Nat.le_refl _) _
  have hb2 := hb1.trans (hb12.mono hb1.size)
  have HBX := hid (hbx.below hb12)
  have HSM := hid (law1_Small vs _ s _ _ (hs.below hb2) hT)
  have HB := hid hb2
  have HS := hid hs
  have HA := hid ha
  have HBB := hid hb
  have HL := hid hl
  have HK := hid hk
  clear hT hb1 hb12 hb2 hs ha hb hl hk hbx
  go_enter Try.func3, Try.ntmps3
  go_wp2_with fail
  refine HSM.out.mono ?_
  rintro e w1 ⟨rfl, rfl⟩
  have HW := hid (fun (X : World) (hX : Below w.heap.size w X) => chainL hX (top_awake5 X))
  cases hsm : smallB s [a, b]
  · go_wp2_with fail
    refine (HW.out _ HB.out).mono ?_
    rintro e w2 ⟨rfl, hb3⟩
    have HB3 := hid hb3
    clear hb3
    go_wp2
    go_ret
    exact ⟨rfl, HB3.out⟩
  · have hs40 : s.length ≤ 1000 := by simp [smallB] at hsm; omega
    clear hsm
    have HAP := hid (fun (X : World) (hX : Below w.heap.size w X) => unify_Apply vs _ _ s l a X (HS.out.below hX) (HL.out.below hX) (HA.out.below hX) hs40)
    have HAQ := hid (fun (X : World) (hX : Below w.heap.size w X) => unify_Apply vs _ _ s k b X (HS.out.below hX) (HK.out.below hX) (HBB.out.below hX) hs40)
    have HD := hid (fun (X : World) (hX : Below w.heap.size w X) (u v : Value) (p q : List Int) (hu : Ints X u p) (hv : Ints X v q) => kernel_Detach vs u v s p q X (HS.out.below hX) hu hv hs40)
    have HI := hid (fun (X : World) (hX : Below w.heap.size w X) (u v : Value) (p q : List Int) (hu : Ints X u p) (hv : Ints X v q) => unify_Instance vs u v s p q X (HS.out.below hX) hu hv hs40)
    clear HSM
    generalize (w.alloc (.cells #[.slice aa a.length ka, .slice ab b.length kb, .slice al l.length kl, .slice ak k.length kk] 28)).alloc (.cells #[.slice aa a.length ka, .slice ab b.length kb] 25) = W at *
    obtain ⟨c0, c1, c2, c3⟩ := HBX.out
    by_cases hl30 : (30 : Int) < l.length
    · clear c0 c1 c3
      go_wp2_with fail
      refine (HW.out _ HB.out).mono ?_
      rintro e w90 ⟨rfl, hbx⟩
      have HBX := hid hbx
      clear hbx
      go_wp2
      go_ret
      exact ⟨rfl, HBX.out⟩
    by_cases hk30 : (30 : Int) < k.length
    · clear c0 c1
      go_wp2_with fail
      refine (HW.out _ HB.out).mono ?_
      rintro e w90 ⟨rfl, hbx⟩
      have HBX := hid hbx
      clear hbx
      go_wp2
      go_ret
      exact ⟨rfl, HBX.out⟩
    obtain ⟨x, hx⟩ : ∃ x, appR s l a = x := ⟨_, rfl⟩
    obtain ⟨y, hy⟩ : ∃ y, appR s k b = y := ⟨_, rfl⟩
    have HP := hid (fun (u v : List Int × Int) (h1 : (appR s l a).2 = 0) (h2 : (appR s k b).2 = 0) (h3 : DetR s (appR s l a).1 (appR s k b).1 u) (h4 : DetR s a b v) (h5 : u.2 = 0) (h6 : v.2 ≠ 4) (h7 : v.2 ≠ 10) => det_inst h1 h2 h3 h4 h5 h6 h7)
    simp only [hx, hy] at HAP HAQ HP
    clear hx hy
    obtain ⟨x1, x2⟩ := x
    obtain ⟨y1, y2⟩ := y
    simp only at HAP HAQ HP
    go_wp2_with fail
    refine (HAP.out _ HB.out).mono ?_
    rintro e w3 ⟨u3, rfl, hi3, hb3⟩
    have HB3 := hid (HB.out.trans (hb3.mono HB.out.size))
    have HBX3 := hid (HBX.out.below hb3)
    have HU3 := hid hi3
    clear hb3 hi3 c0 c1 c2 c3
    obtain ⟨c0, c1, c2, c3⟩ := HBX3.out
    go_wp2_with fail
    refine (HAQ.out _ HB3.out).mono ?_
    rintro e w4 ⟨u4, rfl, hi4, hb4⟩
    have HB4 := hid (HB3.out.trans (hb4.mono HB3.out.size))
    have HBX4 := hid (HBX3.out.below hb4)
    have HU4 := hid hi4
    have HU34 := hid (HU3.out.below hb4)
    clear hb4 hi4 c0 c1 c2 c3
    by_cases hx0 : x2 = 0
    · by_cases hy0 : y2 = 0
      · subst hx0 hy0
        go_wp2_with fail
        refine (HD.out _ HB4.out _ _ _ _ HU34.out HU4.out).mono ?_
        rintro e w5 ⟨t, u5, ht, rfl, ho5, hb5⟩
        have HB5 := hid (HB4.out.trans (hb5.mono HB4.out.size))
        have HBX5 := hid (HBX4.out.below hb5)
        have HT := hid ht
        have HO5 := hid ho5
        clear ht hb5 ho5
        obtain ⟨c0, c1, c2, c3⟩ := HBX5.out
        go_wp2_with fail
        refine (HD.out _ HB5.out _ _ _ _ (HA.out.below HB5.out) (HBB.out.below HB5.out)).mono ?_
        rintro e w6 ⟨v, u6, hv, rfl, ho6, hb6⟩
        have HB6 := hid (HB5.out.trans (hb6.mono HB5.out.size))
        have HV := hid hv
        have HO6 := hid ho6
        have HBB6 := hid hb6
        clear hv hb6 ho6 c0 c1 c2 c3
        obtain ⟨t1, t2⟩ := t
        obtain ⟨v1, v2⟩ := v
        by_cases ht0 : t2 = 0
        · by_cases hv4 : v2 = 4
          · subst hv4
            subst ht0
            go_wp2_with fail
            refine (HW.out _ HB6.out).mono ?_
            rintro e w90 ⟨rfl, hbx⟩
            have HBX := hid hbx
            clear hbx
            go_wp2
            go_ret
            exact ⟨rfl, HBX.out⟩
          · by_cases hv10 : v2 = 10
            · subst hv10
              subst ht0
              go_wp2_with fail
              refine (HW.out _ HB6.out).mono ?_
              rintro e w90 ⟨rfl, hbx⟩
              have HBX := hid hbx
              clear hbx
              go_wp2
              go_ret
              exact ⟨rfl, HBX.out⟩
            · subst ht0
              obtain ⟨e0, hin⟩ := HP.out _ _ (by first | trivial | rfl) (by first | trivial | rfl) HT.out HV.out (by first | trivial | rfl) hv4 hv10
              simp only at e0
              subst e0
              have hl1 := termB_facts (instB_iff.1 hin).1
              have hl2 := termB_facts (instB_iff.1 hin).2.1
              have HI5 := hid ((Ints.of_owns HO5.out (by have := hl2.2.2.2; simp only at this ⊢; omega)).below HBB6.out)
              have HI6 := hid (Ints.of_owns HO6.out (by have := hl1.2.2.2; simp only at this ⊢; omega))
              have HIN := hid hin
              clear hin hl1 hl2
              go_wp2_with fail
              refine (HI.out _ HB6.out _ _ _ _ HI6.out HI5.out).mono ?_
              rintro e w8 ⟨rfl, hb8⟩
              rw [HIN.out]
              have HB8 := hid (HB6.out.trans (hb8.mono HB6.out.size))
              clear hb8
              go_wp2_with fail
              refine (HW.out _ HB8.out).mono ?_
              rintro e w90 ⟨rfl, hbx⟩
              have HBX := hid hbx
              clear hbx
              go_wp2
              go_ret
              exact ⟨rfl, HBX.out⟩
        · have n3 : (t2 != 0) = true := by simpa using ht0
          go_wp2_with fail
          refine (HW.out _ HB6.out).mono ?_
          rintro e w90 ⟨rfl, hbx⟩
          have HBX := hid hbx
          clear hbx
          go_wp2
          go_ret
          exact ⟨rfl, HBX.out⟩
      · have n3 : (y2 != 0) = true := by simpa using hy0
        subst hx0
        go_wp2_with fail
        refine (HW.out _ HB4.out).mono ?_
        rintro e w90 ⟨rfl, hbx⟩
        have HBX := hid hbx
        clear hbx
        go_wp2
        go_ret
        exact ⟨rfl, HBX.out⟩
    · have n3 : (x2 != 0) = true := by simpa using hx0
      go_wp2_with fail
      refine (HW.out _ HB4.out).mono ?_
      rintro e w90 ⟨rfl, hbx⟩
      have HBX := hid hbx
      clear hbx
      go_wp2
      go_ret
      exact ⟨rfl, HBX.out⟩
end Go.Proofs.Ytcpbpamnhdnanaa
