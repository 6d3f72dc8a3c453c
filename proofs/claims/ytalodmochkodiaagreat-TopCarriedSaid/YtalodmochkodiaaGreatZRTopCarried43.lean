/-
  WHAT IT HOLDS: plain theory: carried libraries; Moved, carried by a dictionary that is one to one. No program in sight.
  WHAT IT HOLDS: plain theory: Chain, carried by a dictionary that is one to one. No program in sight.
  WHAT IT HOLDS: plain theory: what proofs say of carried givens; Chain, carried by a dictionary that is one to one. No program in sight.
-/
import Derived.Test.YtalodmochkodiaaGreatZRTopCarried37
import Derived.Test.YtalodmochkodiaaGreatZRTopCarried41
import Derived.Test.YtalodmochkodiaaGreatZRTopCarried38
import Derived.Test.YtalodmochkodiaaGreatZRTopCarried42
namespace Go.Proofs.YtalodmochkodiaaGreat
open Go Go.RowKit Go.Maps
theorem names_car (a : Sg) (d : Dic) (l : List En) : (l.map (carE a d)).map En.name = l.map En.name := by
  rw [List.map_map]; rfl
theorem idxN_car (a : Sg) (d : Dic) (l : List En) (n : Nm) : idxN (l.map (carE a d)) n = idxN l n := by unfold idxN; rw [names_car]
theorem saysN_car (a : Sg) (d : Dic) (l : List En) (n : Nm) : saysN (l.map (carE a d)) n = (saysN l n).map (carC a d) := by
  unfold saysN
  rw [idxN_car]
  cases idxN l n with
  | none => rfl
  | some i =>
    show ((l.map (carE a d))[i]?).map En.says = ((l[i]?).map En.says).map (carC a d)
    rw [List.getElem?_map]
    cases l[i]? <;> rfl
theorem givL_car (a : Sg) (d : Dic) (l : List En) : ∀ ns, givL (l.map (carE a d)) ns = (givL l ns).map (List.map (carC a d))
  | [] => rfl
  | n :: ns => by
    unfold givL
    rw [saysN_car, givL_car a d l ns]
    cases saysN l n <;> cases givL l ns <;> rfl
theorem ent_car {a b : Sg} {d : Dic} (hd : DicOK a b d) {x : En} (h : EnOK a x) : EnOK b (carE a d x) :=
  ⟨h.name, h.who, carC_term hd h.says, canonL_canon _, h.len, h.nd, h.uses, h.ax, h.proof⟩
theorem lib_car {a b : Sg} {d : Dic} (hd : DicOK a b d) {l : List En} (h : libB a l = true) : libB b (l.map (carE a d)) = true := by
  have h := libB_iff.1 h
  refine libB_iff.2 ⟨hd.sb, by rw [List.length_map]; exact h.len, fun x hx => ?_, by rw [names_car]; exact h.nd⟩
  obtain ⟨y, hy, rfl⟩ := List.mem_map.1 hx
  exact ent_car hd (h.ents y hy)
theorem frI_car {a b : Sg} {d : Dic} (hd : DicOK a b d) {l : List En} (h : libB a l = true) (o w : Nm) (ns : List Nm) : frI b (l.map (carE a d)) o w ns = frI a l o w ns := by
  unfold frI nmdI
  rw [lib_car hd h, h, givL_car, idxN_car]
  simp
theorem says_lib {s : Sg} {l : List En} (h : libB s l = true) {n : Nm} {p : List Int} (hp : saysN l n = some p) : termB s p = true ∧ canonL p = p ∧ nmB n = true := by
  unfold saysN at hp
  cases e : idxN l n with
  | none => rw [e] at hp; cases hp
  | some i =>
    rw [e] at hp
    obtain ⟨hi, hn⟩ := idxN_some e
    have hp : (l[i]?).map En.says = some p := hp
    rw [List.getElem?_eq_getElem hi] at hp
    simp only [Option.map_some, Option.some.injEq] at hp
    have := (libB_iff.1 h).ents _ (List.getElem_mem hi)
    subst hp
    exact ⟨this.says, this.can, by rw [← hn]; exact this.name⟩
theorem frI_ok3 {s : Sg} {l : List En} {o w : Nm} {ns : List Nm} (h : frI s l o w ns = 0) : libB s l = true ∧ nmB o = true ∧ nmB w = true := by
  unfold frI at h
  split at h
  · rename_i hh
    simp only [Bool.and_eq_true] at hh
    exact ⟨hh.1, hh.2.1, hh.2.2⟩
  · cases h
theorem det_okc {s : Sg} {m n r : List Int} (h : DetR s m n (r, 0)) : termB s r = true ∧ canonL r = r := by
  rcases h with ⟨-, h⟩ | ⟨hm, -, ⟨-, h⟩ | ⟨A, B, -, tA, tB, hu⟩⟩
  · cases h
  · cases h
  · rcases hu with ⟨-, h⟩ | ⟨k, hk, ⟨g, h⟩ | ⟨-, h⟩⟩
    · cases h
    · have e : r = canonL (fw k B) := congrArg Prod.fst h
      subst e
      exact ⟨made_term (termB_facts hm).1 (fw_T hk.1 (tB.mono (by omega))) g, canonL_canon _⟩
    · cases h
theorem one_lib {s : Sg} {x : En} (hs : signB s = true) (h : EnOK s x) : libB s [x] = true :=
  libB_iff.2 ⟨hs, by simp, fun y hy => by simp at hy; rw [hy]; exact h, by simp⟩
theorem movR_car {a b : Sg} {d : Dic} (h : oneB a b d = true) {l : List En} (hl : libB a l = true) {f n o w : Nm} {x y : En} {e g : Int} (hx : MovR a l f n o w x e) (hy : MovR b (l.map (carE a d)) f n o w y g) :
    e = g ∧ (e = 0 → y = carE a d x ∧ libB a [x] = true) := by
  have hd := (oneB_ok h).toDicOK
  have hf := frI_car hd hl o w [f, n]
  rcases hx with ⟨h1, rfl, rfl⟩ | ⟨h1, p, q, z, hp, hq, hdt, hx⟩
  · rcases hy with ⟨k1, rfl, rfl⟩ | ⟨k1, -⟩
    · exact ⟨hf.symm, fun h0 => absurd h0 h1⟩
    · rw [hf] at k1; exact absurd k1 h1
  · rcases hy with ⟨k1, -⟩ | ⟨-, p', q', z', hp', hq', hdt', hy⟩
    · rw [hf] at k1; exact absurd h1 k1
    · rw [saysN_car, hp] at hp'
      rw [saysN_car, hq] at hq'
      obtain rfl : carC a d p = p' := by simpa using hp'
      obtain rfl : carC a d q = q' := by simpa using hq'
      obtain ⟨vp, -, nf⟩ := says_lib hl hp
      obtain ⟨vq, -, nn⟩ := says_lib hl hq
      have hz := car_det h vp vq hdt hdt'
      have hz2 : z'.2 = z.2 := by rw [hz]; rfl
      rcases hx with ⟨e1, rfl, rfl⟩ | ⟨e1, rfl, rfl⟩
      · rcases hy with ⟨g1, rfl, rfl⟩ | ⟨g1, rfl, rfl⟩
        · exact ⟨hz2.symm, fun h0 => absurd h0 e1⟩
        · rw [hz2] at g1; exact absurd g1 e1
      · rcases hy with ⟨g1, rfl, rfl⟩ | ⟨g1, rfl, rfl⟩
        · rw [hz2] at g1; exact absurd e1 g1
        · refine ⟨rfl, fun _ => ⟨?_, ?_⟩⟩
          · have : z'.1 = canonL (carL a d z.1) := by rw [hz]; unfold carX; rw [if_pos e1]
            unfold carE
            rw [this]
          · obtain ⟨-, no, nw⟩ := frI_ok3 h1
            obtain ⟨r, rz⟩ := z
            simp only at e1
            subst e1
            obtain ⟨vr, cr⟩ := det_okc hdt
            refine one_lib hd.sa ⟨no, nw, vr, cr, ?_, ?_, ?_, ?_, ?_⟩
            · show (if f = n then [f] else [f, n]).length ≤ 12
              split <;> simp
            · show (if f = n then [f] else [f, n]).Nodup
              split
              · simp
              · rename_i hne; simp; exact hne
            · show ∀ u ∈ (if f = n then [f] else [f, n]), nmB u = true
              intro u hu
              split at hu
              · simp at hu; subst hu; exact nf
              · simp at hu; rcases hu with rfl | rfl; exact nf; exact nn
            · show (if f = n then mvP1 else mvP).length = 0 → _
              intro hh
              split at hh <;> simp [mvP, mvP1] at hh
            · show _ → proofB (if f = n then [f] else [f, n]).length (if f = n then mvP1 else mvP) = true
              intro _
              split
              · exact (show proofB 1 mvP1 = true by decide)
              · exact (show proofB 2 mvP = true by decide)
end Go.Proofs.YtalodmochkodiaaGreat
namespace Go.Proofs.YtalodmochkodiaaGreat
open Go Go.RowKit Go.Maps
theorem car_sid {a b : Sg} {d : Dic} (h : oneB a b d = true) {p : List Int} (hp : termB a p = true) {z z' : Bool} {A B A' B' : List Int} (hx : SidR a p z A B) (hy : SidR b (carC a d p) z' A' B') :
    z' = z ∧ (z = true → p = 0 :: (A ++ B) ∧ IsT a 12 A ∧ IsT a 12 B ∧ carC a d p = 0 :: (A' ++ B') ∧ IsT b 12 A' ∧ IsT b 12 B') := by
  have hh := carC_head h (termB_T hp)
  rcases hx with ⟨rfl, h1, -, -⟩ | ⟨rfl, h1, h2, h3⟩
  · rcases hy with ⟨rfl, -, -, -⟩ | ⟨rfl, k1, -, -⟩
    · exact ⟨rfl, fun h => by cases h⟩
    · exact absurd (hh.1 (by rw [k1]; rfl)) h1
  · rcases hy with ⟨rfl, k1, -, -⟩ | ⟨rfl, k1, k2, k3⟩
    · exact absurd (hh.2 (by rw [h1]; rfl)) k1
    · exact ⟨rfl, fun _ => ⟨h1, h2, h3, k1, k2, k3⟩⟩
theorem canon_re2' {P N X : List Int} {s : Sg} (hX : IsT s 12 X) (hs : ∀ n ∈ X, n < 0 → n ∈ N) (Q : List Int) : aparL (subL (reT N Q) X) = subL (reT P N) (aparL X) := by
  rw [aparL_sub, aparL_sub X, subL_comp, subL_comp]
  refine subL_congr fun n hn h0 => ?_
  have := hX.vars n hn h0
  have hm : n ∈ varsF [] N := (varsF_mem N [] n).2 (Or.inr ⟨hs n hn h0, h0⟩)
  have h1 : numV (varsF [] N) n < 0 := numV_neg.2 h0
  unfold reT
  rw [if_pos (by omega), subL_one, subL_one, if_pos (show n - 12 < 0 by omega)]
  unfold reV
  rw [if_pos hm, if_pos h1, if_neg (by omega), show n - 12 + 12 = n by omega, if_pos hm]
theorem car_meets {a b : Sg} {d : Dic} (h : oneB a b d = true) {A B C D B' C' A' D' : List Int} (hp : termB a (0 :: (A ++ B)) = true) (hq : termB a (0 :: (C ++ D)) = true) (tA : IsT a 12 A) (tB : IsT a 12 B) (tC : IsT a 12 C) (tD : IsT a 12 D)
    (ep : carC a d (0 :: (A ++ B)) = 0 :: (A' ++ B')) (eq : carC a d (0 :: (C ++ D)) = 0 :: (C' ++ D')) (tA' : IsT b 12 A') (tB' : IsT b 12 B') (tC' : IsT b 12 C') (tD' : IsT b 12 D') {z z' : Bool} (hz : MeetsA a B C z) (hz' : MeetsA b B' C' z') : z' = z := by
  have hd := oneB_ok h
  have hdic := one_dic h
  have lp := (termB_facts hp).2.2.2
  have lq := (termB_facts hq).2.2.2
  have lp' := (termB_facts (carC_term hd.toDicOK hp)).2.2.2
  have lq' := (termB_facts (carC_term hd.toDicOK hq)).2.2.2
  rw [ep] at lp'
  rw [eq] at lq'
  simp at lp lq lp' lq'
  have vB : termB a B = true := T_termB hd.sa tB (by omega)
  have vC : termB a C = true := T_termB hd.sa tC (by omega)
  have vB' : termB b B' = true := T_termB hd.sb tB' (by omega)
  have vC' : termB b C' = true := T_termB hd.sb tC' (by omega)
  have tP := termB_T (car_term hd.toDicOK hp)
  have tQ := termB_T (car_term hd.toDicOK hq)
  have hPs := carL_zero hdic tA tB
  have hQs := carL_zero hdic tC tD
  obtain ⟨-, eB⟩ := carC_sides hdic tA tB hp (carL a d (0 :: (C ++ D))) ep tA' tB'
  obtain ⟨eC, -⟩ := carC_sides hdic tC tD hq [] eq tC' tD'
  have hsC : ∀ n ∈ carL a d C, n < 0 → n ∈ carL a d (0 :: (C ++ D)) := fun k hk _ => by rw [hQs]; simp [hk]
  have eC2 : aparL C' = subL (reT (carL a d (0 :: (A ++ B))) (carL a d (0 :: (C ++ D)))) (carL a d (aparL C)) := by
    rw [eC, carL_apar hd.toDicOK tC]
    exact canon_re2' (carL_T hd.toDicOK tC) hsC []
  have hno : NoU b B' (aparL C') ↔ NoU a B (aparL C) := by
    rw [eB, eC2]
    refine car_ren_no hd (tB.mono (by omega)) (aparL_T tC) (reT_24 (vars_le_m tP) (vars_le_m tQ)) (baT_24 (carL a d (0 :: (A ++ B))) (carL a d (0 :: (C ++ D)))) ?_ ?_
    · exact back_side (vars_le_m tP) (carL_T hd.toDicOK tB) fun k hk _ => by rw [hPs]; simp [hk]
    · rw [carL_apar hd.toDicOK tC]
      exact back_apar (vars_le_m tQ) (carL_T hd.toDicOK tC) hsC
  have key : z' = true ↔ z = true := by
    refine (show z' = true ↔ _ from hz').trans (Iff.trans ?_ (show z = true ↔ _ from hz).symm)
    unfold MeetsQ
    rw [vB, vC, vB', vC', hno]
  exact Bool.eq_iff_iff.2 key
theorem car_alike {a b : Sg} {d : Dic} (h : oneB a b d = true) {p t : List Int} (hp : termB a p = true) (ht : termB a t = true) (he : carL a d t = t) : alikeB b (carC a d p) t = alikeB a p t := by
  have hd := oneB_ok h
  have vt : termB b t = true := by have := car_term hd.toDicOK ht; rwa [he] at this
  unfold alikeB
  rw [carC_term hd.toDicOK hp, hp, ht, vt, Bool.eq_iff_iff]
  simp only [Bool.true_and, decide_eq_true_eq]
  unfold carC
  rw [canonL_canon]
  have tp := (termB_T hp)
  have tt := (termB_T ht)
  constructor
  · intro e
    have e' : canonL (carL a d p) = canonL (carL a d t) := by rw [he]; exact e
    have i1 := (car_inst hd tp tt).1 (canon_inst (carL_T hd.toDicOK tt) e')
    have i2 := (car_inst hd tt tp).1 (canon_inst (carL_T hd.toDicOK tp) e'.symm)
    exact inst_alike i1 i2
  · intro e
    rw [← car_canon hd.toDicOK tp, e, car_canon hd.toDicOK tt, he]
theorem car_sayN {a b : Sg} {d : Dic} (h : oneB a b d = true) {l : List En} (hl : libB a l = true) {t : List Int} (ht : termB a t = true) (he : carL a d t = t) : sayN b (l.map (carE a d)) t = sayN a l t := by
  have hI : sayI b (l.map (carE a d)) t = sayI a l t := by
    unfold sayI
    rw [List.length_map]
    refine firstI_congr fun i hi => ?_
    have e1 : ((l.map (carE a d)).map En.says).getD i [] = carC a d l[i].says := by simp [List.getD_eq_getElem?_getD, hi]; rfl
    have e2 : (l.map En.says).getD i [] = l[i].says := by simp [List.getD_eq_getElem?_getD, hi]
    rw [e1, e2]
    exact car_alike h ((libB_iff.1 hl).ents _ (List.getElem_mem hi)).says ht he
  unfold sayN
  rw [hI]
  split
  · rfl
  · rw [List.getD_eq_getElem?_getD, List.getD_eq_getElem?_getD, List.getElem?_map]
    cases l[(sayI a l t).toNat]? <;> rfl
theorem sk_T {a : Sg} (h : signB a = true) : IsT a 12 sL ∧ IsT a 12 kL := by
  have two : ∀ {x y : List Int}, IsT a 12 x → IsT a 12 y → IsT a 12 (0 :: (x ++ y)) := by
    intro x y hx hy
    have := IsT.app (s := a) (m := 12) 0 [x, y] (ar_zero h).1 (by rw [(ar_zero h).2]; rfl) (by intro z hz; simp at hz; rcases hz with rfl | rfl <;> assumption)
    simpa using this
  have v : ∀ n : Int, -12 ≤ n → n < 0 → IsT a 12 [n] := fun n h1 h2 => .var n h1 h2
  have v1 := v (-1) (by omega) (by omega)
  have v2 := v (-2) (by omega) (by omega)
  have v3 := v (-3) (by omega) (by omega)
  exact ⟨two (two v1 (two v2 v3)) (two (two v1 v2) (two v1 v3)), two v1 (two v2 v1)⟩
theorem sk_car {a b : Sg} {d : Dic} (h : dicB a b d = true) : carL a d sL = sL ∧ carL a d kL = kL := by
  have hs := (dicB_ok h).sa
  have two : ∀ {x y : List Int}, IsT a 12 x → IsT a 12 y → IsT a 12 (0 :: (x ++ y)) := by
    intro x y hx hy
    have := IsT.app (s := a) (m := 12) 0 [x, y] (ar_zero hs).1 (by rw [(ar_zero hs).2]; rfl) (by intro z hz; simp at hz; rcases hz with rfl | rfl <;> assumption)
    simpa using this
  have car : ∀ {x y : List Int}, IsT a 12 x → IsT a 12 y → carL a d x = x → carL a d y = y → carL a d (0 :: (x ++ y)) = 0 :: (x ++ y) := by
    intro x y hx hy e1 e2
    rw [carL_zero h hx hy, e1, e2]
  have v : ∀ n : Int, -12 ≤ n → n < 0 → IsT a 12 [n] := fun n h1 h2 => .var n h1 h2
  have v1 := v (-1) (by omega) (by omega)
  have v2 := v (-2) (by omega) (by omega)
  have v3 := v (-3) (by omega) (by omega)
  have c : ∀ n : Int, n < 0 → carL a d [n] = [n] := fun n hn => carL_var _ _ hn
  have c1 := c (-1) (by omega)
  have c2 := c (-2) (by omega)
  have c3 := c (-3) (by omega)
  refine ⟨?_, ?_⟩
  · exact car (two v1 (two v2 v3)) (two (two v1 v2) (two v1 v3)) (car v1 (two v2 v3) c1 (car v2 v3 c2 c3)) (car (two v1 v2) (two v1 v3) (car v1 v2 c1 c2) (car v1 v3 c1 c3))
  · exact car v1 (two v2 v1) c1 (car v2 v1 c2 c1)
theorem sk_term {a : Sg} (h : signB a = true) : termB a sL = true ∧ termB a kL = true := ⟨T_termB h (sk_T h).1 (by decide), T_termB h (sk_T h).2 (by decide)⟩
end Go.Proofs.YtalodmochkodiaaGreat
namespace Go.Proofs.YtalodmochkodiaaGreat
open Go Go.RowKit Go.Maps
theorem getD_car (a : Sg) (d : Dic) (g : List (List Int)) {i : Nat} (h : i < g.length) : (g.map (carC a d)).getD i [] = carC a d (g.getD i []) := by
  simp [List.getD_eq_getElem?_getD, h]
theorem getD_mem {g : List (List Int)} {i : Nat} (h : i < g.length) : g.getD i [] ∈ g := by
  rw [List.getD_eq_getElem?_getD, List.getElem?_eq_getElem h]
  exact List.getElem_mem h
theorem right_cases {g k : Nat} {x : St} (h : rightB g k x = true) : (x.1 = 1 ∧ x.2.1.toNat < g) ∨ (x.1 ≠ 1 ∧ x.2.1.toNat < k ∧ x.2.2.toNat < k) := by
  unfold rightB at h
  split at h
  · rename_i h1
    simp only [Bool.and_eq_true] at h
    have := inB_true.1 h.1
    exact Or.inl ⟨h1, by omega⟩
  · rename_i h1
    split at h
    · simp only [Bool.and_eq_true] at h
      have e1 := inB_true.1 h.1
      have e2 := inB_true.1 h.2
      exact Or.inr ⟨h1, by omega, by omega⟩
    · cases h
theorem say_T {s : Sg} {g L : List (List Int)} (hg : ∀ t ∈ g, termB s t = true) {x : St} (hr : rightB g.length L.length x = true) {t : List Int} (h : sayR s g L x (t, 0)) : termB s t = true := by
  unfold sayR at h
  rcases right_cases hr with ⟨h1, h2⟩ | ⟨h1, -, -⟩
  · rw [if_pos h1] at h
    have e : t = canonL (g.getD x.2.1.toNat []) := congrArg Prod.fst h
    rw [e]
    exact canon_termC (hg _ (getD_mem h2))
  · rw [if_neg h1] at h
    exact (det_okc h).1
theorem car_sayR {a b : Sg} {d : Dic} (h : oneB a b d = true) {g L : List (List Int)} (hg : ∀ t ∈ g, termB a t = true) (hL : ∀ t ∈ L, termB a t = true) {st : St} (hr : rightB g.length L.length st = true) {x y : List Int × Int} (hx : sayR a g L st x) (hy : sayR b (g.map (carC a d)) (L.map (carC a d)) st y) : y = carX a d x := by
  have hd := oneB_ok h
  unfold sayR at hx hy
  rcases right_cases hr with ⟨h1, h2⟩ | ⟨h1, h2, h3⟩
  · rw [if_pos h1] at hx hy
    rw [hx, hy, getD_car a d g h2]
    unfold carX carC
    rw [if_pos rfl, canonL_canon, car_canon hd.toDicOK (termB_T (hg _ (getD_mem h2)))]
  · rw [if_neg h1] at hx hy
    rw [getD_car a d L h2, getD_car a d L h3] at hy
    exact car_det h (hL _ (getD_mem h2)) (hL _ (getD_mem h3)) hx hy
theorem run_T {s : Sg} {g : List (List Int)} {p : List St} {l : List (List Int)} {e : Int} (hg : ∀ t ∈ g, termB s t = true) (hp : proofB g.length p = true) (h : RunR s g p l e) : l.length ≤ p.length ∧ ∀ t ∈ l, termB s t = true := by
  have hl : l.length ≤ p.length := by rcases h.2 with ⟨-, h⟩ | ⟨-, h, -⟩ <;> omega
  refine ⟨hl, fun t ht => ?_⟩
  obtain ⟨i, hi, rfl⟩ := List.getElem_of_mem ht
  obtain ⟨st, hst, hs⟩ := h.1 i l[i] (List.getElem?_eq_getElem hi)
  obtain ⟨hi2, e2⟩ := List.getElem?_eq_some_iff.1 hst
  have hr := proofB_at hp hi2
  rw [e2] at hr
  refine say_T hg ?_ hs
  rw [List.length_take, Nat.min_eq_left (by omega)]
  exact hr
theorem car_run {a b : Sg} {d : Dic} (h : oneB a b d = true) {g : List (List Int)} {p : List St} {l l' : List (List Int)} {e e' : Int} (hg : ∀ t ∈ g, termB a t = true) (hp : proofB g.length p = true) (hx : RunR a g p l e) (hy : RunR b (g.map (carC a d)) p l' e') :
    l' = l.map (carC a d) ∧ e' = e := by
  obtain ⟨hl, hT⟩ := run_T hg hp hx
  have hl' : l'.length ≤ p.length := by rcases hy.2 with ⟨-, h⟩ | ⟨-, h, -⟩ <;> omega
  -- one step more
  have step : ∀ n, n ≤ l.length → ∀ (st : St), p[n]? = some st → ∀ x y, sayR a g (l.take n) st x → sayR b (g.map (carC a d)) ((l.take n).map (carC a d)) st y → y = carX a d x := by
    intro n hn st hst x y h1 h2
    obtain ⟨hi2, e2⟩ := List.getElem?_eq_some_iff.1 hst
    have hr := proofB_at hp hi2
    rw [e2] at hr
    refine car_sayR h hg (fun t ht => hT t (List.mem_of_mem_take ht)) ?_ h1 h2
    rw [List.length_take, Nat.min_eq_left hn]
    exact hr
  have key : ∀ n, n ≤ l.length → n ≤ l'.length → l'.take n = (l.take n).map (carC a d) := by
    intro n
    induction n with
    | zero => intro _ _; simp
    | succ n ih =>
      intro h1 h2
      have e0 := ih (by omega) (by omega)
      rw [List.take_succ_eq_append_getElem (by omega), List.take_succ_eq_append_getElem (by omega), e0, List.map_append]
      obtain ⟨st, hst, hs1⟩ := hx.1 n l[n] (by simp [List.getElem?_eq_getElem (show n < l.length by omega)])
      obtain ⟨st', hst', hs2⟩ := hy.1 n l'[n] (by simp [List.getElem?_eq_getElem (show n < l'.length by omega)])
      rw [hst] at hst'
      cases hst'
      rw [e0] at hs2
      have e1 := step n (by omega) st hst _ _ hs1 hs2
      have e1 := congrArg Prod.fst e1
      unfold carX at e1
      rw [if_pos rfl] at e1
      simp only at e1
      rw [e1]
      rfl
  rcases Nat.lt_trichotomy l.length l'.length with hlt | heq | hlt
  · exfalso
    rcases hx.2 with ⟨-, h2⟩ | ⟨h1, h2, st, t, h3, h4⟩
    · omega
    · obtain ⟨st', hst', hs⟩ := hy.1 l.length l'[l.length] (by simp [List.getElem?_eq_getElem hlt])
      rw [h3] at hst'
      cases hst'
      have e0 := key l.length (Nat.le_refl _) (by omega)
      rw [e0] at hs
      have e1 := step l.length (Nat.le_refl _) st h3 _ _ (by rw [List.take_length]; exact h4) hs
      exact h1 (congrArg Prod.snd e1).symm
  · have e0 := key l.length (Nat.le_refl _) (by omega)
    rw [List.take_length, heq, List.take_length] at e0
    refine ⟨e0, ?_⟩
    rcases hx.2 with ⟨h1, h2⟩ | ⟨h1, h2, st, t, h3, h4⟩
    · rcases hy.2 with ⟨k1, k2⟩ | ⟨-, k2, -⟩
      · rw [h1, k1]
      · omega
    · rcases hy.2 with ⟨-, k2⟩ | ⟨-, -, st', t', k3, k4⟩
      · omega
      · rw [← heq, h3] at k3
        cases k3
        rw [e0] at k4
        have e1 := step l.length (Nat.le_refl _) st h3 (t, e) (t', e') (by rw [List.take_length]; exact h4) (by rw [List.take_length]; exact k4)
        exact congrArg Prod.snd e1
  · exfalso
    rcases hy.2 with ⟨-, h2⟩ | ⟨h1, h2, st, t, h3, h4⟩
    · omega
    · obtain ⟨st', hst', hs⟩ := hx.1 l'.length l[l'.length] (by simp [List.getElem?_eq_getElem hlt])
      rw [h3] at hst'
      cases hst'
      have e0 := key l'.length (by omega) (Nat.le_refl _)
      rw [List.take_length] at e0
      rw [e0] at h4
      have e1 := step l'.length (by omega) st h3 _ _ hs h4
      exact h1 (congrArg Prod.snd e1)
theorem allB_iff' {s : Sg} {g : List (List Int)} : allB s g = true ↔ ∀ t ∈ g, termB s t = true := by
  unfold allB
  simp
theorem car_asked {a b : Sg} {d : Dic} (hd : DicOK a b d) {g : List (List Int)} (hg : ∀ t ∈ g, termB a t = true) (p : List St) : askedB b (g.map (carC a d)) p = askedB a g p := by
  have hb : allB b (g.map (carC a d)) = true := by
    refine allB_iff'.2 fun t ht => ?_
    obtain ⟨u, hu, rfl⟩ := List.mem_map.1 ht
    exact carC_term hd (hg u hu)
  have ha : allB a g = true := allB_iff'.2 hg
  unfold askedB givensB
  rw [hd.sa, hd.sb, List.length_map, ha, hb]
theorem car_sayP {a b : Sg} {d : Dic} (h : oneB a b d = true) {g : List (List Int)} {p : List St} (hg : ∀ t ∈ g, termB a t = true) {x y : List Int × Int} (hx : SayP a g p x) (hy : SayP b (g.map (carC a d)) p y) : y = carX a d x := by
  have hd := (oneB_ok h).toDicOK
  have ha := car_asked hd hg p
  rcases hx with ⟨h1, rfl⟩ | ⟨h1, l, hr, hx⟩
  · rcases hy with ⟨-, rfl⟩ | ⟨k1, -⟩
    · rfl
    · rw [ha, h1] at k1; cases k1
  · rcases hy with ⟨k1, -⟩ | ⟨-, l', hr', hy⟩
    · rw [ha, h1] at k1; cases k1
    · obtain ⟨e1, e2⟩ := car_run h hg (asked_parts h1).2 hr hr'
      obtain ⟨x1, x2⟩ := x
      obtain ⟨y1, y2⟩ := y
      simp only at e2 hx hy hr hr'
      subst e2
      unfold carX
      rcases hx with ⟨h2, h3⟩ | ⟨h2, h3⟩
      · rcases hy with ⟨-, k3⟩ | ⟨k2, -⟩
        · rw [e1, List.getLast?_map, h3] at k3
          simp only [Option.map_some, Option.some.injEq] at k3
          rw [← k3, if_pos h2]
          rfl
        · exact absurd h2 k2
      · rcases hy with ⟨k2, -⟩ | ⟨-, k3⟩
        · exact absurd k2 h2
        · rw [if_neg h2, k3]
theorem givL_T {s : Sg} {l : List En} (hl : libB s l = true) : ∀ {ns : List Nm} {g : List (List Int)}, givL l ns = some g → ∀ t ∈ g, termB s t = true
  | [], g, h, t, ht => by cases h; simp at ht
  | n :: ns, g, h, t, ht => by
    unfold givL at h
    cases h1 : saysN l n with
    | none => rw [h1] at h; cases h
    | some u =>
      cases h2 : givL l ns with
      | none => rw [h1, h2] at h; cases h
      | some us =>
        rw [h1, h2] at h
        cases h
        rcases List.mem_cons.1 ht with rfl | ht
        · exact (says_lib hl h1).1
        · exact givL_T hl h2 t ht
theorem chaR_car {a b : Sg} {d : Dic} (h : oneB a b d = true) {l : List En} (hl : libB a l = true) {f n o w : Nm} {x y : En} {e g : Int} (hx : ChaR a l f n o w x e) (hy : ChaR b (l.map (carE a d)) f n o w y g) :
    e = g ∧ (e = 0 → y = carE a d x ∧ libB a [x] = true) := by
  have hd := (oneB_ok h).toDicOK
  have hdic := one_dic h
  have hf := frI_car hd hl o w [f, n]
  have hsS := car_sayN h hl (sk_term hd.sa).1 (sk_car hdic).1
  have hsK := car_sayN h hl (sk_term hd.sa).2 (sk_car hdic).2
  have hv : e = 0 → libB a [x] = true := fun e0 => by
    subst e0
    exact one_lib hd.sa (entryB_iff.1 (chain_holds hx).2.1)
  rcases hx with ⟨h1, rfl, rfl⟩ | ⟨h1, p, q, z1, z2, A, B, C, D, hp, hq, s1, s2, hx⟩
  · rcases hy with ⟨k1, rfl, rfl⟩ | ⟨k1, -⟩
    · exact ⟨hf.symm, fun h0 => absurd h0 h1⟩
    · rw [hf] at k1; exact absurd k1 h1
  · rcases hy with ⟨k1, -⟩ | ⟨-, p', q', z1', z2', A', B', C', D', hp', hq', s1', s2', hy⟩
    · rw [hf] at k1; exact absurd h1 k1
    · rw [saysN_car, hp] at hp'
      rw [saysN_car, hq] at hq'
      obtain rfl : carC a d p = p' := by simpa using hp'
      obtain rfl : carC a d q = q' := by simpa using hq'
      obtain ⟨vp, -, -⟩ := says_lib hl hp
      obtain ⟨vq, -, -⟩ := says_lib hl hq
      obtain ⟨rfl, i1⟩ := car_sid h vp s1 s1'
      obtain ⟨rfl, i2⟩ := car_sid h vq s2 s2'
      rcases hx with ⟨h2, rfl, rfl⟩ | ⟨rfl, rfl, z, hz, hx⟩
      · rcases hy with ⟨-, rfl, rfl⟩ | ⟨rfl, rfl, -⟩
        · exact ⟨rfl, fun h0 => by cases h0⟩
        · simp at h2
      · rcases hy with ⟨k2, -, -⟩ | ⟨-, -, z', hz', hy⟩
        · simp at k2
        · obtain ⟨rfl, tA, tB, ep, tA', tB'⟩ := i1 rfl
          obtain ⟨rfl, tC, tD, eq, tC', tD'⟩ := i2 rfl
          obtain rfl := car_meets h vp vq tA tB tC tD ep eq tA' tB' tC' tD' hz hz'
          rw [hsS, hsK] at hy
          rcases hx with ⟨h3, rfl, rfl⟩ | ⟨rfl, h4, h5, hx⟩
          · rcases hy with ⟨-, rfl, rfl⟩ | ⟨rfl, k4, k5, -⟩
            · exact ⟨rfl, fun h0 => by cases h0⟩
            · rcases h3 with h3 | h3 | h3
              · cases h3
              · exact absurd h3 k4
              · exact absurd h3 k5
          · rcases hy with ⟨k3, -⟩ | ⟨-, -, -, hy⟩
            · rcases k3 with k3 | k3 | k3
              · cases k3
              · exact absurd k3 h4
              · exact absurd k3 h5
            · obtain ⟨G, u, hG, hu, hx⟩ := hx
              obtain ⟨G', u', hG', hu', hy⟩ := hy
              rw [givL_car, hG] at hG'
              obtain rfl : G.map (carC a d) = G' := by simpa using hG'
              have e1 := car_sayP h (givL_T hl hG) hu hu'
              have e2 : u'.2 = u.2 := by rw [e1]; rfl
              rcases hx with ⟨h6, rfl, rfl⟩ | ⟨h6, rfl, rfl⟩
              · rcases hy with ⟨-, rfl, rfl⟩ | ⟨k6, -, -⟩
                · exact ⟨rfl, fun h0 => by cases h0⟩
                · rw [e2] at k6; exact absurd k6 h6
              · rcases hy with ⟨k6, -, -⟩ | ⟨-, rfl, rfl⟩
                · rw [e2] at k6; exact absurd h6 k6
                · refine ⟨rfl, fun _ => ⟨?_, hv rfl⟩⟩
                  have : u'.1 = canonL (carL a d u.1) := by rw [e1]; unfold carX; rw [if_pos h6]
                  unfold carE
                  rw [this]
end Go.Proofs.YtalodmochkodiaaGreat
