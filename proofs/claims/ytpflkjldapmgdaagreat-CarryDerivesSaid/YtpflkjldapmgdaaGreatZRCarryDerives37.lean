/-
  WHAT IT HOLDS: the contract of copied of the reference of layer 8. Conditions: the argument reads as data; it is small.
  WHAT IT HOLDS: how a library of the call's own memory lies while it grows; contracts of each of package carry. Conditions: the arguments read as data; small signs, small libraries; the function value that is handed in does what f says to an entry of the call's own.
  WHAT IT HOLDS: a growing row of terms, each in memory of its own; contracts of Args and Alike of the reference of layer 1. Conditions: the arguments read as data.
-/
import Derived.Test.YtpflkjldapmgdaaGreatZRCarryDerives36
import Derived.Test.YtpflkjldapmgdaaGreatZRCarryDerives5
import Derived.Test.YtpflkjldapmgdaaGreatZRCarryDerives35
import Derived.Test.YtpflkjldapmgdaaGreatZRCarryDerives19
namespace Go.Proofs.YtpflkjldapmgdaaGreat
open Go Go.RowKit Go.Maps
theorem C5.set_2 {w : World} {b : Nat} {x0 x1 x2 x3 x4 : Value} (h : C5 w b x0 x1 x2 x3 x4) (y : Value) : C5 (w.setCell ⟨b, 2, none⟩ y) b x0 x1 y x3 x4 := by
  refine ⟨?_, ?_, World.cell?_setCell_same _ _ _ h.c2, ?_, ?_, ?_, ?_, ?_, ?_, ?_⟩
  · rw [World.cell?_setCell_other _ _ _ _ (by simp)]; exact h.c0
  · rw [World.cell?_setCell_other _ _ _ _ (by simp)]; exact h.c1
  · rw [World.cell?_setCell_other _ _ _ _ (by simp)]; exact h.c3
  · rw [World.cell?_setCell_other _ _ _ _ (by simp)]; exact h.c4
  · rw [World.frozen?_setCell]; exact h.z0
  · rw [World.frozen?_setCell]; exact h.z1
  · rw [World.frozen?_setCell]; exact h.z2
  · rw [World.frozen?_setCell]; exact h.z3
  · rw [World.frozen?_setCell]; exact h.z4
theorem C5.set_3 {w : World} {b : Nat} {x0 x1 x2 x3 x4 : Value} (h : C5 w b x0 x1 x2 x3 x4) (y : Value) : C5 (w.setCell ⟨b, 3, none⟩ y) b x0 x1 x2 y x4 := by
  refine ⟨?_, ?_, ?_, World.cell?_setCell_same _ _ _ h.c3, ?_, ?_, ?_, ?_, ?_, ?_⟩
  · rw [World.cell?_setCell_other _ _ _ _ (by simp)]; exact h.c0
  · rw [World.cell?_setCell_other _ _ _ _ (by simp)]; exact h.c1
  · rw [World.cell?_setCell_other _ _ _ _ (by simp)]; exact h.c2
  · rw [World.cell?_setCell_other _ _ _ _ (by simp)]; exact h.c4
  · rw [World.frozen?_setCell]; exact h.z0
  · rw [World.frozen?_setCell]; exact h.z1
  · rw [World.frozen?_setCell]; exact h.z2
  · rw [World.frozen?_setCell]; exact h.z3
  · rw [World.frozen?_setCell]; exact h.z4
theorem lit_own {w : World} {base : Nat} {e : TypeId} (size : Nat) (h : base ≤ w.heap.size) : (w.alloc (.cells #[] e)).ownsRow base e size (.slice (some ⟨w.heap.size, 0, none⟩) 0 0) 0 [] := by
  have := World.ownsRow_lit (base := base) (e := e) (size := size) w #[] 0 h (by simp [maxLen]) (by simp)
  simpa using this
set_option maxHeartbeats 2000000 in
set_option maxRecDepth 100000 in
theorem ref8_copied (vS vU vP : Value) (x : En) (w : World) (he : EntAt w vS vU vP x) (ls : x.says.length ≤ 1000) (lu : x.uses.length ≤ 1000) (lp : x.proof.length ≤ 1000) :
    Calls Tryz.prog 105 #[.agg #[.string x.name, .string x.who, vS, vU, vP]] w fun e w' => ∃ v, e = .returned v ∧ EnO w' w.heap.size v x ∧ Below w.heap.size w w' := by
  obtain ⟨sa, sc, rfl, -⟩ := he.s.open
  obtain ⟨ua, uc, rfl, -⟩ := he.u.open
  obtain ⟨pa, pc, rfl, -⟩ := he.p.open
  have hC5 := C5.new w (.string x.name) (.string x.who) (.slice sa x.says.length sc) (.slice ua x.uses.length uc) (.slice pa x.proof.length pc) 35
  have hbV : Below w.heap.size w (w.alloc (.cells #[.string x.name, .string x.who, .slice sa x.says.length sc, .slice ua x.uses.length uc, .slice pa x.proof.length pc] 35)) := (Below.refl _ _).alloc (Nat.le_refl _) _
  obtain ⟨V, hV⟩ : ∃ V, w.alloc (.cells #[.string x.name, .string x.who, .slice sa x.says.length sc, .slice ua x.uses.length uc, .slice pa x.proof.length pc] 35) = V := ⟨_, rfl⟩
  have hVz : V.heap.size = w.heap.size + 1 := by rw [← hV]; simp
  rw [hV] at hC5 hbV
  have hR5 := C5.new V (.string ⟨#[]⟩) (.string ⟨#[]⟩) (.slice none 0 0) (.slice none 0 0) (.slice none 0 0) 35
  have hbX : Below V.heap.size V (V.alloc (.cells #[.string ⟨#[]⟩, .string ⟨#[]⟩, .slice none 0 0, .slice none 0 0, .slice none 0 0] 35)) := (Below.refl _ _).alloc (Nat.le_refl _) _
  obtain ⟨X, hX⟩ : ∃ X, V.alloc (.cells #[.string ⟨#[]⟩, .string ⟨#[]⟩, .slice none 0 0, .slice none 0 0, .slice none 0 0] 35) = X := ⟨_, rfl⟩
  have hXz : X.heap.size = w.heap.size + 2 := by rw [← hX, World.size_alloc, hVz]
  rw [hX] at hR5 hbX
  rw [hVz] at hR5
  have C1 := hC5.below hbX
  have hb := hbV.trans (hbX.mono hbV.size)
  have hXe : (w.alloc (.cells #[.string x.name, .string x.who, .slice sa x.says.length sc, .slice ua x.uses.length uc, .slice pa x.proof.length pc] 35)).alloc (.cells #[.string ⟨#[]⟩, .string ⟨#[]⟩, .slice none 0 0, .slice none 0 0, .slice none 0 0] 35) = X := by rw [hV, hX]
  -- the first copy
  have hb1a : Below w.heap.size w (X.alloc (.cells #[] 3)) := hb.alloc (by omega) _
  have hO1 := lit_own (w := X) (base := X.heap.size) (e := 3) 1 (Nat.le_refl _)
  have hR1 : RowK (X.alloc (.cells #[] 3)) _ 1 _ _ := he.s.below hb1a
  have hCa := C1.below (show Below X.heap.size X (X.alloc (.cells #[] 3)) from (Below.refl _ _).alloc (Nat.le_refl _) _)
  have hDa := hR5.below (show Below X.heap.size X (X.alloc (.cells #[] 3)) from (Below.refl _ _).alloc (Nat.le_refl _) _)
  have hza : (X.alloc (.cells #[] 3)).heap.size = w.heap.size + 3 := by rw [World.size_alloc, hXz]
  have hXz' : X.heap.size = w.heap.size + 1 + 1 := by omega
  rw [hXz'] at hO1
  have HE := hid he
  have HN := hid he.n1
  have HN2 := hid he.n2
  have HNU := hid he.u.2
  have HXA : Hid (((w.alloc (.cells #[.string x.name, .string x.who, .slice sa x.says.length sc, .slice ua x.uses.length uc, .slice pa x.proof.length pc] 35)).alloc (.cells #[.string ⟨#[]⟩, .string ⟨#[]⟩, .slice none 0 0, .slice none 0 0, .slice none 0 0] 35)).alloc (.cells #[] 3) = X.alloc (.cells #[] 3)) := hid (by rw [hXe])
  obtain ⟨XA, hXA⟩ : ∃ XA, X.alloc (.cells #[] 3) = XA := ⟨_, rfl⟩
  rw [hXA] at HXA hO1 hR1 hCa hDa hza hb1a
  have HO1 := hid hO1
  have HR1 := hid hR1
  have HCA := hid hCa
  have HDA := hid hDa
  have HB1 := hid hb1a
  have HZA := hid hza
  clear hC5 hbV hV hVz hbX hX hR5 hb he hXe hb1a hO1 hR1 hCa hDa hza hXA C1 hXz hXz' X
  go_enter Tryz.func105, Tryz.ntmps105
  go_wp2_with (first
    | (at_builtin; rw [HXA.out]; refine wpList_append_row rfl (.tmp 3) (.tmp 5) 28 rfl (w.heap.size + 1 + 1) 3 el_int Tryz.underlying28 rfl (by decide) _ _ _ rfl HO1.out _ x.says.length (x.says.map (Value.int .i64)) rfl HR1.out (ints_one _) (by omega) (by omega) (by rw [HZA.out]; omega) ?_
       intro v1 w1 own1' grow1 _
       have own1 : w1.ownsRow (w.heap.size + 1 + 1) 3 1 v1 x.says.length (x.says.map (Value.int .i64)) := (by simpa using own1')
       have gb1 := grow1.block
       have gz1 := grow1.size
       have bw1 := HB1.out.grown grow1 (by rw [HZA.out]; omega) (fun q hq => by cases hq; show w.heap.size ≤ w.heap.size + 1 + 1; omega)
       have C1 := HCA.out.block (gb1 w.heap.size (by rw [HZA.out]; omega) (fun e => by have e2 : w.heap.size = w.heap.size + 1 + 1 := Option.some.inj e; omega))
       have D1 := HDA.out.block (gb1 (w.heap.size + 1) (by rw [HZA.out]; omega) (fun e => by have e2 : w.heap.size + 1 = w.heap.size + 1 + 1 := Option.some.inj e; omega))
       obtain ⟨a1, k1, rfl⟩ := owns_slice own1
       have C1s := C1.set_2 (.slice a1 x.says.length k1)
       have D1s := D1.block (w' := w1.setCell ⟨w.heap.size, 2, none⟩ (.slice a1 x.says.length k1)) (Below.heap_setCell _ _ _ _ (by simp))
       have bw1s := bw1.setCell (p := ⟨w.heap.size, 2, none⟩) (Nat.le_refl _) (.slice a1 x.says.length k1)
       have own1s := owns_blocks (W' := w1.setCell ⟨w.heap.size, 2, none⟩ (.slice a1 x.says.length k1)) own1 (fun q h1 _ _ => Below.heap_setCell _ _ _ _ (by simp only; omega))
       have zs1 : (w1.setCell ⟨w.heap.size, 2, none⟩ (.slice a1 x.says.length k1)).heap.size = w1.heap.size := (by simp)
       have z1w : w.heap.size + 3 ≤ w1.heap.size := (by have := HZA.out; omega)
       have hO2 := lit_own (w := w1.setCell ⟨w.heap.size, 2, none⟩ (.slice a1 x.says.length k1)) (base := w1.heap.size) (e := 9) 1 (by rw [zs1]; exact Nat.le_refl _)
       rw [zs1] at hO2
       have bw2a := bw1s.alloc (by rw [zs1]; omega) (.cells #[] 9)
       have hR2 := HE.out.u.1.below bw2a
       have bA2 := (Below.refl (w1.setCell ⟨w.heap.size, 2, none⟩ (.slice a1 x.says.length k1)).heap.size (w1.setCell ⟨w.heap.size, 2, none⟩ (.slice a1 x.says.length k1))).alloc (Nat.le_refl _) (.cells #[] 9)
       have C2a := hid (C1s.below bA2)
       have D2a := hid (D1s.below bA2)
       have own1a := hid (owns_below own1s bA2)
       have O1L := hid (fun q h => (own1.lt q h).2)
       have Z2a := hid (show ((w1.setCell ⟨w.heap.size, 2, none⟩ (.slice a1 x.says.length k1)).alloc (.cells #[] 9)).heap.size = w1.heap.size + 1 from (by rw [World.size_alloc, zs1]))
       have B2a := hid bw2a
       have Z1W := hid z1w
       have lt1 : w.heap.size < w1.heap.size := (by omega)
       have lt1' : w.heap.size + 1 < w1.heap.size := (by omega)
       obtain ⟨c0, c1, c2, c3, c4, z0, z1, z2, z3, z4⟩ := C1
       clear C1s D1s bw1s own1s zs1 z1w bw2a bA2 D1 bw1 gb1 gz1 own1' own1 grow1)
    | (at_builtin; refine wpList_append_row rfl (.tmp 8) (.tmp 10) 32 rfl w1.heap.size 9 el_str Tryz.underlying32 rfl (by decide) _ _ _ rfl hO2 _ x.uses.length (x.uses.map Value.string) rfl hR2 (strs_one _) (by omega) (by omega) (by rw [Z2a.out]; omega) ?_
       intro v2 w2 own2' grow2 _
       have own2 : w2.ownsRow w1.heap.size 9 1 v2 x.uses.length (x.uses.map Value.string) := (by simpa using own2')
       have gb2 : ∀ q, q < w1.heap.size → w2.heap[q]? = _ := fun q hq => grow2.block q (by rw [Z2a.out]; omega) (fun e => by have e2 : q = w1.heap.size := Option.some.inj e; omega)
       have gz2 := grow2.size
       have bw2 := B2a.out.grown grow2 (by rw [Z2a.out]; omega) (fun q hq => by cases hq; show w.heap.size ≤ w1.heap.size; omega)
       have C2 := C2a.out.block (gb2 w.heap.size lt1)
       have D2 := D2a.out.block (gb2 (w.heap.size + 1) lt1')
       have own1b := owns_blocks own1a.out (fun q h1 h2 h3 => gb2 q (O1L.out q h3))
       obtain ⟨a2, k2, rfl⟩ := owns_slice own2
       have C2s := C2.set_3 (.slice a2 x.uses.length k2)
       have D2s := D2.block (w' := w2.setCell ⟨w.heap.size, 3, none⟩ (.slice a2 x.uses.length k2)) (Below.heap_setCell _ _ _ _ (by simp))
       have bw2s := bw2.setCell (p := ⟨w.heap.size, 3, none⟩) (Nat.le_refl _) (.slice a2 x.uses.length k2)
       have own1s := owns_blocks (W' := w2.setCell ⟨w.heap.size, 3, none⟩ (.slice a2 x.uses.length k2)) own1b (fun q h1 _ _ => Below.heap_setCell _ _ _ _ (by simp only; omega))
       have own2s := owns_blocks (W' := w2.setCell ⟨w.heap.size, 3, none⟩ (.slice a2 x.uses.length k2)) own2 (fun q h1 _ _ => Below.heap_setCell _ _ _ _ (by simp only; omega))
       have zs2 : (w2.setCell ⟨w.heap.size, 3, none⟩ (.slice a2 x.uses.length k2)).heap.size = w2.heap.size := (by simp)
       have z2w : w1.heap.size + 1 ≤ w2.heap.size := (by have := Z2a.out; omega)
       have hO3 := lit_own (w := w2.setCell ⟨w.heap.size, 3, none⟩ (.slice a2 x.uses.length k2)) (base := w2.heap.size) (e := 76) 3 (by rw [zs2]; exact Nat.le_refl _)
       rw [zs2] at hO3
       have bw3a := bw2s.alloc (by rw [zs2]; omega) (.cells #[] 76)
       have hR3 : RowK _ _ 3 x.proof.length (stC x.proof) := HE.out.p.below bw3a
       have bA3 := (Below.refl (w2.setCell ⟨w.heap.size, 3, none⟩ (.slice a2 x.uses.length k2)).heap.size (w2.setCell ⟨w.heap.size, 3, none⟩ (.slice a2 x.uses.length k2))).alloc (Nat.le_refl _) (.cells #[] 76)
       have C3a := hid (C2s.below bA3)
       have D3a := hid (D2s.below bA3)
       have own1c := hid (owns_below own1s bA3)
       have own2c := hid (owns_below own2s bA3)
       have O2L := hid (fun q h => (own2.lt q h).2)
       have Z3a := hid (show ((w2.setCell ⟨w.heap.size, 3, none⟩ (.slice a2 x.uses.length k2)).alloc (.cells #[] 76)).heap.size = w2.heap.size + 1 from (by rw [World.size_alloc, zs2]))
       have B3a := hid bw3a
       have Z2W := hid z2w
       have lt2 : w.heap.size < w2.heap.size := (by omega)
       have lt2' : w.heap.size + 1 < w2.heap.size := (by omega)
       clear c0 c1 c2 c3 c4 z0 z1 z2 z3 z4
       obtain ⟨c0, c1, c2, c3, c4, z0, z1, z2, z3, z4⟩ := C2
       clear C2s D2s bw2s own1s own2s zs2 z2w bw3a bA3 D2 bw2 gb2 gz2 own2' own2 grow2 own1b hO2 hR2)
    | (at_builtin; refine wpList_append_row rfl (.tmp 13) (.tmp 15) 33 rfl w2.heap.size 76 el_step Tryz.underlying33 rfl (by decide) _ _ _ rfl hO3 _ x.proof.length (stC x.proof) rfl hR3 (stC_one _) (by omega) (by omega) (by rw [Z3a.out]; omega) ?_
       intro v3 w3 own3' grow3 _
       have own3 : w3.ownsRow w2.heap.size 76 3 v3 x.proof.length (stC x.proof) := (by simpa using own3')
       have gb3 : ∀ q, q < w2.heap.size → w3.heap[q]? = _ := fun q hq => grow3.block q (by rw [Z3a.out]; omega) (fun e => by have e2 : q = w2.heap.size := Option.some.inj e; omega)
       have gz3 := grow3.size
       have bw3 := B3a.out.grown grow3 (by rw [Z3a.out]; omega) (fun q hq => by cases hq; show w.heap.size ≤ w2.heap.size; omega)
       have C3 := C3a.out.block (gb3 w.heap.size lt2)
       have D3 := D3a.out.block (gb3 (w.heap.size + 1) lt2')
       have own1d := owns_blocks own1c.out (fun q h1 h2 h3 => gb3 q (by have := O1L.out q h3; have := Z2W.out; omega))
       have own2d := owns_blocks own2c.out (fun q h1 h2 h3 => gb3 q (O2L.out q h3))
       obtain ⟨a3, k3, rfl⟩ := owns_slice own3
       have hO : EntO w3 (w.heap.size + 2) (.slice a1 x.says.length k1) (.slice a2 x.uses.length k2) (.slice a3 x.proof.length k3) x := ⟨owns_base own1d (by omega), owns_base own2d (by have := Z1W.out; omega), owns_base own3 (by have := Z1W.out; have := Z2W.out; omega), ls, lu, lp, HNU.out, HN.out, HN2.out⟩
       have C3s := C3.set4 (.slice a3 x.proof.length k3)
       have D3s := D3.block (w' := w3.setCell ⟨w.heap.size, 4, none⟩ (.slice a3 x.proof.length k3)) (Below.heap_setCell _ _ _ _ (by simp))
       have bw3s := bw3.setCell (p := ⟨w.heap.size, 4, none⟩) (Nat.le_refl _) (.slice a3 x.proof.length k3)
       have HOO := hid hO
       have HC3 := hid C3s
       have HD3 := hid D3s
       have HB3 := hid bw3s
       clear c0 c1 c2 c3 c4 z0 z1 z2 z3 z4
       obtain ⟨c0, c1, c2, c3, c4, z0, z1, z2, z3, z4⟩ := C3
       obtain ⟨d0, d1, d2, d3, d4, y0, y1, y2, y3, y4⟩ := D3
       clear own1d own2d own3 own3' grow3 gb3 gz3 bw3 C3s D3s bw3s hO hO3 hR3))
  (try simp only [Exit.inBlock, Exit.then])
  clear c0 c1 c2 c3 c4 z0 z1 z2 z3 z4 d0 d1 d2 d3 d4 y0 y1 y2 y3 y4
  obtain ⟨c0, c1, c2, c3, c4, -, -, -, -, -⟩ := HD3.out.store (.string x.name) (.string x.who) (.slice a1 x.says.length k1) (.slice a2 x.uses.length k2) (.slice a3 x.proof.length k3)
  have hall : ∀ q, w.heap.size + 2 ≤ q → (set5 (w3.setCell ⟨w.heap.size, 4, none⟩ (.slice a3 x.proof.length k3)) (w.heap.size + 1) (.string x.name) (.string x.who) (.slice a1 x.says.length k1) (.slice a2 x.uses.length k2) (.slice a3 x.proof.length k3)).heap[q]? = w3.heap[q]? := fun q hq => by rw [heap_set5 _ _ _ _ _ _ _ (by omega)]; exact Below.heap_setCell _ _ _ _ (by simp only; omega)
  have hF := HOO.out.blocks (base' := w.heap.size) (by omega) fun q hq _ => hall q hq
  refine bodyPost_ret (v := .agg #[.string x.name, .string x.who, .slice a1 x.says.length k1, .slice a2 x.uses.length k2, .slice a3 x.proof.length k3]) ?_ rfl ⟨_, rfl, ⟨_, _, _, rfl, hF⟩, set5_below HB3.out (by omega) _ _ _ _ _⟩
  unfold set5 at c0 c1 c2 c3 c4
  clear hall hF
  simp only [results, Tryz.results105]
  go_simp
end Go.Proofs.YtpflkjldapmgdaaGreat
namespace Go.Proofs.YtpflkjldapmgdaaGreat
open Go Go.RowKit Go.Maps
/-- a row of entries of the call's own; what the entries hold does not lie in the row's own block. -/
structure EnS (w : World) (base : Nat) (u : Value) (vs : List V3) (l : List En) : Prop where
  top : w.ownsRow base 35 5 u l.length (ensC l vs)
  len : vs.length = l.length
  rd : ∀ W' : World, (∀ q, q < w.heap.size → some q ≠ u.ownBlock → W'.heap[q]? = w.heap[q]?) → ∀ (j : Nat) (h : j < l.length) (h' : j < vs.length), EntAt W' vs[j].1 vs[j].2.1 vs[j].2.2 l[j]
theorem EnS.nil (w : World) (base : Nat) : EnS w base (.slice none 0 0) [] [] := ⟨World.ownsRow_nil _ _ _ _, rfl, fun _ _ j h => by simp at h⟩
theorem EnS.below {w w' : World} {base : Nat} {u : Value} {vs : List V3} {l : List En} (h : EnS w base u vs l) (hb : Below w.heap.size w w') : EnS w' base u vs l :=
  ⟨owns_below h.top hb, h.len, fun W' hW => h.rd W' fun q hq hne => (hW q (Nat.lt_of_lt_of_le hq hb.size) hne).trans (hb.block q hq)⟩
theorem EnS.ents {w : World} {base : Nat} {u : Value} {vs : List V3} {l : List En} (h : EnS w base u vs l) (hl : l.length ≤ 1000) : EntsV w u vs l :=
  ⟨RowK.of_owns h.top (by omega), h.len, h.rd w fun _ _ _ => rfl⟩
theorem ensC_snoc (l : List En) (x : En) (vs : List V3) (v : V3) (h : vs.length = l.length) : ensC (l ++ [x]) (vs ++ [v]) = ensC l vs ++ enC x v := by
  rw [ensC_append l [x] vs [v] h]
  simp [ensC]
theorem EnS.push {w w1 w2 : World} {base : Nat} {u : Value} {vs : List V3} {l : List En} (h : EnS w base u vs l) (hb : Below w.heap.size w w1) {x : En} {v : V3}
    (hx : ∀ W' : World, (∀ q, q < w1.heap.size → some q ≠ u.ownBlock → W'.heap[q]? = w1.heap[q]?) → EntAt W' v.1 v.2.1 v.2.2 x)
    {g cap n : Nat} (hn : n = l.length) (hown : w2.ownsRow base 35 5 (.slice (some ⟨g, 0, none⟩) (n + 1) cap) (n + 1) (ensC l vs ++ enC x v)) (hg : w1.grownBy w2 u.ownBlock) {H : Nat} (hH : H = w1.heap.size) (hat : u.ownBlock = some g ∨ g = H) :
    EnS w2 base (.slice (some ⟨g, 0, none⟩) (n + 1) cap) (vs ++ [v]) (l ++ [x]) := by
  subst hn
  have hb1 := h.below hb
  have key : ∀ W' : World, (∀ q, q < w2.heap.size → some q ≠ (Value.slice (some ⟨g, 0, none⟩) (l.length + 1) cap).ownBlock → W'.heap[q]? = w2.heap[q]?) → ∀ q, q < w1.heap.size → some q ≠ u.ownBlock → W'.heap[q]? = w1.heap[q]? := by
    intro W' hW q hq hne
    rw [hW q (Nat.lt_of_lt_of_le hq hg.size) ?_, hg.block q hq hne]
    intro e
    have e : q = g := Option.some.inj e
    rcases hat with ha | ha
    · exact hne (by rw [ha, e])
    · omega
  refine ⟨by rw [ensC_snoc _ _ _ _ h.len]; simpa using hown, by simp [h.len], fun W' hW j hj hj' => ?_⟩
  have k1 := key W' hW
  by_cases hlt : j < l.length
  · have hv : j < vs.length := by rw [h.len]; exact hlt
    rw [List.getElem_append_left hlt, List.getElem_append_left hv]
    exact hb1.rd W' k1 j hlt hv
  · have e : j = l.length := by simp at hj; omega
    subst e
    have e1 : (l ++ [x])[l.length] = x := by simp
    have e2 : (vs ++ [v])[l.length] = v := by rw [List.getElem_append_right (by rw [h.len]; exact Nat.le_refl _)]; simp [h.len]
    rw [e1, e2]
    exact hx W' k1
theorem EnS.slice {w : World} {base : Nat} {u : Value} {vs : List V3} {l : List En} (h : EnS w base u vs l) : ∃ a c, u = .slice a l.length c := owns_slice h.top
/-- the one entry that an append is handed. -/
theorem row_one_ent (w : World) (x0 x1 x2 x3 x4 : Value) (t : TypeId) : RowK (w.alloc (.cells #[x0, x1, x2, x3, x4] t)) (.slice (some ⟨w.heap.size, 0, none⟩) 1 1) 5 1 [x0, x1, x2, x3, x4] := by
  refine ⟨rfl, _, _, rfl, Nat.le_refl _, by omega, (fun h => by cases h), fun j u hj => ⟨_, _, rfl, ?_⟩⟩
  rw [World.cell?_alloc_new, Nat.zero_add]
  simpa using hj
theorem enC_one (x : En) (a b c : Option Addr) (n m k n' m' k' : Nat) : ∀ u ∈ enC x (.slice a n n', .slice b m m', .slice c k k'), u.oneCell' = true := by
  intro u hu
  simp [enC] at hu
  rcases hu with rfl | rfl | rfl | rfl | rfl <;> rfl
/-- what an entry is asked to be, to be copied. -/
def EnSm (x : En) : Prop := 0 < x.says.length ∧ x.says.length ≤ 1000 ∧ x.uses.length ≤ 1000 ∧ x.proof.length ≤ 1000
set_option maxHeartbeats 2000000 in
set_option maxRecDepth 100000 in
theorem carry_each (fg : Nat) (lb : Array Value) (eg : ∀ args w, (callFunc fg args).run Tryz.prog w = .ok (.enter fg args) w) (vl : Value) (l : List En) (f : En → En) (w : World) (hl : EntsAt w vl l) (hl1 : l.length ≤ 1000) (hok : ∀ x ∈ l, EnSm x)
    (hf : ∀ (i : Nat) (h : i < l.length) (W : World) (v : Value) (B : Nat), w.heap.size ≤ B → B ≤ W.heap.size → Below w.heap.size w W → EnO W B v l[i] → Calls Tryz.prog fg (#[v] ++ lb) W fun e w' => ∃ v', e = .returned v' ∧ EnO w' B v' (f l[i]) ∧ Below B W w') :
    Calls Tryz.prog 60 #[vl, .func (.func fg) #[] lb] w fun e w' => ∃ u vs, e = .returned u ∧ EnS w' w.heap.size u vs (l.map f) ∧ Below w.heap.size w w' := by
  obtain ⟨la, lc, rfl, -, ll, -, HC⟩ := hl.open
  have HC' := hid HC
  have HF := hid hf
  have HOK := hid hok
  have h00 := hid (EnS.nil w w.heap.size)
  clear HC hl hf hok
  go_enter Tryz.func60, Tryz.ntmps60
  go_wp2
  go_loopw [5, 10] (fun u kv wr => ∃ (k : Nat) (vs : List V3), k ≤ l.length ∧ kv = .int .i64 k ∧ EnS wr w.heap.size u vs ((l.take k).map f) ∧ Below w.heap.size w wr) (fun _ kv _ => l.length - (intOf kv).toNat)
  case atStart => exact ⟨0, [], by omega, rfl, by simpa using h00.out, Below.refl _ _⟩
  case round =>
    clear h00
    obtain ⟨k, vs, hk, rfl, hE, hb⟩ := hrel
    have hsz := hb.size
    by_cases hlt : k < l.length
    · obtain ⟨b, o, vS, vu, vp, rfl, c0, c1, c2, c3, c4, he⟩ := HC'.out k hlt
      have he' := he.below hb
      obtain ⟨sa, sc, rfl, -⟩ := he'.s.open
      obtain ⟨ua, uc, rfl, -⟩ := he'.u.open
      obtain ⟨pa, pc, rfl, -⟩ := he'.p.open
      have d0 := (hb.cell (World.block_lt_of_cell? _ _ c0)).trans c0
      have d1 := (hb.cell (World.block_lt_of_cell? _ _ c1)).trans c1
      have d2 := (hb.cell (World.block_lt_of_cell? _ _ c2)).trans c2
      have d3 := (hb.cell (World.block_lt_of_cell? _ _ c3)).trans c3
      have d4 := (hb.cell (World.block_lt_of_cell? _ _ c4)).trans c4
      obtain ⟨s0, s1, s2, s3⟩ := HOK.out _ (List.getElem_mem hlt)
      have HFK := hid (HF.out k hlt)
      have HTK := hid (show (l.take (k + 1)).map f = (l.take k).map f ++ [f l[k]] from by rw [List.take_succ_eq_append_getElem hlt, List.map_append]; rfl)
      have hlen : ((l.take k).map f).length = k := by simp; omega
      obtain ⟨x, hx⟩ : ∃ x, l[k] = x := ⟨_, rfl⟩
      rw [hx] at d0 d1 d2 d3 d4 he' s0 s1 s2 s3 HFK HTK
      obtain ⟨y, hy⟩ : ∃ y, f x = y := ⟨_, rfl⟩
      rw [hy] at HFK HTK
      obtain ⟨L, hL⟩ : ∃ L, (l.take k).map f = L := ⟨_, rfl⟩
      rw [hL] at hE HTK hlen
      clear c0 c1 c2 c3 c4 he hx hy hL
      have EB0 := EB.new wr x (.slice sa x.says.length sc) (.slice ua x.uses.length uc) (.slice pa x.proof.length pc) 35
      obtain ⟨W, hW⟩ : ∃ W, wr.alloc (.cells #[.string x.name, .string x.who, .slice sa x.says.length sc, .slice ua x.uses.length uc, .slice pa x.proof.length pc] 35) = W := ⟨_, rfl⟩
      have hbr : Below wr.heap.size wr W := hW ▸ (Below.refl _ _).alloc (Nat.le_refl _) _
      rw [hW] at EB0
      have HCP := hid (carry_copied (.slice sa x.says.length sc) (.slice ua x.uses.length uc) (.slice pa x.proof.length pc) x W (he'.below hbr) s0 s1 s2 s3)
      have HHW := hid hW
      have HBR := hid hbr
      have HE := hid hE
      have HB := hid hb
      clear EB0 hW hbr hE hb he'
      go_wp2_with fail
      rw [HHW.out]
      refine HCP.out.mono ?_
      rintro e w1 ⟨v, rfl, hO, hb1⟩
      have hbW := HB.out.trans (HBR.out.mono hsz)
      have hbw1 := hbW.trans (hb1.mono hbW.size)
      have HFF := hid (HFK.out w1 v W.heap.size hbW.size hb1.size hbw1 hO)
      have HB1 := hid hb1
      have HSW := hid hbW.size
      clear hO hb1 hbW hbw1
      go_wp2_with fail
      go_at_fn fg
      refine HFF.out.mono ?_
      rintro e w2 ⟨v', rfl, ⟨vS, vU, vP, rfl, hO⟩, hb2⟩
      have hbW2 : Below W.heap.size W w2 := HB1.out.trans hb2
      have hbr2 : Below wr.heap.size wr w2 := HBR.out.trans (hbW2.mono HBR.out.size)
      have hbw2 := HB.out.trans (hbr2.mono hsz)
      obtain ⟨a1, k1, rfl⟩ := owns_slice hO.s
      obtain ⟨a2, k2, rfl⟩ := owns_slice hO.u
      obtain ⟨a3, k3, rfl⟩ := owns_slice hO.p
      have HE2 := hid (HE.out.below hbr2)
      have HO2 := hid hO
      have HB2 := hid hbw2
      have HSZ2 := hid hbw2.size
      have HU := hid HE.out.top.lt
      have hown2 := HE2.out.top
      rw [hlen] at hown2
      have hownA := hown2.alloc (.cells #[.string y.name, .string y.who, .slice a1 y.says.length k1, .slice a2 y.uses.length k2, .slice a3 y.proof.length k3] 35)
      have HROW := hid (row_one_ent w2 (.string y.name) (.string y.who) (.slice a1 y.says.length k1) (.slice a2 y.uses.length k2) (.slice a3 y.proof.length k3) 35)
      have HRS := hid HBR.out.size
      have hwz := hbw2.size
      clear hO hb2 hbW2 hbw2 hown2
      go_wp2_with (at_builtin; refine wpList_append_lie rfl _ _ 24 rfl w.heap.size 35 el_ent Tryz.underlying24 rfl (by decide) u5 k (ensC L vs) rfl hownA _ 1 (enC y (.slice a1 y.says.length k1, .slice a2 y.uses.length k2, .slice a3 y.proof.length k3)) rfl HROW.out (enC_one _ _ _ _ _ _ _ _ _ _) (by omega) (by omega) (by omega) (by simp; omega) _ rfl ?_; intro g cap w4 hown4 hgrow4 hat4 hlt4)
      go_roundw
      case rel =>
        refine ⟨k + 1, vs ++ [(.slice a1 y.says.length k1, .slice a2 y.uses.length k2, .slice a3 y.proof.length k3)], by omega, by go_num, ?_, (HB2.out.alloc HSZ2.out _).grown hgrow4 (by simp; have := HSZ2.out; omega) (fun q hq => (HU.out q hq).1)⟩
        rw [HTK.out]
        exact HE2.out.push (w1 := w2.alloc _) ((Below.refl _ _).alloc (Nat.le_refl _) _) (fun W' hW' => (HO2.out.blocks (base' := 0) (Nat.zero_le _) fun q h1 h2 => (hW' q (by simp; omega) (fun e => by
          have := (HU.out q e.symm).2
          have := HRS.out
          omega)).trans (Below.heap_alloc _ _ _ h2)).ent) hlen.symm hown4 hgrow4 rfl hat4
      case measure => simp [intOf]; omega
    · have hkl : k = l.length := by omega
      subst hkl
      rw [List.take_of_length_le (Nat.le_refl _)] at hE
      have HE := hid hE
      clear hE
      go_wp2
      go_ret
      exact ⟨_, vs, rfl, HE.out, hb⟩
end Go.Proofs.YtpflkjldapmgdaaGreat
namespace Go.Proofs.YtpflkjldapmgdaaGreat
open Go Go.RowKit Go.Maps
/-- a growing row of terms: behind any change of its own block alone the terms still lie. -/
structure TeS (w : World) (base : Nat) (u : Value) (vs : List Value) (l : List (List Int)) : Prop where
  top : w.ownsRow base 28 1 u l.length vs
  len : vs.length = l.length
  rd : ∀ W' : World, (∀ q, q < w.heap.size → some q ≠ u.ownBlock → W'.heap[q]? = w.heap[q]?) → ∀ (j : Nat) (h : j < l.length) (h' : j < vs.length), Ints W' vs[j] l[j]
theorem TeS.nil (w : World) (base : Nat) : TeS w base (.slice none 0 0) [] [] := ⟨World.ownsRow_nil _ _ _ _, rfl, fun _ _ j h => by simp at h⟩
theorem TeS.below {w w' : World} {base : Nat} {u : Value} {vs : List Value} {l : List (List Int)} (h : TeS w base u vs l) (hb : Below w.heap.size w w') : TeS w' base u vs l :=
  ⟨owns_below h.top hb, h.len, fun W' hW => h.rd W' fun q hq hne => (hW q (Nat.lt_of_lt_of_le hq hb.size) hne).trans (hb.block q hq)⟩
theorem TeS.base {w : World} {base base' : Nat} {u : Value} {vs : List Value} {l : List (List Int)} (h : TeS w base u vs l) (hb : base' ≤ base) : TeS w base' u vs l := ⟨owns_base h.top hb, h.len, h.rd⟩
theorem TeS.terms {w : World} {base : Nat} {u : Value} {vs : List Value} {l : List (List Int)} (h : TeS w base u vs l) (hl : l.length ≤ 100000) : Terms w u l :=
  ⟨vs, by unfold Vals; rw [h.len]; exact RowK.of_owns h.top (by omega), h.len, fun i v t h1 h2 => by
    obtain ⟨k1, e1⟩ := List.getElem?_eq_some_iff.1 h1
    obtain ⟨k2, e2⟩ := List.getElem?_eq_some_iff.1 h2
    subst e1 e2
    exact h.rd w (fun _ _ _ => rfl) i k2 k1⟩
theorem TeS.push {w w1 w2 : World} {base : Nat} {u : Value} {vs : List Value} {l : List (List Int)} (h : TeS w base u vs l) (hb : Below w.heap.size w w1) {x : List Int} {v : Value}
    (hx : ∀ W' : World, (∀ q, q < w1.heap.size → some q ≠ u.ownBlock → W'.heap[q]? = w1.heap[q]?) → Ints W' v x)
    {g cap n : Nat} (hn : n = l.length) (hown : w2.ownsRow base 28 1 (.slice (some ⟨g, 0, none⟩) (n + 1) cap) (n + 1) (vs ++ [v])) (hg : w1.grownBy w2 u.ownBlock) {H : Nat} (hH : H = w1.heap.size) (hat : u.ownBlock = some g ∨ g = H) :
    TeS w2 base (.slice (some ⟨g, 0, none⟩) (n + 1) cap) (vs ++ [v]) (l ++ [x]) := by
  subst hn
  have hb1 := h.below hb
  have key : ∀ W' : World, (∀ q, q < w2.heap.size → some q ≠ (Value.slice (some ⟨g, 0, none⟩) (l.length + 1) cap).ownBlock → W'.heap[q]? = w2.heap[q]?) → ∀ q, q < w1.heap.size → some q ≠ u.ownBlock → W'.heap[q]? = w1.heap[q]? := by
    intro W' hW q hq hne
    rw [hW q (Nat.lt_of_lt_of_le hq hg.size) ?_, hg.block q hq hne]
    intro e
    have e : q = g := Option.some.inj e
    rcases hat with ha | ha
    · exact hne (by rw [ha, e])
    · omega
  refine ⟨by simpa using hown, by simp [h.len], fun W' hW j hj hj' => ?_⟩
  have k1 := key W' hW
  by_cases hlt : j < l.length
  · have hv : j < vs.length := by rw [h.len]; exact hlt
    rw [List.getElem_append_left hlt, List.getElem_append_left hv]
    exact hb1.rd W' k1 j hlt hv
  · have e : j = l.length := by simp at hj; omega
    subst e
    have e1 : (l ++ [x])[l.length] = x := by simp
    have e2 : (vs ++ [v])[l.length] = v := by rw [List.getElem_append_right (by rw [h.len]; exact Nat.le_refl _)]; simp [h.len]
    rw [e1, e2]
    exact hx W' k1
theorem TeS.slice {w : World} {base : Nat} {u : Value} {vs : List Value} {l : List (List Int)} (h : TeS w base u vs l) : ∃ a c, u = .slice a l.length c := owns_slice h.top
/-- numbers of one's own, behind a change elsewhere. -/
theorem ints_own {w W' : World} {base : Nat} {v : Value} {l : List Int} (h : w.ownsRow base 3 1 v l.length (l.map (Value.int .i64))) (hl : l.length ≤ 1000) (hs : ∀ q, base ≤ q → q < w.heap.size → W'.heap[q]? = w.heap[q]?) : Ints W' v l :=
  Ints.of_owns (owns_blocks h fun q h1 h2 _ => hs q h1 h2) (by omega)
end Go.Proofs.YtpflkjldapmgdaaGreat
