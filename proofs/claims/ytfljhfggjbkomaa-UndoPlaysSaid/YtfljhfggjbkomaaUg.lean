import Derived.Test.YtfljhfggjbkomaaUf
import Derived.Deep.RegionHeld3
import Derived.Deep.DrawnRows
namespace Go.Proofs.Ytfljhfggjbkomaa
open Go.RowKit
set_option linter.unusedSimpArgs false
set_option linter.unusedVariables false
attribute [local go_sem] ob_alloc ob_drew ob_drewN ob_setCell ob_setBlock objSet_cells obMap_map obClock_map isMapI_map keyI_mk findI_nil findI_cons lookRes_some lookRes_none lookRes_some' lookRes_none' setBlock_alloc mapPut
attribute [local go_sem ↓] Go.wp_at_zero Go.wp_at_succ eql27l neq27l

theorem UL.begin {W0 w : World} (hk : Keep [] W0 w) (C : Nat → Int) : UL W0 ((w.alloc (lgO (.slice none 0 0))).alloc (bdO C (.slice none 0 0))) (w.heap.size + 1) w.heap.size [] C [] [] := by
  have hs : (w.alloc (lgO (.slice none 0 0))).heap.size = w.heap.size + 1 := by simp [lgO]
  have hn := al_new (w.alloc (lgO (.slice none 0 0))) (bdO C (.slice none 0 0)) rfl
  rw [hs] at hn
  refine ⟨⟨_, [], RowK.nil _, ⟨⟨_, hn, RowE.nil _ _, fun b hb => by cases hb⟩, fun x hx => ?_, (hk.alloc _).alloc _, by have := hk.size; omega⟩, by simp, by simp⟩, hk.size, by simp⟩
  simp at hx
  subst hx
  exact ⟨al (al_new w (lgO (.slice none 0 0)) rfl), by show w.heap.size ≠ w.heap.size + 1; omega⟩
theorem kn_two {o1 o2 : Nat × Obj} {a b : Nat × Obj} {kn : List (Nat × Obj)} (ha : a ∈ kn) (hb : b ∈ kn) (x : Nat × Obj) (hx : x ∈ [a, o1, b]) : x ∈ o1 :: kn := by
  simp at hx
  rcases hx with rfl | rfl | rfl
  · exact List.mem_cons_of_mem _ ha
  · exact List.mem_cons_self
  · exact List.mem_cons_of_mem _ hb
theorem uRoll0 {W0 w : World} {bo lg : Nat} {kn : List (Nat × Obj)} {C : Nat → Int} {E : List (Int × Int)} (h : UL W0 w bo lg kn C E []) (hE : E.length ≤ 90000) :
    Calls Try.prog 21 #[.pointer (some ⟨lg, 0, none⟩)] w fun e w' => e = .returned (.int .i64 0) ∧ UL W0 w' bo lg kn C E [] := by
  refine (uRoll h (by simp) hE).mono ?_
  rintro e w' ⟨g1, g2⟩
  exact ⟨g1, by simpa [rollC, rollE] using g2⟩
theorem UL.quads {W0 w : World} {bo lg pb pk : Nat} {kn : List (Nat × Obj)} {C : Nat → Int} {E : List (Int × Int)} {L : List Cl} (h : UL W0 w bo lg kn C E L) (h1 : (pb, vB bo) ∈ kn) (h2 : (pk, Obj.cells (quad C) 27 (0, 0)) ∈ kn) :
    w.cell? ⟨pb, 0, none⟩ = some (.pointer (some ⟨bo, 0, none⟩)) ∧ w.cell? ⟨bo, 0, none⟩ = some (.int .i64 (C 0)) ∧ w.cell? ⟨bo, 1, none⟩ = some (.int .i64 (C 1)) ∧ w.cell? ⟨bo, 2, none⟩ = some (.int .i64 (C 2)) ∧ w.cell? ⟨bo, 3, none⟩ = some (.int .i64 (C 3)) ∧
      w.cell? ⟨pk, 0, none⟩ = some (.int .i64 (C 0)) ∧ w.cell? ⟨pk, 1, none⟩ = some (.int .i64 (C 1)) ∧ w.cell? ⟨pk, 2, none⟩ = some (.int .i64 (C 2)) ∧ w.cell? ⟨pk, 3, none⟩ = some (.int .i64 (C 3)) := by
  obtain ⟨sa, sc, hbo⟩ := h.bdk.len
  have hk := h.obk h2
  exact ⟨cell_of_ob (h.obk h1) 0, bd_cell hbo (q := 0) (by omega), bd_cell hbo (q := 1) (by omega), bd_cell hbo (q := 2) (by omega), bd_cell hbo (q := 3) (by omega), cell_of_ob hk 0, cell_of_ob hk 1, cell_of_ob hk 2, cell_of_ob hk 3⟩
set_option maxRecDepth 100000 in
set_option maxHeartbeats 8000000 in
theorem keeps21 (W0 : World) (va vb : Value) (xs ys : List (List Value)) (hv : RdA W0 3 va xs) (hx : ∀ c ∈ xs, GCells W0 [.int .i64, .int .i64, .int .i64] c) (hv2 : RdA W0 3 vb ys) (hx2 : ∀ c ∈ ys, GCells W0 [.int .i64, .int .i64, .int .i64] c) :
    Calls Try.prog 4 #[va, vb] W0 fun o w' => o = .returned (.bool true) ∧ Keep [] W0 w' := by
  obtain ⟨a0, cap0, rfl, hc1, hc2⟩ := hv.len
  obtain ⟨a1, cap1, rfl, hd1, hd2⟩ := hv2.len
  unfold maxLen at hc2 hd2
  have hmf : ∀ (fn : Fn) (first cap : Array Value) (w : World), (Instr.makeFunc fn first cap).run Try.prog w = .ok (.func fn first cap) w := fun _ _ _ _ => rfl
  go_enter Try.func4, Try.ntmps4
  go_wp2_with fail
  refine (awake21 W0 W0 (Keep.refl _ _)).mono ?_
  rintro _ w1 ⟨rfl, hk1⟩
  generalize hn : xs.length = n at *
  generalize hm : ys.length = m at *
  by_cases hn30 : n ≤ 30
  · by_cases hm30 : m ≤ 30
    · have hU := ((UL.begin hk1 (fun _ => 0)).alloc #[.pointer (some ⟨w1.heap.size + 1, 0, none⟩)] 26).alloc #[.int .i64 0] 3
      simp only [World.size_alloc, lgO, bdO] at hU
      have HU := Lib.hid hU
      have HK1 := Lib.hid hk1
      clear hU hk1 hc1 hc2 hd1 hd2
      go_wp2_with fail
      refine (uNew w1).mono ?_
      rintro _ w2 ⟨rfl, rfl⟩
      simp only [lgO]
      go_wp2_with fail
      have hU := HU.out
      clear HU HK1
      generalize (((w1.alloc (.cells #[.slice none 0 0] 115)).alloc (.cells #[.int .i64 0, .int .i64 0, .int .i64 0, .int .i64 0, .slice none 0 0] 30)).alloc (.cells #[.pointer (some ⟨w1.heap.size + 1, 0, none⟩)] 26)).alloc (.cells #[.int .i64 0] 3) = w4 at *
      obtain ⟨kn, hkn⟩ : ∃ kn, [(w1.heap.size + 1 + 1 + 1, Obj.cells #[.int .i64 0] 3 (0, 0)), (w1.heap.size + 1 + 1, .cells #[.pointer (some ⟨w1.heap.size + 1, 0, none⟩)] 26 (0, 0))] = kn := ⟨_, rfl⟩
      have hpi : (w1.heap.size + 1 + 1 + 1, vI' 0) ∈ kn := by rw [← hkn]; exact .head _
      have hpb : (w1.heap.size + 1 + 1, vB (w1.heap.size + 1)) ∈ kn := by rw [← hkn]; exact .tail _ (.head _)
      rw [hkn] at hU
      clear hkn
      generalize w1.heap.size + 1 + 1 + 1 = pi0 at *
      generalize w1.heap.size + 1 + 1 = pb at *
      generalize w1.heap.size + 1 = bo at *
      generalize w1.heap.size = lg at *
      have HU := Lib.hid (And.intro hU (And.intro hpi hpb))
      clear hU hpi hpb
      go_loopg [8] n (fun gn s8 wr => ∃ (k : Nat) (C : Nat → Int) (E : List (Int × Int)) (L : List Cl) (kn : List (Nat × Obj)) (pi : Nat), s8 = .pointer (some ⟨pi, 0, none⟩) ∧ k ≤ n ∧ gn = n - k ∧ UL W0 wr bo lg kn C E L ∧ (pi, vI' k) ∈ kn ∧ (pb, vB bo) ∈ kn ∧ In4 C ∧ L.length = k ∧ E.length ≤ k)
      case atStart => exact ⟨0, _, _, _, _, _, rfl, by omega, by omega, HU.out.1, HU.out.2.1, HU.out.2.2, fun j hj => by simp, rfl, by simp⟩
      case round =>
        clear HU
        obtain ⟨k, C, E, L, kn', pi, rfl, hkn, rfl, hU, hpi, hpb, hC, hL, hE⟩ := hrel
        have ci := cell_of_ob (hU.obk hpi) 0
        have li := ob_lt (hU.obk hpi)
        simp only [vI', List.getElem?_toArray, List.getElem?_cons_zero] at ci
        by_cases hlt : k < n
        · obtain ⟨bb, off, cap', hveq, hbb, hXA⟩ := args3 hv hx (by omega)
          simp only [Value.slice.injEq, hn, true_and] at hveq
          obtain ⟨rfl, rfl⟩ := hveq
          obtain ⟨l0, l1, l2⟩ := hXA wr hU.kp k (by omega)
          obtain ⟨⟨c, a, f⟩, ho⟩ : ∃ o, ops3 xs k = o := ⟨_, rfl⟩
          rw [ho] at l0 l1 l2
          simp only at l0 l1 l2
          have hA := hU.alloc #[.int .i64 c, .int .i64 a, .int .i64 0] 36
          have HH := Lib.hid (And.intro hA (And.intro hpi (And.intro hpb (And.intro hC (And.intro hL hE)))))
          have hk31 : (k : Int) + 1 ≤ 31 := by omega
          clear hv hx hv2 hx2 hU hpi hpb hC hL hE hXA hA ho hn hm
          go_upto_region 13 with fail
          obtain ⟨hA, hpi, hpb, hC, hL, hE⟩ := HH.out
          generalize wr.heap.size = po at *
          generalize wr.alloc (.cells #[.int .i64 c, .int .i64 a, .int .i64 0] 36) = w5 at *
          clear HH l0 l1 l2 ci
          have hs := kn_two (o1 := (po, vO ⟨c, a, 0⟩)) (o2 := (po, vO ⟨c, a, 0⟩)) hpb hpi
          have hdo := (do26_ok W0 bo pb po pi ⟨c, a, 0⟩ k rfl).mono hs
          have hba := UL.good1 (ba27 W0 bo pb po pi ⟨c, a, 0⟩ k) hs (by simp)
          have hcall := uDo_ok hA hdo (by simp) _ hba (by omega) (by omega)
          have HH := Lib.hid (And.intro hpi (And.intro hpb (And.intro hC (And.intro hL hE))))
          clear hA hpi hpb hC hL hE hs hdo hba
          go_wp2_with fail
          refine hcall.mono ?_
          rintro _ w6 ⟨rfl, hU6⟩
          have ci := cell_of_ob (hU6.obk (List.mem_cons_of_mem _ HH.out.1)) 0
          have li := ob_lt (hU6.obk (List.mem_cons_of_mem _ HH.out.1))
          simp only [vI', List.getElem?_toArray, List.getElem?_cons_zero] at ci
          have H7 := Lib.hid (hU6.alloc #[.int .i64 ((k : Int) + 1)] 3)
          clear hcall hU6
          go_wp2_with fail
          go_roundg (n - (k + 1))
          case measure => omega
          case rel =>
            have h9 : (vI' ((k : Int) + 1)) = vI' ((k + 1 : Nat) : Int) := by rw [show ((k + 1 : Nat) : Int) = (k : Int) + 1 by omega]
            exact ⟨k + 1, _, _, _, _, _, rfl, by omega, rfl, H7.out, by rw [← h9]; exact .head _, List.mem_cons_of_mem _ (List.mem_cons_of_mem _ HH.out.2.1), HH.out.2.2.1.doC _, by rw [List.length_append, HH.out.2.2.2.1]; rfl, by rw [List.length_append]; have := HH.out.2.2.2.2; simp; omega⟩
        · obtain rfl : k = n := by omega
          have hbd := hU.bdk
          obtain ⟨sa, sc, hbo⟩ := hbd.len
          have b0 := bd_cell hbo (q := 0) (by omega)
          have b1 := bd_cell hbo (q := 1) (by omega)
          have b2 := bd_cell hbo (q := 2) (by omega)
          have b3 := bd_cell hbo (q := 3) (by omega)
          have cp := cell_of_ob (hU.obk hpb) 0
          have lp := ob_lt (hU.obk hpb)
          simp only [vB, List.getElem?_toArray, List.getElem?_cons_zero] at cp
          have hA := hU.alloc (quad C) 27
          have HH := Lib.hid (And.intro hA (And.intro hpb (And.intro hC (And.intro hL hE))))
          have HQ : Hid (quad C = #[.int .i64 (C 0), .int .i64 (C 1), .int .i64 (C 2), .int .i64 (C 3)]) := Lib.hid rfl
          clear hv hx hU hpi hpb hC hL hE hbd hbo hA hn
          go_upto_region 18 with fail
          rw [← HQ.out]
          obtain ⟨hA, hpb, hC, hL, hE⟩ := HH.out
          generalize wr.heap.size = pk at *
          generalize wr.alloc (.cells (quad C) 27) = w5 at *
          clear HH b0 b1 b2 b3 cp lp ci li
          have HH := Lib.hid (And.intro hA (And.intro hpb (And.intro hC hE)))
          have hcall := uKeep hA
          rw [hL] at hcall
          clear hA hpb hC hL hE
          go_wp2_with fail
          refine hcall.mono ?_
          rintro _ w6 ⟨rfl, hU6⟩
          have H7 := Lib.hid (hU6.alloc #[.int .i64 0] 3)
          clear hcall hU6
          go_wp2_with fail
          generalize w6.alloc (.cells #[.int .i64 0] 3) = w7 at *
          generalize w6.heap.size = pj at *
          have hC0 := HH.out.2.2.1
          have HH2 := Lib.hid (And.intro HH.out.2.1 HH.out.2.2.2)
          have HI0 := Lib.hid hC0
          clear HH hC0
          go_loopg [12] m (fun gn s12 wr => ∃ (k : Nat) (D : Nat → Int) (E : List (Int × Int)) (L : List Cl) (kn : List (Nat × Obj)) (pi : Nat), s12 = .pointer (some ⟨pi, 0, none⟩) ∧ k ≤ m ∧ gn = m - k ∧ UL W0 wr bo lg kn D E L ∧ (pi, vI' k) ∈ kn ∧ (pb, vB bo) ∈ kn ∧ (pk, Obj.cells (quad C) 27 (0, 0)) ∈ kn ∧ In4 D ∧ rollC D L = C ∧ L.length = k ∧ E.length ≤ 30 + k)
          case atStart => exact ⟨0, C, _, _, _, _, rfl, by omega, by omega, H7.out, .head _, List.mem_cons_of_mem _ (List.mem_cons_of_mem _ HH2.out.1), List.mem_cons_of_mem _ (.head _), HI0.out, rfl, rfl, by have := HH2.out.2; omega⟩
          case round =>
            clear H7 HH2
            obtain ⟨q, D, E2, L2, kn2, pi2, rfl, hqn, rfl, hU, hpi, hpb, hpk, hD, hro, hL2, hE2⟩ := hrel
            have ci := cell_of_ob (hU.obk hpi) 0
            have li := ob_lt (hU.obk hpi)
            simp only [vI', List.getElem?_toArray, List.getElem?_cons_zero] at ci
            by_cases hlt : q < m
            · obtain ⟨bb, off, cap', hveq, hbb, hXA⟩ := args3 hv2 hx2 (by omega)
              simp only [Value.slice.injEq, hm, true_and] at hveq
              obtain ⟨rfl, rfl⟩ := hveq
              obtain ⟨l0, l1, l2⟩ := hXA wr hU.kp q (by omega)
              obtain ⟨⟨c, a, f⟩, ho⟩ : ∃ o, ops3 ys q = o := ⟨_, rfl⟩
              rw [ho] at l0 l1 l2
              simp only at l0 l1 l2
              have hA := hU.alloc #[.int .i64 c, .int .i64 a, .int .i64 0] 36
              have HH := Lib.hid (And.intro hA (And.intro hpi (And.intro hpb (And.intro hpk (And.intro hD (And.intro hro (And.intro hL2 hE2)))))))
              have hk31 : (q : Int) + 1 ≤ 31 := by omega
              clear hv2 hx2 hU hpi hpb hpk hD hro hL2 hE2 hXA hA ho hm
              go_upto_region 24 with fail
              obtain ⟨hA, hpi, hpb, hpk, hD, hro, hL2, hE2⟩ := HH.out
              generalize wr.heap.size = po at *
              generalize wr.alloc (.cells #[.int .i64 c, .int .i64 a, .int .i64 0] 36) = w8 at *
              clear HH l0 l1 l2 ci
              have hs := kn_two (o1 := (po, vO ⟨c, a, 0⟩)) (o2 := (po, vO ⟨c, a, 0⟩)) hpb hpi
              have hdo := (do28_ok W0 bo pb po pi2 ⟨c, a, 0⟩ q rfl).mono hs
              have hba := UL.good1 (ba29 W0 bo pb po pi2 ⟨c, a, 0⟩ q) hs (by simp)
              have hcall := uDo_ok hA hdo (by simp) _ hba (by omega) (by omega)
              have HH := Lib.hid (And.intro hpi (And.intro hpb (And.intro hpk (And.intro hD (And.intro hro (And.intro hL2 hE2))))))
              clear hA hpi hpb hpk hD hro hL2 hE2 hs hdo hba
              go_wp2_with fail
              refine hcall.mono ?_
              rintro _ w9 ⟨rfl, hU6⟩
              have ci := cell_of_ob (hU6.obk (List.mem_cons_of_mem _ HH.out.1)) 0
              have li := ob_lt (hU6.obk (List.mem_cons_of_mem _ HH.out.1))
              simp only [vI', List.getElem?_toArray, List.getElem?_cons_zero] at ci
              have H7 := Lib.hid (hU6.alloc #[.int .i64 ((q : Int) + 1)] 3)
              clear hcall hU6
              go_wp2_with fail
              go_roundg (m - (q + 1))
              case measure => omega
              case rel =>
                have h9 : (vI' ((q : Int) + 1)) = vI' ((q + 1 : Nat) : Int) := by rw [show ((q + 1 : Nat) : Int) = (q : Int) + 1 by omega]
                exact ⟨q + 1, _, _, _, _, _, rfl, by omega, rfl, H7.out, by rw [← h9]; exact .head _, List.mem_cons_of_mem _ (List.mem_cons_of_mem _ HH.out.2.1), List.mem_cons_of_mem _ (List.mem_cons_of_mem _ HH.out.2.2.1), HH.out.2.2.2.1.doC _, by rw [rollC_snoc]; show rollC (unC (doC D ⟨c, a, 0⟩) ⟨c, a, 0⟩) L2 = C; rw [un_do HH.out.2.2.2.1]; exact HH.out.2.2.2.2.1, by rw [List.length_append, HH.out.2.2.2.2.2.1]; rfl, by rw [List.length_append]; have := HH.out.2.2.2.2.2.2; simp; omega⟩
            · obtain rfl : q = m := by omega
              have hcall := uDo_no hU (back := .func (.func 31) #[] #[]) (gap30 W0 bo kn2) (by omega) (by simp) (by omega) (by omega)
              rw [hro, List.append_nil] at hcall
              have hE8 : (E2 ++ rollE L2).length ≤ 90000 := by
                have := rollE_len (L := L2) (fun c hc => (hU.go c hc).2)
                rw [List.length_append]; omega
              have HH := Lib.hid (And.intro hpb hpk)
              clear hv2 hx2 hU hpi hpb hpk hD hro hL2 hE2 hm li
              go_wp2_with fail
              refine hcall.mono ?_
              rintro _ w8 ⟨rfl, hU8⟩
              clear hcall ci
              generalize E2 ++ rollE L2 = E8 at *
              obtain ⟨cp, b0, b1, b2, b3, k0, k1, k2, k3⟩ := hU8.quads HH.out.1 HH.out.2
              have hD := hU8.new (Keep.refl _ _).drew
              have HX : Hid (∃ x0 x1 x2 x3, C 0 = x0 ∧ C 1 = x1 ∧ C 2 = x2 ∧ C 3 = x3) := Lib.hid ⟨_, _, _, _, rfl, rfl, rfl, rfl⟩
              obtain ⟨x0, x1, x2, x3, e0, e1, e2, e3⟩ := HX.out
              rw [e0] at b0 k0
              rw [e1] at b1 k1
              rw [e2] at b2 k2
              rw [e3] at b3 k3
              have HRq : Hid (∀ w : World, UL W0 w bo lg kn2 C E8 [] → Calls Try.prog 21 #[.pointer (some ⟨lg, 0, none⟩)] w fun e w' => e = .returned (.int .i64 0) ∧ UL W0 w' bo lg kn2 C E8 [] ∧ (w'.cell? ⟨pb, 0, none⟩ = some (.pointer (some ⟨bo, 0, none⟩)) ∧ w'.cell? ⟨bo, 0, none⟩ = some (.int .i64 x0) ∧ w'.cell? ⟨bo, 1, none⟩ = some (.int .i64 x1) ∧ w'.cell? ⟨bo, 2, none⟩ = some (.int .i64 x2) ∧ w'.cell? ⟨bo, 3, none⟩ = some (.int .i64 x3) ∧ w'.cell? ⟨pk, 0, none⟩ = some (.int .i64 x0) ∧ w'.cell? ⟨pk, 1, none⟩ = some (.int .i64 x1) ∧ w'.cell? ⟨pk, 2, none⟩ = some (.int .i64 x2) ∧ w'.cell? ⟨pk, 3, none⟩ = some (.int .i64 x3))) := Lib.hid (fun w hw => (uRoll0 hw hE8).mono fun e w' ⟨g1, g2⟩ => ⟨g1, g2, by have := g2.quads HH.out.1 HH.out.2; rw [e0, e1, e2, e3] at this; exact this⟩)
              clear hU8 HQ HI0 HX e0 e1 e2 e3 HH hn30 hkn hlt hqn hm30
              go_wp2_with fail
              go_region_held3 (fun w' => w'.cell? ⟨pb, 0, none⟩ = some (.pointer (some ⟨bo, 0, none⟩)) ∧ w'.cell? ⟨bo, 0, none⟩ = some (.int .i64 x0) ∧ w'.cell? ⟨bo, 1, none⟩ = some (.int .i64 x1) ∧ w'.cell? ⟨bo, 2, none⟩ = some (.int .i64 x2) ∧ w'.cell? ⟨bo, 3, none⟩ = some (.int .i64 x3) ∧ w'.cell? ⟨pk, 0, none⟩ = some (.int .i64 x0) ∧ w'.cell? ⟨pk, 1, none⟩ = some (.int .i64 x1) ∧ w'.cell? ⟨pk, 2, none⟩ = some (.int .i64 x2) ∧ w'.cell? ⟨pk, 3, none⟩ = some (.int .i64 x3)) (first | exact ⟨cp, b0, b1, b2, b3, k0, k1, k2, k3⟩ | exact ⟨dp, d0, d1, d2, d3, m0, m1, m2, m3⟩ | go_keep)
                (first
                  | (go_at_call 25; refine (uLen (by with_reducible assumption)).mono ?_; rintro _ w9 ⟨rfl, rfl⟩)
                  | (go_at_call 21; refine (HRq.out _ (by with_reducible assumption)).mono ?_; rintro _ w9 ⟨rfl, hR, dp, d0, d1, d2, d3, m0, m1, m2, m3⟩))
              all_goals
                have HE := Lib.hid hR.kp
                clear hR hD cp b0 b1 b2 b3 k0 k1 k2 k3 dp d0 d1 d2 d3 m0 m1 m2 m3 HRq hE8
                go_wp2
                go_ret
                exact ⟨rfl, HE.out⟩
    · clear hv hx hv2 hx2
      go_wp2
      go_ret
      exact ⟨rfl, hk1⟩
  · clear hv hx hv2 hx2
    go_wp2
    go_ret
    exact ⟨rfl, hk1⟩
end Go.Proofs.Ytfljhfggjbkomaa
