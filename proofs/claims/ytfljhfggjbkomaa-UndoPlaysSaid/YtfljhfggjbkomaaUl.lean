import Derived.Test.YtfljhfggjbkomaaUk
namespace Go.Proofs.Ytfljhfggjbkomaa
open Go.RowKit
set_option linter.unusedSimpArgs false
set_option linter.unusedVariables false
attribute [local go_sem] ob_alloc ob_drew ob_drewN ob_setCell ob_setBlock objSet_cells obMap_map obClock_map isMapI_map keyI_mk findI_nil findI_cons lookRes_some lookRes_none lookRes_some' lookRes_none' setBlock_alloc mapPut
set_option maxRecDepth 100000 in
set_option maxHeartbeats 1000000 in
theorem eql112 (a0 a1 b0 b1 : Int) (w : World) :
    (binOp .eql 112 (.agg #[.int .i64 a0, .int .i64 a1]) (.agg #[.int .i64 b0, .int .i64 b1])).run Try.prog w = .ok (.bool (decide (a0 = b0 ∧ a1 = b1))) w := by
  go_simp
  simp [ite_okb]
set_option maxRecDepth 100000 in
set_option maxHeartbeats 1000000 in
theorem neq112 (a0 a1 b0 b1 : Int) (w : World) :
    (binOp .neq 112 (.agg #[.int .i64 a0, .int .i64 a1]) (.agg #[.int .i64 b0, .int .i64 b1])).run Try.prog w = .ok (.bool (!decide (a0 = b0 ∧ a1 = b1))) w := by
  go_simp
  simp [ite_okn]
attribute [local go_sem ↓] eql27l neq27l eql112 neq112

theorem quad_get (C : Nat → Int) {q : Nat} (hq : q < 4) : (quad C)[q]? = some (.int .i64 (C q)) := by
  match q, hq with
  | 0, _ => rfl
  | 1, _ => rfl
  | 2, _ => rfl
  | 3, _ => rfl
theorem quad_set (C : Nat → Int) {q : Nat} (hq : q < 4) (x : Int) : (quad C).setIfInBounds q (.int .i64 x) = quad (updC C q x) := by
  match q, hq with
  | 0, _ => rfl
  | 1, _ => rfl
  | 2, _ => rfl
  | 3, _ => rfl
def c1234 : Nat → Int := fun j => (j : Int) + 1
theorem in1234 : In4 c1234 := by intro j hj; unfold c1234; omega
def AllB (W0 wr : World) (bo pw : Nat) (O : Nat → OpB) (n i : Nat) (s6 : Value) : Prop :=
  (s6 = .int .i64 (-1) ∧ (∀ j, j < i → (O j).fail = 0) ∧ BDk W0 wr bo [(pw, .cells (quad (runC c1234 O i)) 27 (0, 0))] c1234 []) ∨
  (∃ b : Nat, i = b + 1 ∧ s6 = .int .i64 b ∧ b < n ∧ (∀ j, j < b → (O j).fail = 0) ∧ (O b).fail ≠ 0 ∧ BDk W0 wr bo [(pw, .cells (quad (runC c1234 O b)) 27 (0, 0))] c1234 [])
set_option maxRecDepth 100000 in
set_option maxHeartbeats 8000000 in
theorem all21 (W0 : World) (va : Value) (xs : List (List Value)) (hv : RdA W0 3 va xs) (hx : ∀ c ∈ xs, GCells W0 [.int .i64, .int .i64, .int .i64] c) :
    Calls Try.prog 12 #[va] W0 fun o w' => o = .returned (.bool true) ∧ Keep [] W0 w' := by
  obtain ⟨a0, cap0, rfl, hc1, hc2⟩ := hv.len
  unfold maxLen at hc2
  go_enter Try.func12, Try.ntmps12
  go_wp2_with fail
  refine (awake21 W0 W0 (Keep.refl _ _)).mono ?_
  rintro _ w1 ⟨rfl, hk1⟩
  generalize hn : xs.length = n at *
  by_cases h60 : n ≤ 60
  · have hB := (BDk.start hk1 c1234).alloc (quad c1234) 27
    have hs : (w1.alloc (bdO c1234 (.slice none 0 0))).heap.size = w1.heap.size + 1 := by simp [bdO]
    rw [hs] at hB
    have hpw : W0.heap.size ≤ w1.heap.size + 1 := by have := hk1.size; omega
    have HB := Lib.hid hB
    clear hB hk1 hs hc1 hc2
    go_wp2_with fail
    have hB : BDk W0 ((w1.alloc (.cells #[.int .i64 1, .int .i64 2, .int .i64 3, .int .i64 4, .slice none 0 0] 30)).alloc (.cells #[.int .i64 1, .int .i64 2, .int .i64 3, .int .i64 4] 27)) w1.heap.size [(w1.heap.size + 1, .cells (quad c1234) 27 (0, 0))] c1234 [] := HB.out
    clear HB
    generalize (w1.alloc (.cells #[.int .i64 1, .int .i64 2, .int .i64 3, .int .i64 4, .slice none 0 0] 30)).alloc (.cells #[.int .i64 1, .int .i64 2, .int .i64 3, .int .i64 4] 27) = w4 at *
    generalize w1.heap.size + 1 = pw at *
    generalize w1.heap.size = bo at *
    have HB := Lib.hid hB
    clear hB
    go_loopg [6, 7] n (fun gn s6 s7 wr => ∃ i : Nat, s7 = .int .i64 i ∧ i ≤ n ∧ gn = n - i ∧ AllB W0 wr bo pw (ops3 xs) n i s6)
    case atStart => exact ⟨0, rfl, by omega, by omega, .inl ⟨rfl, fun j hj => by omega, HB.out⟩⟩
    case round =>
      clear HB
      obtain ⟨i, rfl, hin, rfl, hA⟩ := hrel
      have hi61 : (i : Int) + 1 ≤ 61 := by omega
      rcases hA with ⟨rfl, hok, hB⟩ | ⟨b, rfl, rfl, hbn, hok, hfb, hB⟩
      · by_cases hlt : i < n
        · obtain ⟨bb, off, cap', hveq, hbb, hXA⟩ := args3 hv hx (by omega)
          simp only [Value.slice.injEq, hn, true_and] at hveq
          obtain ⟨rfl, rfl⟩ := hveq
          obtain ⟨l0, l1, l2⟩ := hXA wr hB.kp i (by omega)
          obtain ⟨⟨c, a, f⟩, ho⟩ : ∃ o, ops3 xs i = o := ⟨_, rfl⟩
          rw [ho] at l0 l1 l2
          simp only at l0 l1 l2
          by_cases hf : f = 0
          · subst hf
            have hq := opQ_lt ⟨c, a, 0⟩
            have hqa := opQ_and ⟨c, a, 0⟩
            simp only at hqa
            have op := hB.obk (.head _)
            have cq := cell_of_ob op (opQ ⟨c, a, 0⟩)
            rw [quad_get _ hq] at cq
            have fq := free_of_ob op (opQ ⟨c, a, 0⟩)
            have hE := hB.set (.head _) (opQ ⟨c, a, 0⟩) (.int .i64 (wrap64 (runC c1234 (ops3 xs) i (opQ ⟨c, a, 0⟩) + a))) (kn' := []) (by simp) hpw
            have hE2 : objSet (opQ ⟨c, a, 0⟩) (.int .i64 (wrap64 (runC c1234 (ops3 xs) i (opQ ⟨c, a, 0⟩) + a))) (.cells (quad (runC c1234 (ops3 xs) i)) 27 (0, 0)) = .cells (quad (runC c1234 (ops3 xs) (i + 1))) 27 (0, 0) := by
              rw [objSet_cells, quad_set _ hq]
              show _ = Obj.cells (quad (doC (runC c1234 (ops3 xs) i) (ops3 xs i))) 27 (0, 0)
              rw [ho]; rfl
            rw [hE2] at hE
            have hok1 : ∀ j, j < i + 1 → (ops3 xs j).fail = 0 := fun j hj => by
              by_cases e : j = i
              · subst e; rw [ho]
              · exact hok j (by omega)
            have HE := Lib.hid (And.intro hE hok1)
            have hq4 : ((opQ ⟨c, a, 0⟩ : Nat) : Int) < 4 := by omega
            have hq0 : (0 : Int) ≤ ((opQ ⟨c, a, 0⟩ : Nat) : Int) := by omega
            have hi0 : (0 : Int) ≤ (i : Int) := by omega
            have hi1 : (i : Int) < (n : Int) := by omega
            generalize opQ ⟨c, a, 0⟩ = q at *
            generalize runC c1234 (ops3 xs) i q = x at *
            clear hv hx hXA hE hok1 hok hB ho hE2 op hn
            go_wp2_with fail
            go_still_tail 21, (by kernel_rfl)
            go_wp2
            go_roundg (n - (i + 1))
            case measure => omega
            case rel => exact ⟨i + 1, by go_num, by omega, rfl, .inl ⟨rfl, HE.out.2, HE.out.1.new (Keep.refl _ _).drew⟩⟩
          · have hfb : (f != 0) = true := by simpa using hf
            have HE : Hid (AllB W0 wr bo pw (ops3 xs) n (i + 1) (.int .i64 i)) := Lib.hid (.inr ⟨i, rfl, rfl, hlt, hok, by rw [ho]; exact hf, hB⟩)
            clear hv hx hXA hok hB ho hn hf
            go_wp2
            go_roundg (n - (i + 1))
            case measure => omega
            case rel => exact ⟨i + 1, by go_num, by omega, rfl, HE.out⟩
        · obtain rfl : i = n := by omega
          have HK := Lib.hid (And.intro hok hB)
          have hcall := steps21 W0 wr bo _ _ _ hB (.slice a0 i cap0) xs hv hx (by omega)
          clear hok hB hx
          go_wp2_with fail
          refine hcall.mono ?_
          rintro _ w5 ⟨v, kn, rfl, hB5, hsub, hS⟩
          rw [hn] at hS
          have hcall2 := all58 hS hB5 in1234 h60
          have HS := Lib.hid hsub
          clear hcall hB5 hsub hS hv hn
          go_wp2_with fail
          refine hcall2.mono ?_
          intro e w6 hq
          rcases hq with ⟨h1, rfl, h3⟩ | ⟨b, hb, _, hfb, _⟩
          · obtain ⟨sa, sc, hbo⟩ := h3.len
            have hpw2 := h3.obk (HS.out _ (.head _))
            have b0 := bd_cell hbo (q := 0) (by omega)
            have b1 := bd_cell hbo (q := 1) (by omega)
            have b2 := bd_cell hbo (q := 2) (by omega)
            have b3 := bd_cell hbo (q := 3) (by omega)
            have b4 := cell_of_ob hbo 4
            have k0 := cell_of_ob hpw2 0
            have k1 := cell_of_ob hpw2 1
            have k2 := cell_of_ob hpw2 2
            have k3 := cell_of_ob hpw2 3
            simp only [bdO, quad, evU_len, List.getElem?_toArray, List.getElem?_cons_zero, List.getElem?_cons_succ] at b4 k0 k1 k2 k3
            have HE := Lib.hid h3
            generalize runC c1234 (ops3 xs) i 0 = x0 at *
            generalize runC c1234 (ops3 xs) i 1 = x1 at *
            generalize runC c1234 (ops3 xs) i 2 = x2 at *
            generalize runC c1234 (ops3 xs) i 3 = x3 at *
            clear h1 h3 hbo hpw2 hcall2 HK HS
            go_wp2_with fail
            go_quiet (fail)
            go_wp2
            go_ret
            exact ⟨rfl, HE.out.kp.drewN _⟩
          · exact absurd (HK.out.1 b hb) hfb
      · have HK := Lib.hid (And.intro hok hfb)
        have hcall := steps21 W0 wr bo _ _ _ hB (.slice a0 n cap0) xs hv hx (by omega)
        obtain ⟨bb, off, cap', hveq, hbb, hXA⟩ := args3 hv hx (by omega)
        simp only [Value.slice.injEq, hn, true_and] at hveq
        obtain ⟨rfl, rfl⟩ := hveq
        have HX := Lib.hid (fun w hk => (hXA w hk b (by omega)).2.2)
        clear hok hfb hB hx hXA
        have hb61 : (b : Int) ≤ 61 := by omega
        have hb0 : (0 : Int) ≤ (b : Int) := by omega
        have hbn1 : (b : Int) < (n : Int) := by omega
        by_cases hlast : b + 1 < n
        all_goals
          go_wp2_with fail
          refine hcall.mono ?_
          rintro _ w5 ⟨v, kn, rfl, hB5, hsub, hS⟩
          rw [hn] at hS
          have hcall2 := all58 hS hB5 in1234 h60
          clear hcall hB5 hsub hS hv hn
          go_wp2_with fail
          refine hcall2.mono ?_
          intro e w6 hq
          rcases hq with ⟨h1, _⟩ | ⟨b', hb', hok', hfb', rfl, h3⟩
          · exact absurd (h1 b hbn) HK.out.2
          · obtain rfl : b' = b := by
              rcases Nat.lt_trichotomy b' b with h | h | h
              · exact absurd (HK.out.1 b' h) hfb'
              · exact h
              · exact absurd (hok' b h) HK.out.2
            clear hcall2 hok' hfb' hb'
            have l2 := HX.out w6 h3.kp
            generalize hfr : (ops3 xs b').fail = r at *
            have h3' := h3.bd
            obtain ⟨sv, hbo, hrow, _⟩ := h3'
            obtain ⟨sa, sc, rfl⟩ := hrow.slice
            have b0 : w6.cell? ⟨bo, 0, none⟩ = some (.int .i64 1) := bd_cell hbo (q := 0) (by omega)
            have b1 : w6.cell? ⟨bo, 1, none⟩ = some (.int .i64 2) := bd_cell hbo (q := 1) (by omega)
            have b2 : w6.cell? ⟨bo, 2, none⟩ = some (.int .i64 3) := bd_cell hbo (q := 2) (by omega)
            have b3 : w6.cell? ⟨bo, 3, none⟩ = some (.int .i64 4) := bd_cell hbo (q := 3) (by omega)
            have b4 := cell_of_ob hbo 4
            have hM : (evU (b' + 1) ++ evD b').length = b' + 1 + b' := by rw [List.length_append, evU_len, evD_len]
            simp only [bdO, hM, List.getElem?_toArray, List.getElem?_cons_zero, List.getElem?_cons_succ] at b4
            have hM2 : (((b' + 1 + b' : Nat) : Int) != 2 * (b' : Int) + 1) = false := by simp; omega
            have hrr : (r != r) = false := by simp
            have HE := Lib.hid h3.kp
            have HR := Lib.hid hrow
            have HM := Lib.hid hM
            generalize hMM : b' + 1 + b' = M at *
            have HMM := Lib.hid hMM
            have hM200 : (M : Int) ≤ 200 := by omega
            clear h3 hbo hrow hM hfr hMM
            go_wp2_with fail
            have hlist := fun j (hj : j < b' + 1) => show (evU (b' + 1) ++ evD b')[j]? = some (1, (j : Int)) from by rw [List.getElem?_append_left (by rw [evU_len]; exact hj)]; exact evU_get _ _ hj
            have hlist2 := fun j (hj : j < b') => show (evU (b' + 1) ++ evD b')[b' + 1 + j]? = some (2, (b' : Int) - 1 - (j : Int)) from by rw [List.getElem?_append_right (by rw [evU_len]; omega), evU_len, show b' + 1 + j - (b' + 1) = j by omega]; exact evD_get _ _ hj
            have HL := Lib.hid (And.intro hlist hlist2)
            clear hlist hlist2 b0 b1 b2 b3 l2 hM2 hrr
            go_loopg [9] (b' + 1) (fun gn i wr => ∃ k : Nat, i = .int .i64 k ∧ k ≤ b' + 1 ∧ gn = b' + 1 - k ∧ w6 = wr)
            case atStart => exact ⟨0, rfl, by omega, by omega, rfl⟩
            case round =>
              obtain ⟨k, rfl, hk, rfl, rfl⟩ := hrel
              by_cases hkb : k < b' + 1
              · obtain ⟨g, cap, e1, _, _, hcap, _, hcell⟩ := HR.out.get (HL.out.1 k hkb)
                rw [HM.out] at e1 hcap
                have hb4 : w6.cell? ⟨bo, 4, none⟩ = some (.slice (some ⟨g, 0, none⟩) M cap) := by
                  rw [b4]
                  rw [HM.out] at *
                  exact congrArg some e1
                have p0 := hcell 0 _ rfl
                have p1 := hcell 1 _ rfl
                rw [Nat.add_zero] at p0
                have hk0 : (0 : Int) ≤ (k : Int) := by omega
                have hk1 : (k : Int) < (M : Int) := by have := HMM.out; omega
                clear b4 e1 hcell
                go_wp2
                go_roundg (b' + 1 - (k + 1))
                case measure => omega
                case rel => exact ⟨k + 1, by go_num, by omega, rfl, rfl⟩
              · obtain rfl : k = b' + 1 := by omega
                go_wp2_with fail
                go_loopg [10] b' (fun gn i wr => ∃ k : Nat, i = .int .i64 k ∧ k ≤ b' ∧ gn = b' - k ∧ w6 = wr)
                case atStart => exact ⟨0, rfl, by omega, by omega, rfl⟩
                case round =>
                  obtain ⟨k, rfl, hk, rfl, rfl⟩ := hrel
                  by_cases hkb : k < b'
                  · obtain ⟨g, cap, e1, _, _, hcap, _, hcell⟩ := HR.out.get (HL.out.2 k hkb)
                    rw [HM.out] at e1 hcap
                    have hb4 : w6.cell? ⟨bo, 4, none⟩ = some (.slice (some ⟨g, 0, none⟩) M cap) := by
                      rw [b4]
                      rw [HM.out] at *
                      exact congrArg some e1
                    have p0 := hcell 0 _ rfl
                    have p1 := hcell 1 _ rfl
                    rw [Nat.add_zero] at p0
                    have hk0 : (0 : Int) ≤ (b' : Int) + 1 + (k : Int) := by omega
                    have hk1 : (b' : Int) + 1 + (k : Int) < (M : Int) := by have := HMM.out; omega
                    have hk2 : ((b' : Int) + 1 + (k : Int)).toNat = b' + 1 + k := by omega
                    clear b4 e1 hcell
                    go_wp2
                    go_roundg (b' - (k + 1))
                    case measure => omega
                    case rel => exact ⟨k + 1, by go_num, by omega, rfl, rfl⟩
                  · obtain rfl : k = b' := by omega
                    clear b4
                    go_wp2
                    go_ret
                    exact ⟨rfl, HE.out⟩
  · clear hv hx
    go_wp2
    go_ret
    exact ⟨rfl, hk1⟩
end Go.Proofs.Ytfljhfggjbkomaa
