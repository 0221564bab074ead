import Derived.Test.YtfljhfggjbkomaaUh
namespace Go.Proofs.Ytfljhfggjbkomaa
open Go.RowKit
set_option linter.unusedSimpArgs false
set_option linter.unusedVariables false
attribute [local go_sem] ob_alloc ob_drew ob_drewN ob_setCell ob_setBlock objSet_cells obMap_map obClock_map isMapI_map keyI_mk findI_nil findI_cons lookRes_some lookRes_none lookRes_some' lookRes_none' setBlock_alloc mapPut

/-- the steps, made -/
structure StepsIs (W0 : World) (bo : Nat) (kn : List (Nat × Obj)) (v : Value) (O : Nat → OpB) (n : Nat) : Prop where
  slice : ∃ a c, v = .slice a n c ∧ n ≤ c
  runs : ∃ D B : Nat → Value, (∀ j, j < n → ((O j).fail = 0 → RunsTo W0 bo kn (D j) (.int .i64 0) (fun C => doC C (O j)) [(1, (j : Int))]) ∧ ((O j).fail ≠ 0 → RunsTo W0 bo kn (D j) (.int .i64 (O j).fail) (fun C => C) [(1, (j : Int))]) ∧ (⟨B j, fun C => unC C (O j), [(2, (j : Int))]⟩ : Cl).good W0 bo kn ∧ (D j).oneCell' = true ∧ (B j).oneCell' = true) ∧
    ∀ w : World, (∀ x ∈ kn, ob w x.1 = some x.2) → ∀ j, j < n → ∃ g c, v = .slice (some ⟨g, 0, none⟩) n c ∧ w.cell? ⟨g, j * 2, none⟩ = some (D j) ∧ w.cell? ⟨g, j * 2 + 1, none⟩ = some (B j)
def stD (rows : List FP) (j : Nat) : Value := match rows[j]? with | some p => .func (.func p.n1) #[] p.c1 | none => .nilFunc
def stB (rows : List FP) (j : Nat) : Value := match rows[j]? with | some p => .func (.func p.n2) #[] p.c2 | none => .nilFunc
theorem SR.done {W0 ws wr : World} {bo pb : Nat} {O : Nat → OpB} {n pi : Nat} {v : Value} {rows : List FP} {kn kn0 : List (Nat × Obj)} {C : Nat → Int} {E : List (Int × Int)} (hB : BDk W0 ws bo kn0 C E) (hS : SR ws wr bo pb O n pi v rows kn) :
    ∃ kn', BDk W0 wr bo kn' C E ∧ (∀ x ∈ kn0, x ∈ kn') ∧ StepsIs W0 bo kn' v O n := by
  have hlb := hB.lt
  obtain ⟨rk, hrk, hrow⟩ : ∃ rk : List (Nat × Obj), (∀ x ∈ rk, ob wr x.1 = some x.2 ∧ ws.heap.size ≤ x.1) ∧ ∀ w : World, (∀ x ∈ rk, ob w x.1 = some x.2) → RowE stE 135 w ws.heap.size v rows := by
    obtain ⟨hl, h | ⟨g, cap, cur, rfl, hb, hg, hn, hm, hc, ht⟩⟩ := hS.row
    · exact ⟨[], by simp, fun w _ => ⟨hl, .inl h⟩⟩
    · refine ⟨[(g, .cells cur 135 (0, 0))], fun x hx => ?_, fun w hw => ⟨hl, .inr ⟨g, cap, cur, rfl, hb, hw (g, .cells cur 135 (0, 0)) (by simp), hn, hm, hc, ht⟩⟩⟩
      simp at hx; subst hx
      exact ⟨hg, hb⟩
  refine ⟨rk ++ (kn ++ kn0), hB.by hS.kp (by simp) (fun x hx => ?_), fun x hx => List.mem_append_right _ (List.mem_append_right _ hx), ?_, stD rows, stB rows, fun j hj => ?_, fun w hw j hj => ?_⟩
  · rcases List.mem_append.1 hx with hx | hx
    · obtain ⟨q1, q2⟩ := hrk x hx
      exact .inr ⟨q1, by omega, .inr q2⟩
    · rcases List.mem_append.1 hx with hx | hx
      · obtain ⟨q1, q2, _⟩ := hS.ow x hx
        exact .inr ⟨q1, by omega, .inr q2⟩
      · exact .inl ⟨hx, by simp⟩
  · obtain ⟨hl, h | ⟨g, cap, cur, e, hb, hg, hn, hm, hc, ht⟩⟩ := hS.row
    · have := hS.len
      exact ⟨none, 0, by rw [h.1]; congr 1; omega, by omega⟩
    · exact ⟨_, cap, by rw [e, hS.len], by rw [← hS.len]; exact hn⟩
  · obtain ⟨po, pj, q1, q2, q3⟩ := hS.all j hj
    have e1 : stD rows j = .func (.func 69) #[] (stCap pb po pj) := by unfold stD; rw [q1]; rfl
    have e2 : stB rows j = .func (.func 70) #[] (stCap pb po pj) := by unfold stB; rw [q1]; rfl
    have hs : ∀ x ∈ [(pb, vB bo), (po, vO (O j)), (pj, vI' (j : Int))], x ∈ rk ++ (kn ++ kn0) := by
      intro x hx
      simp at hx
      refine List.mem_append_right _ (List.mem_append_left _ ?_)
      rcases hx with rfl | rfl | rfl
      · exact hS.hb
      · exact q2
      · exact q3
    rw [e1, e2]
    exact ⟨fun hf => (do69_ok W0 bo pb po pj (O j) j hf).mono hs, fun hf => (do69_no W0 bo pb po pj (O j) j hf).mono hs, UL.good1 (ba70 W0 bo pb po pj (O j) j) hs (by simp), rfl, rfl⟩
  · obtain ⟨po, pj, q1, q2, q3⟩ := hS.all j hj
    have e1 : stD rows j = .func (.func 69) #[] (stCap pb po pj) := by unfold stD; rw [q1]; rfl
    have e2 : stB rows j = .func (.func 70) #[] (stCap pb po pj) := by unfold stB; rw [q1]; rfl
    obtain ⟨g, cap, e, _, _, _, _, hc⟩ := (hrow w (fun x hx => hw x (List.mem_append_left _ hx))).get q1
    rw [hS.len] at e
    refine ⟨g, cap, e, ?_, ?_⟩
    · rw [e1]; have := hc 0 _ rfl; rw [Nat.add_zero] at this; exact this
    · rw [e2]; exact hc 1 _ rfl
set_option maxRecDepth 100000 in
set_option maxHeartbeats 2000000 in
theorem steps21 (W0 ws : World) (bo : Nat) (kn0 : List (Nat × Obj)) (C : Nat → Int) (E : List (Int × Int)) (hB : BDk W0 ws bo kn0 C E) (va : Value) (xs : List (List Value)) (hv : RdA W0 3 va xs) (hx : ∀ c ∈ xs, GCells W0 [.int .i64, .int .i64, .int .i64] c) (h60 : xs.length ≤ 60) :
    Calls Try.prog 59 #[.pointer (some ⟨bo, 0, none⟩), va] ws fun e w' => ∃ v kn, e = .returned v ∧ BDk W0 w' bo kn C E ∧ (∀ x ∈ kn0, x ∈ kn) ∧ StepsIs W0 bo kn v (ops3 xs) xs.length := by
  obtain ⟨a0, cap0, rfl, hc1, hc2⟩ := hv.len
  unfold maxLen at hc2
  have hmf : ∀ (fn : Fn) (first cap : Array Value) (w : World), (Instr.makeFunc fn first cap).run Try.prog w = .ok (.func fn first cap) w := fun _ _ _ _ => rfl
  have hS : SR ws ((ws.alloc (vB bo)).alloc (vI' 0)) bo ws.heap.size (ops3 xs) 0 (ws.heap.size + 1) (.slice none 0 0) [] [(ws.heap.size, vB bo), (ws.heap.size + 1, vI' 0)] := by
    have hs : (ws.alloc (vB bo)).heap.size = ws.heap.size + 1 := by simp [vB]
    refine ⟨((Keep.refl _ _).alloc _).alloc _, RowE.nil _ _, rfl, fun x hx => ?_, by simp, by simp, fun j hj => by omega⟩
    simp at hx
    rcases hx with rfl | rfl
    · exact ⟨al (al_new ws (vB bo) rfl), Nat.le_refl _, by simp [Value.ownBlock]⟩
    · exact ⟨al_new _ _ hs.symm, by show ws.heap.size ≤ ws.heap.size + 1; omega, by simp [Value.ownBlock]⟩
  have HS := Lib.hid hS
  have HB := Lib.hid hB
  clear hS hB
  generalize hn : xs.length = n at *
  go_enter Try.func59, Try.ntmps59
  go_wp2_with fail
  have hS := HS.out
  simp only [vB, vI'] at hS
  generalize (ws.alloc (.cells #[.pointer (some ⟨bo, 0, none⟩)] 26)).alloc (.cells #[.int .i64 0] 3) = w1 at *
  obtain ⟨kn1, hkn1⟩ : ∃ kn1, [(ws.heap.size, Obj.cells #[.pointer (some ⟨bo, 0, none⟩)] 26 (0, 0)), (ws.heap.size + 1, .cells #[.int .i64 0] 3 (0, 0))] = kn1 := ⟨_, rfl⟩
  rw [hkn1] at hS
  have hS0 := Lib.hid hS
  clear hkn1 hS HS
  generalize ws.heap.size + 1 = pi0 at *
  generalize ws.heap.size = pb at *
  go_loopg [5, 6] n (fun gn s5 s6 wr => ∃ (k : Nat) (pi : Nat) (rows : List FP) (kn : List (Nat × Obj)), s6 = .pointer (some ⟨pi, 0, none⟩) ∧ k ≤ n ∧ gn = n - k ∧ SR ws wr bo pb (ops3 xs) k pi s5 rows kn)
  case atStart => exact ⟨0, _, _, _, rfl, by omega, by omega, hS0.out⟩
  case round =>
    clear hS0
    obtain ⟨k, pi, rows, kn, rfl, hkn, rfl, hS⟩ := hrel
    have ci := cell_of_ob (hS.ow _ hS.hi).1 0
    have li := ob_lt (hS.ow _ hS.hi).1
    simp only [vI', List.getElem?_toArray, List.getElem?_cons_zero] at ci li
    by_cases hlt : k < n
    · obtain ⟨bb, off, cap', hveq, hbb, hXA⟩ := args3 hv hx (by omega)
      simp only [Value.slice.injEq, hn, true_and] at hveq
      obtain ⟨rfl, rfl⟩ := hveq
      obtain ⟨l0, l1, l2⟩ := hXA wr (HB.out.kp.trans hS.kp) k (by omega)
      obtain ⟨⟨c, a, f⟩, ho⟩ : ∃ o, ops3 xs k = o := ⟨_, rfl⟩
      rw [ho] at l0 l1 l2
      simp only at l0 l1 l2
      have hA := hS.alloc #[.int .i64 c, .int .i64 a, .int .i64 f] 36
      have hpo : (wr.heap.size, vO (ops3 xs k)) ∈ (wr.heap.size, Obj.cells #[.int .i64 c, .int .i64 a, .int .i64 f] 36 (0, 0)) :: kn := by rw [ho]; exact .head _
      obtain ⟨va, vc, va', vc', w5, rfl, happ, hold, hnext⟩ := hA.push hpo (by omega)
      have HH := Lib.hid (And.intro hA (And.intro hold hnext))
      clear hv hx hS hXA ho hn hpo hold hnext hA
      unfold stCap at happ
      go_upto_region 6 with fail
      generalize wr.heap.size = po at *
      generalize wr.alloc (.cells #[.int .i64 c, .int .i64 a, .int .i64 f] 36) = w4 at *
      clear l0 l1 l2 ci
      have o5 := HH.out.2.1 _ HH.out.1.hi
      have ci := cell_of_ob o5 0
      have li := ob_lt o5
      simp only [vI', List.getElem?_toArray, List.getElem?_cons_zero] at ci li
      have hE := HH.out.2.2 (w5.alloc (.cells #[.int .i64 ((k : Int) + 1)] 3)) ((Keep.refl _ _).alloc _) w5.heap.size ((w5.heap.size, .cells #[.int .i64 ((k : Int) + 1)] 3 (0, 0)) :: (po, Obj.cells #[.int .i64 c, .int .i64 a, .int .i64 f] 36 (0, 0)) :: kn) (fun x hx => by
        rcases List.mem_cons.1 hx with rfl | hx
        · exact .inr ⟨al_new _ _ rfl, Nat.le_refl _⟩
        · exact .inl hx) (List.mem_cons_of_mem _ HH.out.1.hb) (by rw [show ((k + 1 : Nat) : Int) = (k : Int) + 1 by omega]; exact .head _) (fun x hx => List.mem_cons_of_mem _ hx)
      have HE := Lib.hid hE
      clear hE o5 HH
      go_wp2_with (first
        | (at_builtin; refine wpList_append_eq rfl _ _ 109 rfl rfl rfl (happ _) ?_))
      go_roundg (n - (k + 1))
      case measure => omega
      case rel => exact ⟨k + 1, _, _, _, rfl, by omega, rfl, HE.out⟩
    · obtain rfl : k = n := by omega
      have HS := Lib.hid hS
      clear hS hv hx
      go_wp2
      go_ret
      obtain ⟨kn', g1, g2, g3⟩ := SR.done HB.out HS.out
      exact ⟨_, kn', rfl, g1, g2, g3⟩
end Go.Proofs.Ytfljhfggjbkomaa
