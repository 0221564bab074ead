import Derived.Test.YtfljhfggjbkomaaSa
namespace Go.Proofs.Ytfljhfggjbkomaa
open Go.RowKit
set_option linter.unusedSimpArgs false
set_option linter.unusedVariables false
attribute [local go_sem] ob_alloc ob_drew ob_drewN ob_setCell ob_setBlock objSet_cells obMap_map obClock_map isMapI_map keyI_mk findI_nil findI_cons lookRes_some lookRes_none lookRes_some' lookRes_none' setBlock_alloc mapPut

/-- the port at p: what it is of, and its last message -/
def PortAt (w : World) (p : Nat) (L : List Nat) (W T : Int) : Option (List Int × Int) → Prop
  | none => ob w p = some (.cells #[.int .i64 W, .int .i64 T, .pointer none] 121 (0, 0))
  | some (ws, t) => ∃ m g, m ∉ L ∧ g ∉ L ∧ ob w p = some (.cells #[.int .i64 W, .int .i64 T, .pointer (some ⟨m, 0, none⟩)] 121 (0, 0)) ∧
      ob w m = some (.cells #[.slice (some ⟨g, 0, none⟩) ws.length ws.length, .int .i64 t] 123 (0, 0)) ∧ ob w g = some (.cells (u64s ws).toArray 65 (0, 0)) ∧ 1 ≤ ws.length ∧ ws.length ≤ 16 ∧ 0 ≤ t

theorem PortAt.keep {S : List Nat} {w w' : World} {p : Nat} {L : List Nat} {W T : Int} {msg : Option (List Int × Int)} (h : PortAt w p L W T msg) (hk : Keep S w w') (hp : p ∉ S) (hS : ∀ x, x ∈ S → x ∈ L ∨ w.heap.size ≤ x) : PortAt w' p L W T msg := by
  cases msg with
  | none => exact hk.kp h hp
  | some m =>
    obtain ⟨ws, t⟩ := m
    obtain ⟨m, g, h1, h2, h3, h4, h5, h6⟩ := h
    have hm : m ∉ S := fun hx => by rcases hS m hx with a | a; exact h1 a; have := ob_lt h4; omega
    have hg : g ∉ S := fun hx => by rcases hS g hx with a | a; exact h2 a; have := ob_lt h5; omega
    exact ⟨m, g, h1, h2, hk.kp h3 hp, hk.kp h4 hm, hk.kp h5 hg, h6⟩

theorem info65 : (Try.prog.info? 65).map (fun i => (i.zero, i.size, i.bytes)) = some (some (.int .u64 0), 1, 8) := by kernel_rfl
theorem make54 (n : Nat) (hn : n ≤ 1000000) (w : World) : (Instr.makeSlice 54 (.int .i64 (n : Int)) (.int .i64 (n : Int))).run Try.prog w = .ok (.slice (some ⟨w.heap.size, 0, none⟩) n n) (w.alloc (.cells (zeros (.int .u64 0) n) 65)) :=
  make_row Try.underlying54 info65 rfl n (by omega) (by omega) w

/-- may the message be written? -/
def okW (n W now : Int) : Option (List Int × Int) → Bool
  | none => decide (1 ≤ n ∧ n ≤ W ∧ 0 ≤ now)
  | some (_, t) => decide (1 ≤ n ∧ n ≤ W ∧ 0 ≤ now ∧ t ≤ now)

set_option maxRecDepth 100000 in
set_option maxHeartbeats 800000 in
theorem write_ok_none (w : World) (p : Nat) (L : List Nat) (W T : Int) (hp : p ∈ L) (hL : ∀ x, x ∈ L → x < w.heap.size) (hP : PortAt w p L W T none) (v : Value) (ws : List Int) (hv : RdU w v ws) (now : Int) (hW : W ≤ 16)
    (h1 : 1 ≤ ws.length) (h2 : (ws.length : Int) ≤ W) (h3 : 0 ≤ now) :
    Calls Try.prog 35 #[.pointer (some ⟨p, 0, none⟩), v, .int .i64 now] w fun o w' => o = .returned (.int .i64 0) ∧ PortAt w' p L W T (some (ws, now)) ∧ Keep [p] w w' := by
  obtain ⟨b, off, cap, rfl, hc1, hc2, _⟩ := hv.pos (by omega)
  have hP' : ob w p = _ := hP
  have hlt := hL p hp
  have cP := cell_of_ob hP'
  have fP := free_of_ob hP'
  have hmk := make54 ws.length (by omega)
  have hRd1 : Rd ((w.alloc (.cells (zeros (.int .u64 0) ws.length) 65)).alloc (.cells #[.slice (some ⟨w.heap.size, 0, none⟩) ws.length ws.length, .int .i64 now] 123)) _ (u64s ws) := (Rd.alloc (Rd.alloc hv _) _)
  obtain ⟨w3, hcopy, hb, hk3, hz3⟩ := copy_rd (P := Try.prog) (dT := 54) (sT := 54) Try.underlying54 (by kernel_rfl) _ (al (al_new w (.cells (zeros (.int .u64 0) ws.length) 65) rfl)) (size_zeros _ _) (cap := ws.length) hRd1 u64s_one (u64s_length ws) 3
  have hm3 := hk3.kp (al_new (w.alloc (.cells (zeros (.int .u64 0) ws.length) 65)) (.cells #[.slice (some ⟨w.heap.size, 0, none⟩) ws.length ws.length, .int .i64 now] 123) (k := w.heap.size + 1) (by simp)) (by simp)
  have hp3 := hk3.kp (al (al hP')) (by simp; omega)
  have cP3 := cell_of_ob hp3
  have fP3 := free_of_ob hp3
  have cM3 := cell_of_ob hm3
  have hk0 : Keep [p] w w3 := ((Keep.refl [p] w).alloc _ |>.alloc _).andThen hk3 (by simp)
  generalize hlen : ws.length = n at *
  have HLen := Lib.hid hlen
  clear hlen hRd1 hv hP hP'
  go_enter Try.func35, Try.ntmps35
  go_wp2
  go_ret
  subst_eqs
  have hnL : ∀ k, w.heap.size ≤ k → k ∉ L := fun k hk hm => by have := hL k hm; omega
  refine ⟨rfl, ⟨w.heap.size + 1, w.heap.size, hnL _ (by omega), hnL _ (by omega), st_same hp3, ?_, ?_, by rw [HLen.out]; omega, by rw [HLen.out]; omega, h3⟩, hk0.setCell (.inl (by simp)) _ _⟩
  · rw [HLen.out]; exact st hm3 (by omega)
  · exact st hb (by omega)
set_option maxRecDepth 100000 in
set_option maxHeartbeats 800000 in
theorem write_ok_some (w : World) (p : Nat) (L : List Nat) (W T : Int) (hp : p ∈ L) (hL : ∀ x, x ∈ L → x < w.heap.size) (us : List Int) (t : Int) (hP : PortAt w p L W T (some (us, t))) (v : Value) (ws : List Int) (hv : RdU w v ws) (now : Int) (hW : W ≤ 16)
    (h1 : 1 ≤ ws.length) (h2 : (ws.length : Int) ≤ W) (h3 : 0 ≤ now) (h4 : t ≤ now) :
    Calls Try.prog 35 #[.pointer (some ⟨p, 0, none⟩), v, .int .i64 now] w fun o w' => o = .returned (.int .i64 0) ∧ PortAt w' p L W T (some (ws, now)) ∧ Keep [p] w w' := by
  obtain ⟨b, off, cap, rfl, hc1, hc2, _⟩ := hv.pos (by omega)
  obtain ⟨m, g, hmL, hgL, hP', hM', _⟩ := hP
  have cM := cell_of_ob hM'
  have hlt := hL p hp
  have cP := cell_of_ob hP'
  have fP := free_of_ob hP'
  have hmk := make54 ws.length (by omega)
  have hRd1 : Rd ((w.alloc (.cells (zeros (.int .u64 0) ws.length) 65)).alloc (.cells #[.slice (some ⟨w.heap.size, 0, none⟩) ws.length ws.length, .int .i64 now] 123)) _ (u64s ws) := (Rd.alloc (Rd.alloc hv _) _)
  obtain ⟨w3, hcopy, hb, hk3, hz3⟩ := copy_rd (P := Try.prog) (dT := 54) (sT := 54) Try.underlying54 (by kernel_rfl) _ (al (al_new w (.cells (zeros (.int .u64 0) ws.length) 65) rfl)) (size_zeros _ _) (cap := ws.length) hRd1 u64s_one (u64s_length ws) 3
  have hm3 := hk3.kp (al_new (w.alloc (.cells (zeros (.int .u64 0) ws.length) 65)) (.cells #[.slice (some ⟨w.heap.size, 0, none⟩) ws.length ws.length, .int .i64 now] 123) (k := w.heap.size + 1) (by simp)) (by simp)
  have hp3 := hk3.kp (al (al hP')) (by simp; omega)
  have cP3 := cell_of_ob hp3
  have fP3 := free_of_ob hp3
  have cM3 := cell_of_ob hm3
  have hk0 : Keep [p] w w3 := ((Keep.refl [p] w).alloc _ |>.alloc _).andThen hk3 (by simp)
  generalize hlen : ws.length = n at *
  have HLen := Lib.hid hlen
  clear hlen hRd1 hv hP'
  go_enter Try.func35, Try.ntmps35
  go_wp2
  go_ret
  subst_eqs
  have hnL : ∀ k, w.heap.size ≤ k → k ∉ L := fun k hk hm => by have := hL k hm; omega
  refine ⟨rfl, ⟨w.heap.size + 1, w.heap.size, hnL _ (by omega), hnL _ (by omega), st_same hp3, ?_, ?_, by rw [HLen.out]; omega, by rw [HLen.out]; omega, h3⟩, hk0.setCell (.inl (by simp)) _ _⟩
  · rw [HLen.out]; exact st hm3 (by omega)
  · exact st hb (by omega)

/-! ### what may not be written -/
set_option maxRecDepth 100000 in
set_option maxHeartbeats 800000 in
theorem write_no (w : World) (p : Nat) (L : List Nat) (W T : Int) (msg : Option (List Int × Int)) (hP : PortAt w p L W T msg) (v : Value) (ws : List Int) (hv : RdU w v ws) (now : Int) (hno : okW ws.length W now msg = false) :
    Calls Try.prog 35 #[.pointer (some ⟨p, 0, none⟩), v, .int .i64 now] w fun o w' => o = .returned (.int .i64 1) ∧ w = w' := by
  obtain ⟨a, cap, rfl, hmax⟩ := hv.len
  unfold maxLen at hmax
  generalize ws.length = n at *
  by_cases h1 : 1 ≤ n
  · cases msg with
    | none =>
      have hP' : ob w p = _ := hP
      have cP := cell_of_ob hP'
      by_cases h2 : (n : Int) ≤ W
      · have h3 : now < 0 := by simp [okW] at hno; omega
        clear hno hP hP' hv
        go_enter Try.func35, Try.ntmps35
        go_wp2
        go_ret
        exact ⟨rfl, rfl⟩
      · clear hno hP hP' hv
        go_enter Try.func35, Try.ntmps35
        go_wp2
        go_ret
        exact ⟨rfl, rfl⟩
    | some mt =>
      obtain ⟨us, t⟩ := mt
      obtain ⟨m, g, hmL, hgL, hP', hM', _⟩ := hP
      have cP := cell_of_ob hP'
      have cM := cell_of_ob hM'
      by_cases h2 : (n : Int) ≤ W
      · by_cases h3 : now < 0
        · clear hno hP' hM' hv
          go_enter Try.func35, Try.ntmps35
          go_wp2
          go_ret
          exact ⟨rfl, rfl⟩
        · have h4 : now < t := by simp [okW] at hno; omega
          clear hno hP' hM' hv
          go_enter Try.func35, Try.ntmps35
          go_wp2
          go_ret
          exact ⟨rfl, rfl⟩
      · clear hno hP' hM' hv
        go_enter Try.func35, Try.ntmps35
        go_wp2
        go_ret
        exact ⟨rfl, rfl⟩
  · clear hno hP hv
    go_enter Try.func35, Try.ntmps35
    go_wp2
    go_ret
    exact ⟨rfl, rfl⟩

set_option maxRecDepth 100000 in
set_option maxHeartbeats 400000 in
theorem scrub_any (w : World) (p : Nat) (L : List Nat) (W T : Int) (msg : Option (List Int × Int)) (hP : PortAt w p L W T msg) :
    Calls Try.prog 37 #[.pointer (some ⟨p, 0, none⟩)] w fun o w' => o = .returned (.tuple #[]) ∧ PortAt w' p L W T none ∧ Keep [p] w w' := by
  obtain ⟨q, hP'⟩ : ∃ q, ob w p = some (.cells #[.int .i64 W, .int .i64 T, .pointer q] 121 (0, 0)) := by
    cases msg with
    | none => exact ⟨none, hP⟩
    | some mt => obtain ⟨us, t⟩ := mt; obtain ⟨m, g, _, _, h, _⟩ := hP; exact ⟨_, h⟩
  have cP := cell_of_ob hP'
  have fP := free_of_ob hP'
  clear hP
  go_enter Try.func37, Try.ntmps37
  go_wp2
  go_end0
  exact ⟨rfl, st_same hP', (Keep.refl _ _).setCell (.inl (by simp)) _ _⟩

/-! ### Read -/
set_option maxRecDepth 100000 in
set_option maxHeartbeats 400000 in
theorem read_none (w : World) (p : Nat) (L : List Nat) (W T now : Int) (hP : PortAt w p L W T none) :
    Calls Try.prog 38 #[.pointer (some ⟨p, 0, none⟩), .int .i64 now] w fun o w' => o = .returned (.tuple #[.slice none 0 0, .bool false, .int .i64 2]) ∧ w = w' := by
  have cP := cell_of_ob (show ob w p = _ from hP)
  go_enter Try.func38, Try.ntmps38
  go_wp2
  go_ret3
  exact ⟨rfl, rfl⟩
set_option maxRecDepth 100000 in
set_option maxHeartbeats 400000 in
theorem read_early (w : World) (p : Nat) (L : List Nat) (W T now : Int) (us : List Int) (t : Int) (hP : PortAt w p L W T (some (us, t))) (h : now < t) :
    Calls Try.prog 38 #[.pointer (some ⟨p, 0, none⟩), .int .i64 now] w fun o w' => o = .returned (.tuple #[.slice none 0 0, .bool false, .int .i64 1]) ∧ w = w' := by
  obtain ⟨m, g, _, _, h1, h2, _⟩ := hP
  have cP := cell_of_ob h1
  have cM := cell_of_ob h2
  clear h1 h2
  go_enter Try.func38, Try.ntmps38
  go_wp2
  go_ret3
  exact ⟨rfl, rfl⟩
set_option maxRecDepth 100000 in
set_option maxHeartbeats 800000 in
theorem read_ok (w : World) (p : Nat) (L : List Nat) (W T now : Int) (us : List Int) (t : Int) (hP : PortAt w p L W T (some (us, t))) (h : t ≤ now) (hnow : now ≤ 9223372036854775807) :
    Calls Try.prog 38 #[.pointer (some ⟨p, 0, none⟩), .int .i64 now] w fun o w' => o = .returned (.tuple #[.slice (some ⟨w.heap.size, 0, none⟩) us.length us.length, .bool (decide (now - t < T)), .int .i64 0]) ∧
      ob w' w.heap.size = some (.cells (u64s us).toArray 65 (0, 0)) ∧ Keep [] w w' := by
  obtain ⟨m, g, _, _, h1, h2, h3, h4, h5, h6⟩ := hP
  have hmk := make54 us.length (by omega)
  have hRd : Rd (w.alloc (.cells (zeros (.int .u64 0) us.length) 65)) (.slice (some ⟨g, 0, none⟩) us.length us.length) (u64s us) :=
    Rd.alloc (Rd.row h3 (u64s_length us) (Nat.le_refl _) (by unfold maxLen; omega) (List.take_of_length_le (by simp [u64s]))) _
  obtain ⟨w3, hcopy, hb, hk3, hz3⟩ := copy_rd (P := Try.prog) (dT := 54) (sT := 54) Try.underlying54 (by kernel_rfl) _ (al_new w (.cells (zeros (.int .u64 0) us.length) 65) rfl) (size_zeros _ _) (cap := us.length) hRd u64s_one (u64s_length us) 3
  have hp := ob_lt h1
  have hm := ob_lt h2
  have p3 := hk3.kp (al h1) (by simp; omega)
  have m3 := hk3.kp (al h2) (by simp; omega)
  have cP := cell_of_ob h1
  have cM := cell_of_ob h2
  have cP3 := cell_of_ob p3
  have cM3 := cell_of_ob m3
  have l1 : p < w3.heap.size := ob_lt p3
  have hk0 : Keep [] w w3 := ((Keep.refl [] w).alloc _).andThen hk3 (by simp)
  generalize us.length = n at *
  clear h1 h2 h3 p3 m3 hRd
  go_enter Try.func38, Try.ntmps38
  go_wp2
  go_region
  all_goals go_wp2
  all_goals
    go_ret3
    exact ⟨rfl, hb, hk0.drew⟩
end Go.Proofs.Ytfljhfggjbkomaa
