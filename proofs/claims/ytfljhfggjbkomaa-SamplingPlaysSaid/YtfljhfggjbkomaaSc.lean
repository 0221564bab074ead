import Derived.Test.YtfljhfggjbkomaaSb
namespace Go.Proofs.Ytfljhfggjbkomaa
open Go.RowKit
set_option linter.unusedSimpArgs false
set_option linter.unusedVariables false
attribute [local go_sem] ob_alloc ob_drew ob_drewN ob_setCell ob_setBlock objSet_cells obMap_map obClock_map isMapI_map keyI_mk findI_nil findI_cons lookRes_some lookRes_none lookRes_some' lookRes_none' setBlock_alloc mapPut

set_option maxRecDepth 100000 in
set_option maxHeartbeats 400000 in
theorem within17 (n a b : Int) (w : World) : Calls Try.prog 65 #[.int .i64 n, .int .i64 a, .int .i64 b] w fun o w' => o = .returned (.int .i64 (min (max n a) b)) ∧ w' = w := by
  go_enter Try.func65, Try.ntmps65
  go_wp2
  all_goals
    go_ret
    exact ⟨ret_i (by omega), rfl⟩

def okN (words ticks : Int) : Bool := decide (1 ≤ words ∧ words ≤ 16 ∧ 1 ≤ ticks ∧ ticks ≤ 1000000)

set_option maxRecDepth 100000 in
set_option maxHeartbeats 400000 in
theorem new_no (words ticks : Int) (h : okN words ticks = false) (w : World) :
    Calls Try.prog 33 #[.int .i64 words, .int .i64 ticks] w fun o w' => o = .returned (.tuple #[.pointer none, .int .i64 1]) ∧ Keep [] w w' := by
  have h1 : ¬ (words = min (max words 1) 16 ∧ ticks = min (max ticks 1) 1000000) := by simp [okN] at h; omega
  have h2 : (words != min (max words 1) 16 || ticks != min (max ticks 1) 1000000) = true := by
    by_cases e : words = min (max words 1) 16
    · have : ¬ ticks = min (max ticks 1) 1000000 := fun e2 => h1 ⟨e, e2⟩
      simp [this]
    · simp [e]
  generalize hx : min (max words 1) 16 = x at *
  generalize hy : min (max ticks 1) 1000000 = y at *
  have hw : ∀ w, Calls Try.prog 65 #[.int .i64 words, .int .i64 1, .int .i64 16] w fun o w' => o = .returned (.int .i64 x) ∧ w' = w := by rw [← hx]; exact within17 words 1 16
  have ht : ∀ w, Calls Try.prog 65 #[.int .i64 ticks, .int .i64 1, .int .i64 1000000] w fun o w' => o = .returned (.int .i64 y) ∧ w' = w := by rw [← hy]; exact within17 ticks 1 1000000
  have HW := Lib.hid hw
  have HT := Lib.hid ht
  clear hw ht hx hy h1 h
  by_cases e : words = x
  · have e2 : ¬ ticks = y := by simpa [e] using h2
    subst e
    clear h2
    go_enter Try.func33, Try.ntmps33
    go_wp2
    go_quiet ((first | (go_at_call_of 65 (Value.int IntKind.i64 16); exact Calls.quiet_of_same (HW.out _)) | (go_at_call_of 65 (Value.int IntKind.i64 1000000); exact Calls.quiet_of_same (HT.out _))))
    go_wp2
    go_ret2
    exact ⟨rfl, by repeat (first | exact Keep.refl _ _ | refine Keep.drew ?_ | refine Keep.drewN ?_ _ | refine Keep.setCell ?_ (by first | (left; simp; done) | (right; simp; done) | (right; omega) | (right; simp; omega)) _ _ | refine Keep.setBlock ?_ (by first | (left; simp; done) | (right; simp; done) | (right; omega) | (right; simp; omega)) _ | refine Keep.alloc ?_ _ | refine Keep.andThen ?_ (by assumption) (by first | (simp; done) | (simp; omega) | (intro x hx; simp at hx; simp; omega)))⟩
  · clear h2
    go_enter Try.func33, Try.ntmps33
    go_wp2
    go_quiet ((first | (go_at_call_of 65 (Value.int IntKind.i64 16); exact Calls.quiet_of_same (HW.out _)) | (go_at_call_of 65 (Value.int IntKind.i64 1000000); exact Calls.quiet_of_same (HT.out _))))
    go_wp2
    go_ret2
    exact ⟨rfl, by repeat (first | exact Keep.refl _ _ | refine Keep.drew ?_ | refine Keep.drewN ?_ _ | refine Keep.setCell ?_ (by first | (left; simp; done) | (right; simp; done) | (right; omega) | (right; simp; omega)) _ _ | refine Keep.setBlock ?_ (by first | (left; simp; done) | (right; simp; done) | (right; omega) | (right; simp; omega)) _ | refine Keep.alloc ?_ _ | refine Keep.andThen ?_ (by assumption) (by first | (simp; done) | (simp; omega) | (intro x hx; simp at hx; simp; omega)))⟩

set_option maxRecDepth 100000 in
set_option maxHeartbeats 400000 in
theorem new_ok (words ticks : Int) (h : okN words ticks = true) (w : World) (L : List Nat) :
    Calls Try.prog 33 #[.int .i64 words, .int .i64 ticks] w fun o w' => o = .returned (.tuple #[.pointer (some ⟨w.heap.size + 1, 0, none⟩), .int .i64 0]) ∧ PortAt w' (w.heap.size + 1) L words ticks none ∧ Keep [] w w' ∧ w'.heap.size = w.heap.size + 2 := by
  have h1 : words = min (max words 1) 16 ∧ ticks = min (max ticks 1) 1000000 := by simp [okN] at h; omega
  have hw : ∀ w, Calls Try.prog 65 #[.int .i64 words, .int .i64 1, .int .i64 16] w fun o w' => o = .returned (.int .i64 words) ∧ w' = w := by
    have := within17 words 1 16
    rw [← h1.1] at this; exact this
  have ht : ∀ w, Calls Try.prog 65 #[.int .i64 ticks, .int .i64 1, .int .i64 1000000] w fun o w' => o = .returned (.int .i64 ticks) ∧ w' = w := by
    have := within17 ticks 1 1000000
    rw [← h1.2] at this; exact this
  have HW := Lib.hid hw
  have HT := Lib.hid ht
  clear hw ht h1 h
  go_enter Try.func33, Try.ntmps33
  go_wp2
  go_quiet ((first | (go_at_call_of 65 (Value.int IntKind.i64 16); exact Calls.quiet_of_same (HW.out _)) | (go_at_call_of 65 (Value.int IntKind.i64 1000000); exact Calls.quiet_of_same (HT.out _))))
  go_wp2
  go_ret2
  exact ⟨rfl, by show ob _ _ = _; simp [ob_alloc, ob_drew, ob_setCell, ob_setBlock, objSet_cells, Nat.add_assoc], by repeat (first | exact Keep.refl _ _ | refine Keep.drew ?_ | refine Keep.drewN ?_ _ | refine Keep.setCell ?_ (by first | (left; simp; done) | (right; simp; done) | (right; omega) | (right; simp; omega)) _ _ | refine Keep.setBlock ?_ (by first | (left; simp; done) | (right; simp; done) | (right; omega) | (right; simp; omega)) _ | refine Keep.alloc ?_ _ | refine Keep.andThen ?_ (by assumption) (by first | (simp; done) | (simp; omega) | (intro x hx; simp at hx; simp; omega))), by simp⟩

/-! ### the reference -/
/-- the reference's port at p -/
def RefAt (w : World) (p : Nat) (L : List Nat) (W T : Int) : Option (List Int × Int) → Prop
  | none => ob w p = some (.cells #[.int .i64 W, .int .i64 T, .slice none 0 0, .int .i64 0, .bool false] 59 (0, 0))
  | some (ws, t) => ∃ v, (∀ b, v.ownBlock = some b → b ∉ L) ∧ ob w p = some (.cells #[.int .i64 W, .int .i64 T, v, .int .i64 t, .bool true] 59 (0, 0)) ∧ w.ownsRow 0 65 1 v ws.length (u64s ws) ∧ 1 ≤ ws.length ∧ ws.length ≤ 16 ∧ 0 ≤ t

theorem RefAt.keep {S : List Nat} {w w' : World} {p : Nat} {L : List Nat} {W T : Int} {msg : Option (List Int × Int)} (h : RefAt w p L W T msg) (hk : Keep S w w') (hp : p ∉ S) (hS : ∀ x, x ∈ S → x ∈ L ∨ w.heap.size ≤ x) : RefAt w' p L W T msg := by
  cases msg with
  | none => exact hk.kp h hp
  | some m =>
    obtain ⟨ws, t⟩ := m
    obtain ⟨v, h1, h2, h3, h4⟩ := h
    exact ⟨v, h1, hk.kp h2 hp, owns_keep h3 hk (fun b hb hx => by rcases hS b hx with a | a; exact h1 b hb a; have := ownBlock_lt h3 hb; omega), h4⟩

set_option maxRecDepth 100000 in
set_option maxHeartbeats 400000 in
theorem refNew_no (words ticks : Int) (h : okN words ticks = false) (w : World) :
    Calls Try.prog 34 #[.int .i64 words, .int .i64 ticks] w fun o w' => o = .returned (.tuple #[.pointer none, .int .i64 1]) ∧ Keep [] w w' := by
  have h1 : ¬ (1 ≤ words ∧ words ≤ 16 ∧ 1 ≤ ticks ∧ ticks ≤ 1000000) := by simp [okN] at h; omega
  clear h
  by_cases a1 : words < 1
  · clear h1
    go_enter Try.func34, Try.ntmps34
    go_wp2
    go_ret2
    exact ⟨rfl, Keep.refl _ _⟩
  · by_cases a2 : 16 < words
    · clear h1
      go_enter Try.func34, Try.ntmps34
      go_wp2
      go_ret2
      exact ⟨rfl, Keep.refl _ _⟩
    · by_cases a3 : ticks < 1
      · clear h1
        go_enter Try.func34, Try.ntmps34
        go_wp2
        go_ret2
        exact ⟨rfl, Keep.refl _ _⟩
      · have a4 : 1000000 < ticks := by omega
        clear h1
        go_enter Try.func34, Try.ntmps34
        go_wp2
        go_ret2
        exact ⟨rfl, Keep.refl _ _⟩

set_option maxRecDepth 100000 in
set_option maxHeartbeats 400000 in
theorem refNew_ok (words ticks : Int) (h : okN words ticks = true) (w : World) (L : List Nat) :
    Calls Try.prog 34 #[.int .i64 words, .int .i64 ticks] w fun o w' => o = .returned (.tuple #[.pointer (some ⟨w.heap.size, 0, none⟩), .int .i64 0]) ∧ RefAt w' w.heap.size L words ticks none ∧ Keep [] w w' ∧ w'.heap.size = w.heap.size + 1 := by
  have h1 : 1 ≤ words ∧ words ≤ 16 ∧ 1 ≤ ticks ∧ ticks ≤ 1000000 := by simp [okN] at h; omega
  obtain ⟨a1, a2, a3, a4⟩ := h1
  clear h
  go_enter Try.func34, Try.ntmps34
  go_wp2
  go_ret2
  exact ⟨rfl, by show ob _ _ = _; simp [ob_alloc, ob_drew, ob_setCell, ob_setBlock, objSet_cells, Nat.add_assoc], by repeat (first | exact Keep.refl _ _ | refine Keep.drew ?_ | refine Keep.drewN ?_ _ | refine Keep.setCell ?_ (by first | (left; simp; done) | (right; simp; done) | (right; omega) | (right; simp; omega)) _ _ | refine Keep.setBlock ?_ (by first | (left; simp; done) | (right; simp; done) | (right; omega) | (right; simp; omega)) _ | refine Keep.alloc ?_ _ | refine Keep.andThen ?_ (by assumption) (by first | (simp; done) | (simp; omega) | (intro x hx; simp at hx; simp; omega))), by simp⟩

set_option maxRecDepth 100000 in
set_option maxHeartbeats 800000 in
theorem refWrite_ok_none (w : World) (p : Nat) (L : List Nat) (W T : Int) (hp : p ∈ L) (hL : ∀ x, x ∈ L → x < w.heap.size) (hP : RefAt w p L W T none) (v : Value) (ws : List Int) (hv : RdU w v ws) (now : Int) (hW : W ≤ 16)
    (h1 : 1 ≤ ws.length) (h2 : (ws.length : Int) ≤ W) (h3 : 0 ≤ now) :
    Calls Try.prog 36 #[.pointer (some ⟨p, 0, none⟩), v, .int .i64 now] w fun o w' => o = .returned (.int .i64 0) ∧ RefAt w' p L W T (some (ws, now)) ∧ Keep [p] w w' := by
  obtain ⟨b, off, cap, rfl, hc1, hc2, _⟩ := hv.pos (by omega)
  have hP' : ob w p = _ := hP
  have hlt := hL p hp
  have cP := cell_of_ob hP'
  have fP := free_of_ob hP'
  obtain ⟨va, vc, w1, happ, hown, hgrow⟩ := append_rd (P := Try.prog) Try.underlying54 info65 rfl _ (owns_empty w (Nat.le_refl _) 65 1) (Rd.alloc hv _) u64s_one (by rw [u64s_length]; unfold maxLen; omega) (by rw [u64s_length]; omega) (by simp) 54
  have hk1 := Keep.ofGrown hgrow
  have hp1 := hk1.kp (al hP') (by simp [Value.ownBlock]; omega)
  have cP1 := cell_of_ob hp1
  have fP1 := free_of_ob hp1
  have hk0 : Keep [p] w w1 := ((Keep.refl [p] w).alloc _).andThen hk1 (by simp [Value.ownBlock])
  rw [Nat.zero_add, u64s_length] at happ hown
  rw [List.nil_append] at hown
  have Hown := Lib.hid hown
  generalize hlen : ws.length = n at *
  have HLen := Lib.hid hlen
  clear hlen hv hP hP' hgrow hk1 hown
  go_enter Try.func36, Try.ntmps36
  go_wp2_with (at_builtin; refine wpList_append_eq rfl _ _ _ rfl rfl rfl happ ?_)
  go_ret
  have hownr := Hown.out
  have hge : ∀ b, (Value.slice va n vc).ownBlock = some b → w.heap.size ≤ b := fun b hb => ownBlock_ge hownr hb
  refine ⟨rfl, ⟨.slice va n vc, fun b hb hm => by have := hL b hm; have := hge b hb; omega, st_same (st_same (st_same hp1)), ?_, by rw [HLen.out]; omega, by rw [HLen.out]; omega, h3⟩, ((hk0.setCell (.inl (by simp)) _ _).setCell (.inl (by simp)) _ _).setCell (.inl (by simp)) _ _⟩
  rw [HLen.out]
  have hown0 : w1.ownsRow 0 65 1 (.slice va n vc) n (u64s ws) := by
    obtain ⟨q1, q2⟩ := hownr
    refine ⟨q1, ?_⟩
    rcases q2 with q2 | ⟨g, c, cur, e1, e2, e3⟩
    · exact .inl q2
    · exact .inr ⟨g, c, cur, e1, Nat.zero_le _, e3⟩
  exact owns_keep hown0 ((((Keep.refl [p] w1).setCell (.inl (by simp)) _ _).setCell (.inl (by simp)) _ _).setCell (.inl (by simp)) _ _) (fun b hb hm => by simp at hm; have := hge b hb; omega)

set_option maxRecDepth 100000 in
set_option maxHeartbeats 800000 in
theorem refWrite_ok_some (w : World) (p : Nat) (L : List Nat) (W T : Int) (hp : p ∈ L) (hL : ∀ x, x ∈ L → x < w.heap.size) (us : List Int) (t : Int) (hP : RefAt w p L W T (some (us, t))) (v : Value) (ws : List Int) (hv : RdU w v ws) (now : Int) (hW : W ≤ 16)
    (h1 : 1 ≤ ws.length) (h2 : (ws.length : Int) ≤ W) (h3 : 0 ≤ now) (h4 : t ≤ now) :
    Calls Try.prog 36 #[.pointer (some ⟨p, 0, none⟩), v, .int .i64 now] w fun o w' => o = .returned (.int .i64 0) ∧ RefAt w' p L W T (some (ws, now)) ∧ Keep [p] w w' := by
  obtain ⟨b, off, cap, rfl, hc1, hc2, _⟩ := hv.pos (by omega)
  obtain ⟨u, hu, hP', _⟩ := hP
  have hlt := hL p hp
  have cP := cell_of_ob hP'
  have fP := free_of_ob hP'
  obtain ⟨va, vc, w1, happ, hown, hgrow⟩ := append_rd (P := Try.prog) Try.underlying54 info65 rfl _ (owns_empty w (Nat.le_refl _) 65 1) (Rd.alloc hv _) u64s_one (by rw [u64s_length]; unfold maxLen; omega) (by rw [u64s_length]; omega) (by simp) 54
  have hk1 := Keep.ofGrown hgrow
  have hp1 := hk1.kp (al hP') (by simp [Value.ownBlock]; omega)
  have cP1 := cell_of_ob hp1
  have fP1 := free_of_ob hp1
  have hk0 : Keep [p] w w1 := ((Keep.refl [p] w).alloc _).andThen hk1 (by simp [Value.ownBlock])
  rw [Nat.zero_add, u64s_length] at happ hown
  rw [List.nil_append] at hown
  have Hown := Lib.hid hown
  generalize hlen : ws.length = n at *
  have HLen := Lib.hid hlen
  clear hlen hv hP' hgrow hk1 hown
  go_enter Try.func36, Try.ntmps36
  go_wp2_with (at_builtin; refine wpList_append_eq rfl _ _ _ rfl rfl rfl happ ?_)
  go_ret
  have hownr := Hown.out
  have hge : ∀ b, (Value.slice va n vc).ownBlock = some b → w.heap.size ≤ b := fun b hb => ownBlock_ge hownr hb
  refine ⟨rfl, ⟨.slice va n vc, fun b hb hm => by have := hL b hm; have := hge b hb; omega, st_same (st_same (st_same hp1)), ?_, by rw [HLen.out]; omega, by rw [HLen.out]; omega, h3⟩, ((hk0.setCell (.inl (by simp)) _ _).setCell (.inl (by simp)) _ _).setCell (.inl (by simp)) _ _⟩
  rw [HLen.out]
  have hown0 : w1.ownsRow 0 65 1 (.slice va n vc) n (u64s ws) := by
    obtain ⟨q1, q2⟩ := hownr
    refine ⟨q1, ?_⟩
    rcases q2 with q2 | ⟨g, c, cur, e1, e2, e3⟩
    · exact .inl q2
    · exact .inr ⟨g, c, cur, e1, Nat.zero_le _, e3⟩
  exact owns_keep hown0 ((((Keep.refl [p] w1).setCell (.inl (by simp)) _ _).setCell (.inl (by simp)) _ _).setCell (.inl (by simp)) _ _) (fun b hb hm => by simp at hm; have := hge b hb; omega)
end Go.Proofs.Ytfljhfggjbkomaa
