import Derived.Test.YtjiienoflgolpaaMb
namespace Go.Proofs.Ytjiienoflgolpaa
open Go.RowKit
set_option linter.unusedSimpArgs false
set_option linter.unusedVariables false
attribute [local go_sem] ob_alloc ob_drew ob_drewN ob_setCell ob_setBlock objSet_cells obMap_map obClock_map isMapI_map keyI_mk findI_nil findI_cons lookRes_some lookRes_none lookRes_some' lookRes_none' setBlock_alloc mapPut

theorem MemAt.cp {w : World} {m g n : Nat} {s : Nat → Int} (h : MemAt w m g n s) : ∀ i, w.cell? ⟨m, i, none⟩ = #[Value.slice (some ⟨g, 0, none⟩) n n][i]? := cell_of_ob h.1
/-! ### Read, Write -/
def readR (n : Nat) (s : Nat → Int) (a : Int) : Int := if okA n a then s a.toNat else 0
def eR (b : Bool) : Int := if b then 0 else 1
def writeS (n : Nat) (s : Nat → Int) (a x : Int) : Nat → Int := if okA n a then updW s a.toNat x else s
set_option maxRecDepth 100000 in
set_option maxHeartbeats 400000 in
theorem mRead (w : World) (m g n : Nat) (s : Nat → Int) (hM : MemAt w m g n s) (a : Int) :
    Calls Try.prog 26 #[.pointer (some ⟨m, 0, none⟩), .int .i64 a] w fun o w' => o = .returned (.tuple #[.int .u64 (readR n s a), .int .i64 (eR (okA n a))]) ∧ w = w' := by
  unfold readR
  cases ho : okA n a with
  | false =>
    simp only [Bool.false_eq_true, if_false, eR]
    go_enter Try.func26, Try.ntmps26
    go_wp2_with fail
    refine (mAt_no w m g n s hM a ho).mono ?_
    rintro _ w1 ⟨rfl, rfl⟩
    clear hM ho
    go_wp2
    go_ret2
    exact ⟨rfl, rfl⟩
  | true =>
    obtain ⟨k, rfl, hk⟩ := okA_out ho
    have c0 := hM.cell k hk
    simp only [if_true, eR, Int.toNat_natCast]
    go_enter Try.func26, Try.ntmps26
    go_wp2_with fail
    refine (mAt_yes w m g n s hM k hk).mono ?_
    rintro _ w1 ⟨rfl, rfl⟩
    clear hM ho
    go_wp2
    go_ret2
    exact ⟨rfl, rfl⟩
set_option maxRecDepth 100000 in
set_option maxHeartbeats 400000 in
theorem mWrite (w : World) (m g n : Nat) (s : Nat → Int) (hM : MemAt w m g n s) (a x : Int) :
    Calls Try.prog 25 #[.pointer (some ⟨m, 0, none⟩), .int .i64 a, .int .u64 x] w fun o w' => o = .returned (.int .i64 (eR (okA n a))) ∧ MemAt w' m g n (writeS n s a x) ∧ Keep [g] w w' := by
  unfold writeS
  have hk0 := Keep.refl [g] w
  cases ho : okA n a with
  | false =>
    simp only [Bool.false_eq_true, if_false, eR]
    go_enter Try.func25, Try.ntmps25
    go_wp2_with fail
    refine (mAt_no w m g n s hM a ho).mono ?_
    rintro _ w1 ⟨rfl, rfl⟩
    have H := Lib.hid hM
    clear hM ho
    go_wp2
    go_ret
    exact ⟨rfl, H.out, hk0⟩
  | true =>
    obtain ⟨k, rfl, hk⟩ := okA_out ho
    obtain ⟨x0, c0⟩ : ∃ x, w.cell? ⟨g, k, none⟩ = some x := ⟨_, hM.cell k hk⟩
    have fr := free_of_ob hM.2.1
    simp only [if_true, eR, Int.toNat_natCast]
    go_enter Try.func25, Try.ntmps25
    go_wp2_with fail
    refine (mAt_yes w m g n s hM k hk).mono ?_
    rintro _ w1 ⟨rfl, rfl⟩
    have H := Lib.hid (hM.store k x)
    have K := Lib.hid (hk0.setCell (.inl (by simp)) (b := g) k (.int .u64 x))
    clear hM ho hk0
    go_wp2
    go_ret
    exact ⟨rfl, H.out, K.out⟩
set_option maxRecDepth 100000 in
set_option maxHeartbeats 400000 in
theorem mFrames (w : World) (m g n : Nat) (s : Nat → Int) (hM : MemAt w m g n s) :
    Calls Try.prog 50 #[.pointer (some ⟨m, 0, none⟩)] w fun o w' => o = .returned (.int .i64 n) ∧ w = w' := by
  have c0 := hM.cp
  clear hM
  go_enter Try.func50, Try.ntmps50
  go_wp2
  go_ret
  exact ⟨rfl, rfl⟩

/-! ### Zero -/
/-- a frame's words -/
def fr (s : Nat → Int) (f : Int) : Nat → Int := fun j => s (f.toNat * 16 + j)
theorem hasB_out {n : Nat} {f : Int} (h : hasB n f 1 = true) : ∃ k : Nat, f = k ∧ k < n := by
  have h : (1 : Int) ≤ 1 ∧ (1 : Int) ≤ (n : Int) ∧ 0 ≤ f ∧ f ≤ (n : Int) - 1 := by unfold hasB at h; exact of_decide_eq_true h
  exact ⟨f.toNat, by omega, by omega⟩
theorem size80 : (Try.prog.info? 80).map (·.size) = some 16 := by kernel_rfl
theorem zero80 (w : World) : (zeroValue 80).run Try.prog w = .ok (.agg (blk (vU fun _ => 0) 16)) w := by kernel_rfl
theorem MemAt.range {w : World} {m g n : Nat} {s : Nat → Int} (h : MemAt w m g n s) (f : Nat) (hf : f < n) : w.rangeAt g (f * 16) (blk (vU (fr s f)) 16).toList :=
  blk_range h.2.1 (by simp [blk]; omega) (fun j hj => by
    have hj : j < 16 := by simpa [blk] using hj
    simp [blk, hj, vU, fr])
theorem MemAt.load {w : World} {m g n : Nat} {s : Nat → Int} (h : MemAt w m g n s) (f : Nat) (hf : f < n) : (Instr.loadAt 80 (.pointer (some ⟨g, f * 16, none⟩))).run Try.prog w = .ok (.agg (blk (vU (fr s f)) 16)) w := by
  have := run_loadAt_mid (P := Try.prog) w g (f * 16) 80 (blk (vU (fr s f)) 16).toList _ (h.range f hf) Try.underlying80 rfl (by rw [size80]; simp [blk])
  simpa using this
def zeroB (n : Nat) (s : Nat → Int) (f : Int) : Bool := hasB n f 1 && eqB (fr s f) (fun _ => 0)
set_option maxRecDepth 100000 in
set_option maxHeartbeats 400000 in
theorem mZero (w : World) (m g n : Nat) (s : Nat → Int) (hM : MemAt w m g n s) (f : Int) :
    Calls Try.prog 28 #[.pointer (some ⟨m, 0, none⟩), .int .i64 f] w fun o w' => o = .returned (.bool (zeroB n s f)) ∧ w = w' := by
  unfold zeroB
  cases ho : hasB n f 1 with
  | false =>
    go_enter Try.func28, Try.ntmps28
    go_wp2_with fail
    refine (mHas w m g n s hM f 1).mono ?_
    rintro _ w1 ⟨rfl, rfl⟩
    rw [ho]
    clear hM ho
    go_wp2
    go_ret
    exact ⟨rfl, rfl⟩
  | true =>
    obtain ⟨k, rfl, hk⟩ := hasB_out ho
    have c0 := hM.cp
    have he : (Op.equalIn 10000 80 (.agg #[.int .u64 (s (k * 16)), .int .u64 (s (k * 16 + 1)), .int .u64 (s (k * 16 + 2)), .int .u64 (s (k * 16 + 3)), .int .u64 (s (k * 16 + 4)), .int .u64 (s (k * 16 + 5)), .int .u64 (s (k * 16 + 6)), .int .u64 (s (k * 16 + 7)), .int .u64 (s (k * 16 + 8)), .int .u64 (s (k * 16 + 9)), .int .u64 (s (k * 16 + 10)), .int .u64 (s (k * 16 + 11)), .int .u64 (s (k * 16 + 12)), .int .u64 (s (k * 16 + 13)), .int .u64 (s (k * 16 + 14)), .int .u64 (s (k * 16 + 15))]) (.agg #[.int .u64 0, .int .u64 0, .int .u64 0, .int .u64 0, .int .u64 0, .int .u64 0, .int .u64 0, .int .u64 0, .int .u64 0, .int .u64 0, .int .u64 0, .int .u64 0, .int .u64 0, .int .u64 0, .int .u64 0, .int .u64 0])).run Try.prog w = .ok (eqB (fr s k) (fun _ => 0)) w := eqIn80 (fr s k) (fun _ => 0) w
    have l0 := hM.cell (k * 16) (by omega)
    have l1 := hM.cell (k * 16 + 1) (by omega)
    have l2 := hM.cell (k * 16 + 2) (by omega)
    have l3 := hM.cell (k * 16 + 3) (by omega)
    have l4 := hM.cell (k * 16 + 4) (by omega)
    have l5 := hM.cell (k * 16 + 5) (by omega)
    have l6 := hM.cell (k * 16 + 6) (by omega)
    have l7 := hM.cell (k * 16 + 7) (by omega)
    have l8 := hM.cell (k * 16 + 8) (by omega)
    have l9 := hM.cell (k * 16 + 9) (by omega)
    have l10 := hM.cell (k * 16 + 10) (by omega)
    have l11 := hM.cell (k * 16 + 11) (by omega)
    have l12 := hM.cell (k * 16 + 12) (by omega)
    have l13 := hM.cell (k * 16 + 13) (by omega)
    have l14 := hM.cell (k * 16 + 14) (by omega)
    have l15 := hM.cell (k * 16 + 15) (by omega)
    go_enter Try.func28, Try.ntmps28
    go_wp2_with fail
    refine (mHas w m g n s hM k 1).mono ?_
    rintro _ w1 ⟨rfl, rfl⟩
    rw [ho]
    clear hM ho
    go_wp2
    go_ret
    exact ⟨rfl, rfl⟩
end Go.Proofs.Ytjiienoflgolpaa
