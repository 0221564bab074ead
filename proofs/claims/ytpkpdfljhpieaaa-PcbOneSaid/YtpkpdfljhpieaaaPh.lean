import Derived.Test.YtpkpdfljhpieaaaPg
namespace Go.Proofs.Ytpkpdfljhpieaaa
open Go.RowKit
set_option linter.unusedSimpArgs false
set_option linter.unusedVariables false
attribute [local go_sem] ob_alloc ob_drew ob_drewN ob_setCell ob_setBlock objSet_cells obMap_map obClock_map isMapI_map keyI_mk findI_nil findI_cons lookRes_some lookRes_none lookRes_some' lookRes_none' setBlock_alloc mapPut
set_option maxRecDepth 100000 in
set_option maxHeartbeats 1000000 in
theorem eql47 (a0 a1 a2 a3 a4 a5 a6 a7 a8 b0 b1 b2 b3 b4 b5 b6 b7 b8 : Int) (w : World) :
    (binOp .eql 47 (.agg #[.int .u64 a0, .int .u64 a1, .int .u64 a2, .int .u64 a3, .int .u64 a4, .int .u64 a5, .int .u64 a6, .int .u64 a7, .int .u64 a8]) (.agg #[.int .u64 b0, .int .u64 b1, .int .u64 b2, .int .u64 b3, .int .u64 b4, .int .u64 b5, .int .u64 b6, .int .u64 b7, .int .u64 b8])).run Try.prog w = .ok (.bool (decide (a0 = b0 ∧ a1 = b1 ∧ a2 = b2 ∧ a3 = b3 ∧ a4 = b4 ∧ a5 = b5 ∧ a6 = b6 ∧ a7 = b7 ∧ a8 = b8))) w := by
  have r0 : List.range 8 = [0, 1, 2, 3, 4, 5, 6, 7] := rfl
  obtain ⟨i0, hi0⟩ : ∃ i, Try.prog.info? 22 = some i := ⟨_, rfl⟩
  have hc0 : Try.prog.cellsOf 22 = Try.prog.cellsOf 22 := rfl
  have ha0 := fun (d : Nat) (xs ys : Array Value) (w : World) => run_equalIn_array (P := Try.prog) w d xs ys Try.underlying45 hi0
  have hs0 : Try.prog.cellsOf 22 = 1 := by kernel_rfl
  simp only [hs0, r0] at ha0
  simp only [Op.eqItems] at ha0
  clear hc0 hs0
  go_simp
  simp [ite_okb]
set_option maxRecDepth 100000 in
set_option maxHeartbeats 1000000 in
theorem neq47 (a0 a1 a2 a3 a4 a5 a6 a7 a8 b0 b1 b2 b3 b4 b5 b6 b7 b8 : Int) (w : World) :
    (binOp .neq 47 (.agg #[.int .u64 a0, .int .u64 a1, .int .u64 a2, .int .u64 a3, .int .u64 a4, .int .u64 a5, .int .u64 a6, .int .u64 a7, .int .u64 a8]) (.agg #[.int .u64 b0, .int .u64 b1, .int .u64 b2, .int .u64 b3, .int .u64 b4, .int .u64 b5, .int .u64 b6, .int .u64 b7, .int .u64 b8])).run Try.prog w = .ok (.bool (!decide (a0 = b0 ∧ a1 = b1 ∧ a2 = b2 ∧ a3 = b3 ∧ a4 = b4 ∧ a5 = b5 ∧ a6 = b6 ∧ a7 = b7 ∧ a8 = b8))) w := by
  have r0 : List.range 8 = [0, 1, 2, 3, 4, 5, 6, 7] := rfl
  obtain ⟨i0, hi0⟩ : ∃ i, Try.prog.info? 22 = some i := ⟨_, rfl⟩
  have hc0 : Try.prog.cellsOf 22 = Try.prog.cellsOf 22 := rfl
  have ha0 := fun (d : Nat) (xs ys : Array Value) (w : World) => run_equalIn_array (P := Try.prog) w d xs ys Try.underlying45 hi0
  have hs0 : Try.prog.cellsOf 22 = 1 := by kernel_rfl
  simp only [hs0, r0] at ha0
  simp only [Op.eqItems] at ha0
  clear hc0 hs0
  go_simp
  simp [ite_okn]
/-- are the registers the same? -/
theorem eq47 (f g : Nat → Int) (h : ∀ j, j < 9 → f j = g j) (w : World) : (binOp .eql 47 (.agg (blk (vU f) 9)) (.agg (blk (vU g) 9))).run Try.prog w = .ok (.bool true) w := by
  have := eql47 (f 0) (f 1) (f 2) (f 3) (f 4) (f 5) (f 6) (f 7) (f 8) (g 0) (g 1) (g 2) (g 3) (g 4) (g 5) (g 6) (g 7) (g 8) w
  refine Eq.trans this ?_
  congr 2
  simp [h]

/-- a new variable of registers, written -/
theorem put47 (w1 : World) (F : Nat → Int) : ∃ w2 w3, w2 = w1.alloc (.cells #[.int .u64 0, .int .u64 0, .int .u64 0, .int .u64 0, .int .u64 0, .int .u64 0, .int .u64 0, .int .u64 0, .int .u64 0] 47) ∧ w2.there w1.heap.size 0 9 ∧ w3 = w2.setCells w1.heap.size 0 (blk (vU F) 9).toList ∧ ob w3 w1.heap.size = some (.cells (blk (vU F) 9) 47 (0, 0)) ∧ Keep [] w1 w3 := by
  have hZ := zero47 w1 w1.heap.size rfl
  exact ⟨_, _, rfl, blk_there hZ (by omega), rfl, store_blk hZ, ((Keep.refl _ _).alloc _).setCells (.inr (Nat.le_refl _)) _ _⟩
theorem cells9 {w : World} {b : Nat} {F : Nat → Int} (h : ob w b = some (.cells (blk (vU F) 9) 47 (0, 0))) : w.cell? ⟨b, 0, none⟩ = some (.int .u64 (F 0)) ∧ w.cell? ⟨b, 1, none⟩ = some (.int .u64 (F 1)) ∧ w.cell? ⟨b, 2, none⟩ = some (.int .u64 (F 2)) ∧ w.cell? ⟨b, 3, none⟩ = some (.int .u64 (F 3)) ∧ w.cell? ⟨b, 4, none⟩ = some (.int .u64 (F 4)) ∧ w.cell? ⟨b, 5, none⟩ = some (.int .u64 (F 5)) ∧ w.cell? ⟨b, 6, none⟩ = some (.int .u64 (F 6)) ∧ w.cell? ⟨b, 7, none⟩ = some (.int .u64 (F 7)) ∧ w.cell? ⟨b, 8, none⟩ = some (.int .u64 (F 8)) :=
  ⟨blk_cell h (by omega), blk_cell h (by omega), blk_cell h (by omega), blk_cell h (by omega), blk_cell h (by omega), blk_cell h (by omega), blk_cell h (by omega), blk_cell h (by omega), blk_cell h (by omega)⟩

attribute [local go_sem ↓] eql47 neq47
/-! ### PcbWay -/
def stW (i : Nat) : Int := [0, 1, 2, 3, 4, 3, 4, 2, 3].getD i 0
def wayW (i : Nat) : Int := [0, 1, 2, 3, 4, 3, 1, 2].getD i 0
theorem way_step : ∀ i, i < 8 → nx (stW i) (wayW i) = (stW (i + 1), 0) ∧ (stW (i + 1) = 0 ∨ stW (i + 1) = 1 ↔ i = 0) := by decide
theorem way_do {S : Nat → Int} {R : Nat → Nat → Int} {n i : Nat} (hn : n < 8) (hi : i < 8) (hS : S n = stW i) (f : Nat → Int) : doR S n (wayW i) = 0 ∧ doS S n (wayW i) n = stW (i + 1) ∧ saveR (doS S n (wayW i)) n = (if i = 0 then 5 else 0) ∧ (1 ≤ i → saveS (doS S n (wayW i)) (doG S R n (wayW i)) n f n = f) := by
  have hp : pOk (n : Int) = true := by unfold pOk; simp; omega
  obtain ⟨h1, h2⟩ := way_step i hi
  have d1 : doS S n (wayW i) n = stW (i + 1) := by
    unfold doS; rw [if_pos hp]; simp only [Int.toNat_natCast, hS, h1]; simp [updW]
  refine ⟨?_, d1, ?_, fun h => ?_⟩
  · unfold doR; rw [if_pos hp]; simp only [Int.toNat_natCast, hS, h1]
  · unfold saveR; rw [if_pos hp]; simp only [Int.toNat_natCast, d1]
    by_cases e : i = 0
    · rw [if_pos (h2.2 e), if_pos e]
    · rw [if_neg (fun a => e (h2.1 a)), if_neg e]
  · unfold saveS; rw [if_pos hp]; simp only [Int.toNat_natCast, d1]
    rw [if_neg (fun a => by have := h2.1 a; omega)]
    simp [updG]

set_option maxRecDepth 100000 in
set_option maxHeartbeats 2000000 in
theorem way20 (W0 : World) (part : Int) (f : Nat → Int) (again : Bool) : Calls Try.prog 12 #[.int .i64 part, .agg (blk (vU f) 9), .bool again] W0 fun o w' => o = .returned (.bool true) ∧ Keep [] W0 w' := by
  obtain ⟨b, hb⟩ : ∃ b, b = W0.heap.size := ⟨_, rfl⟩
  obtain ⟨w0, hw0⟩ : ∃ w0, w0 = W0.alloc (.cells (blk (vU f) 9) 47) := ⟨_, rfl⟩
  have hk0 : Keep [] W0 w0 := by rw [hw0]; exact (Keep.refl _ _).alloc _
  have hF0 : ob w0 b = some (.cells (blk (vU f) 9) 47 (0, 0)) := by rw [hw0]; exact al_new _ _ hb
  have HW := Lib.hid hw0
  have HB := Lib.hid hb
  have hbw : W0.heap.size ≤ b := by omega
  clear hb hw0
  go_enter Try.func12, Try.ntmps12
  go_wp2_with fail
  rw [← HW.out, ← HB.out]
  refine (awake20 w0).mono ?_
  rintro _ w1 ⟨rfl, hk1⟩
  go_wp2_with fail
  refine (pNew w1).mono ?_
  rintro _ w2 ⟨rfl, hB2, hk2, hs2⟩
  have hF2 := hk2.kp (hk1.kp hF0 (by simp)) (by simp)
  have hb1 := ob_lt (hk1.kp hF0 (by simp))
  have hk := (hk0.trans hk1).trans hk2
  have hp0 : W0.heap.size ≤ w1.heap.size := (hk0.trans hk1).size
  generalize w1.heap.size = p at *
  have nbp : b ≠ p := by omega
  clear hF0 hk0 hk1 hk2 hb1
  cases ho : pOk part with
  | false =>
    have hd : doR (fun _ => 0) part 0 = 1 := by unfold doR; rw [if_neg (by simp [ho])]
    rcases pOk_no ho with h | ⟨h, h7⟩
    all_goals
      go_wp2_with fail
      refine (pDo w2 p _ _ hB2 part 0).mono ?_
      rintro _ w3 ⟨rfl, hB3, hk3⟩
      rw [hd]
      have hk4 := hk.andThen hk3 (by simp; omega)
      clear ho hd hB2 hB3 hk hk3 hF2
      go_wp2
      go_ret
      exact ⟨rfl, hk4⟩
  | true =>
    obtain ⟨n, rfl, hn⟩ := pOk_out ho
    have hn7 : n ≤ 7 := by omega
    have H2 := Lib.hid (And.intro hB2 (And.intro hF2 hk))
    clear ho hB2 hF2 hk
    go_wp2
    obtain ⟨y, hy⟩ : ∃ y, y = w2.heap.size := ⟨_, rfl⟩
    obtain ⟨w3, hw3, hY, hB, hF, hk⟩ : ∃ w3, w3 = w2.alloc (.cells #[.int .i64 0, .int .i64 1, .int .i64 2, .int .i64 3, .int .i64 4, .int .i64 3, .int .i64 1, .int .i64 2] 3) ∧ ob w3 y = some (.cells (blk (vI wayW) 8) 3 (0, 0)) ∧ BAt w3 p (fun _ => 0) (fun _ _ => 0) ∧ ob w3 b = some (.cells (blk (vU f) 9) 47 (0, 0)) ∧ Keep [] W0 w3 :=
      ⟨_, rfl, al_new _ _ hy, al H2.out.1, al H2.out.2.1, H2.out.2.2.alloc _⟩
    have nyp : y ≠ p := by omega
    rw [← hw3, ← hy]
    clear hw3 hy hs2 H2
    go_loopw [10] (fun i wr => ∃ (i0 : Nat) (S : Nat → Int) (R : Nat → Nat → Int), i0 ≤ 8 ∧ i = .int .i64 i0 ∧ BAt wr p S R ∧ S n = stW i0 ∧ (2 ≤ i0 → R n = f) ∧ ob wr b = some (.cells (blk (vU f) 9) 47 (0, 0)) ∧ ob wr y = some (.cells (blk (vI wayW) 8) 3 (0, 0)) ∧ Keep [] W0 wr) (fun i _ => 8 - (intOf i).toNat)
    case atStart => exact ⟨0, _, _, by omega, rfl, hB, rfl, by omega, hF, hY, hk⟩
    case round =>
      clear hB hF hY hk
      obtain ⟨i, S, R, hi, rfl, hB, hS, hR, hF, hY, hk⟩ := hrel
      by_cases hlt : i < 8
      · obtain ⟨q1, q2, q3, q4⟩ := way_do (R := R) hn hlt hS f
        have cY : wr.cell? ⟨y, i, none⟩ = some (.int .i64 (wayW i)) := blk_cell hY hlt
        have Q := Lib.hid (And.intro q1 (And.intro q2 (And.intro q3 q4)))
        clear q1 q2 q3 q4 hS hR
        go_wp2_with fail
        refine (pDo wr p S R hB n (wayW i)).mono ?_
        rintro _ w4 ⟨rfl, hB4, hk4⟩
        rw [Q.out.1]
        have hF4 := hk4.kp hF (by simp; exact nbp)
        have hY4 := hk4.kp hY (by simp; exact nyp)
        have hkk4 := hk.andThen hk4 (by simp; exact hp0)
        have R4 := Lib.hid (range_ob hF4)
        clear hB hF hY hk hk4 cY
        go_wp2_with (refine wpList_load_mid rfl 47 (.tmp 4) rfl b 0 rfl (blk (vU f) 9).toList _ R4.out Try.underlying47 rfl (len9 f) ?_)
        refine (pSave w4 p _ _ hB4 n f).mono ?_
        rintro _ w5 ⟨rfl, hB5, hk5⟩
        rw [Q.out.2.2.1]
        have HH := Lib.hid (And.intro hB5 (And.intro (hk5.kp hF4 (by simp; exact nbp)) (And.intro (hk5.kp hY4 (by simp; exact nyp)) (hkk4.andThen hk5 (by simp; exact hp0)))))
        clear hB4 hB5 hk5 hF4 hY4 hkk4
        by_cases h0 : i = 0
        · subst h0
          rw [if_pos rfl]
          go_wp2
          go_roundw
          case rel => exact ⟨1, _, _, by omega, rfl, HH.out.1, Q.out.2.1, by omega, HH.out.2.1, HH.out.2.2.1, HH.out.2.2.2⟩
          case measure => simp [intOf]
        · rw [if_neg h0]
          have hpos : (0 : Int) < (i : Int) := by omega
          have hpd : decide (0 < i) = true := by simp; omega
          have hpd2 : decide ((0 : Int) < (i : Int)) = true := by simp; omega
          go_wp2
          go_roundw
          case rel => exact ⟨i + 1, _, _, by omega, by go_num, HH.out.1, Q.out.2.1, fun _ => Q.out.2.2.2 (by omega), HH.out.2.1, HH.out.2.2.1, HH.out.2.2.2⟩
          case measure => simp [intOf]; omega
      · have e : i = 8 := by omega
        subst e
        have hRn := hR (by omega)
        have hp : pOk (n : Int) = true := by unfold pOk; simp; omega
        have g1 : regF R (n : Int) = f := by unfold regF; rw [if_pos hp]; simp only [Int.toNat_natCast]; exact hRn
        have hS3 : S n = 3 := hS
        have g2 : doR S (n : Int) 5 = 0 := by unfold doR; rw [if_pos hp]; simp only [Int.toNat_natCast, hS3]; rfl
        have g3 : doS S (n : Int) 5 n = 0 := by unfold doS; rw [if_pos hp]; simp only [Int.toNat_natCast, hS3]; rw [show nx 3 5 = (0, 0) by decide]; simp [updW]
        have g4 : regF (doG S R (n : Int) 5) (n : Int) = fun _ => 0 := by
          unfold regF doG; rw [if_pos hp, if_pos hp]; simp only [Int.toNat_natCast, hS3]; rw [show nx 3 5 = (0, 0) by decide]; simp [updG]
        have g5 : stR (doS S (n : Int) 5) (n : Int) = 0 := by unfold stR; rw [if_pos hp]; simp only [Int.toNat_natCast]; exact g3
        have g6 : doR (doS S (n : Int) 5) (n : Int) 5 = 5 := by unfold doR; rw [if_pos hp]; simp only [Int.toNat_natCast, g3]; rfl
        have g7 : doS (doS S (n : Int) 5) (n : Int) 5 n = 0 := by
          have : ∀ S1 : Nat → Int, S1 n = 0 → doS S1 (n : Int) 5 n = 0 := by
            intro S1 h1
            unfold doS; rw [if_pos hp]; simp only [Int.toNat_natCast, h1]; rw [show nx 0 5 = (0, 5) by decide]; simp; exact h1
          exact this _ g3
        have g8 : doR (doS (doS S (n : Int) 5) (n : Int) 5) (n : Int) 0 = 0 := by unfold doR; rw [if_pos hp]; simp only [Int.toNat_natCast, g7]; rfl
        have G := Lib.hid (And.intro g1 (And.intro g2 (And.intro g4 (And.intro g5 (And.intro g6 g8)))))
        clear g1 g2 g3 g4 g5 g6 g7 g8 hS3 hRn hR hS hp hY
        go_wp2_with fail
        refine (pRegs wr p S R hB n).mono ?_
        rintro _ w4 ⟨rfl, hk4⟩
        rw [G.out.1]
        have hB4 := hB.keep hk4 (by simp)
        have hF4 := hk4.kp hF (by simp)
        have hkk4 := hk.trans hk4
        obtain ⟨w5, w6, hw5, ht5, hw6, ho6, hk6⟩ := put47 w4 f
        obtain ⟨bx, hbx⟩ : ∃ bx, bx = w4.heap.size := ⟨_, rfl⟩
        have nbx : bx ≠ p := by have := ob_lt hB4; omega
        have H5 := Lib.hid hw5
        have H6 := Lib.hid hw6
        have T5 := Lib.hid ht5
        have HX := Lib.hid hbx
        rw [← hbx] at ho6
        have hB6 := hB4.keep hk6 (by simp)
        have hF6 := hk6.kp hF4 (by simp)
        have hkk6 := hkk4.trans hk6
        clear hw5 ht5 hw6 hbx hB hF hk hk4 hB4 hF4 hkk4 hk6
        go_wp2_with (rw [show w4.alloc (.cells #[.int .u64 0, .int .u64 0, .int .u64 0, .int .u64 0, .int .u64 0, .int .u64 0, .int .u64 0, .int .u64 0, .int .u64 0] 47) = w5 from H5.out.symm, ← HX.out]; refine wpList_store_mid rfl 47 (.tmp 12) (.tmp 68) rfl bx 0 (blk (vU f) 9) rfl rfl (by rw [blk_size, HX.out]; exact T5.out) (siz9 _) (one9 _) ?_; rw [show w5.setCells bx 0 (blk (vU f) 9).toList = w6 from (HX.out ▸ H6.out).symm])
        refine (pDo w6 p S R hB6 n 5).mono ?_
        rintro _ w7 ⟨rfl, hB7, hk7⟩
        rw [G.out.2.1]
        have hF7 := hk7.kp hF6 (by simp; exact nbp)
        have hX7 := hk7.kp ho6 (by simp; exact nbx)
        have hkk7 := hkk6.andThen hk7 (by simp; exact hp0)
        clear hB6 hF6 ho6 hkk6 hk7
        go_wp2_with fail
        refine (pRegs w7 p _ _ hB7 n).mono ?_
        rintro _ w8 ⟨rfl, hk8⟩
        rw [G.out.2.2.1]
        have hB8 := hB7.keep hk8 (by simp)
        have hF8 := hk8.kp hF7 (by simp)
        have hX8 := hk8.kp hX7 (by simp)
        have hkk8 := hkk7.trans hk8
        obtain ⟨w9, wa, hw9, ht9, hwa, hoa, hka⟩ := put47 w8 (fun _ => 0)
        obtain ⟨bz, hbz⟩ : ∃ bz, bz = w8.heap.size := ⟨_, rfl⟩
        have nbz : bz ≠ p := by have := ob_lt hB8; omega
        have H9 := Lib.hid hw9
        have HA := Lib.hid hwa
        have T9 := Lib.hid ht9
        have HZ := Lib.hid hbz
        rw [← hbz] at hoa
        have hBa := hB8.keep hka (by simp)
        have hFa := hka.kp hF8 (by simp)
        have hXa := hka.kp hX8 (by simp)
        have hkka := hkk8.trans hka
        clear hw9 ht9 hwa hbz hB7 hF7 hX7 hkk7 hk8 hB8 hF8 hX8 hkk8 hka
        obtain ⟨x0, x1, x2, x3, x4, x5, x6, x7, x8⟩ := cells9 hXa
        obtain ⟨v0, v1, v2, v3, v4, v5, v6, v7, v8⟩ := cells9 hFa
        obtain ⟨z0, z1, z2, z3, z4, z5, z6, z7, z8⟩ := cells9 hoa
        go_wp2_with (rw [show w8.alloc (.cells #[.int .u64 0, .int .u64 0, .int .u64 0, .int .u64 0, .int .u64 0, .int .u64 0, .int .u64 0, .int .u64 0, .int .u64 0] 47) = w9 from H9.out.symm, ← HZ.out]; refine wpList_store_mid rfl 47 (.tmp 15) (.tmp 77) rfl bz 0 (blk (vU fun _ => 0) 9) rfl rfl (by rw [blk_size, HZ.out]; exact T9.out) (siz9 _) (one9 _) ?_; rw [show w9.setCells bz 0 (blk (vU fun _ => 0) 9).toList = wa from (HZ.out ▸ HA.out).symm])
        refine (pState wa p _ _ hBa n).mono ?_
        rintro _ wb ⟨rfl, rfl⟩
        rw [G.out.2.2.2.1]
        go_wp2_with fail
        refine (pDo wa p _ _ hBa n 5).mono ?_
        rintro _ wb ⟨rfl, hBb, hkb⟩
        rw [G.out.2.2.2.2.1]
        have hkkb := hkka.andThen hkb (by simp; exact hp0)
        cases again with
        | false =>
          clear hBa hBb hkb hFa hXa hoa
          go_wp2
          go_ret
          exact ⟨rfl, hkkb⟩
        | true =>
          go_wp2_with fail
          refine (pDo wb p _ _ hBb n 0).mono ?_
          rintro _ wc ⟨rfl, hBc, hkc⟩
          rw [G.out.2.2.2.2.2]
          have hkkc := hkkb.andThen hkc (by simp; exact hp0)
          clear hBa hBb hBc hkb hkc hFa hXa hoa
          go_wp2
          go_ret
          exact ⟨rfl, hkkc⟩
end Go.Proofs.Ytpkpdfljhpieaaa
