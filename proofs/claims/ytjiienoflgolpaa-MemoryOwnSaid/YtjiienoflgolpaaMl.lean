import Derived.Test.YtjiienoflgolpaaMi
namespace Go.Proofs.Ytjiienoflgolpaa
open Go.RowKit
set_option linter.unusedSimpArgs false
set_option linter.unusedVariables false
attribute [local go_sem] ob_alloc ob_drew ob_drewN ob_setCell ob_setBlock objSet_cells obMap_map obClock_map isMapI_map keyI_mk findI_nil findI_cons lookRes_some lookRes_none lookRes_some' lookRes_none' setBlock_alloc mapPut

theorem range_ob' {w : World} {b : Nat} {X : Array Value} {t : TypeId} {f : Nat × Nat} (h : ob w b = some (.cells X t f)) : w.rangeAt b 0 X.toList := fun j v hv => by
  rw [cell_of_ob h, Nat.zero_add]; simpa using hv
theorem len16 (f : Nat → Int) : (Try.prog.info? 80).map (·.size) = some (blk (vU f) 16).toList.length := by rw [size80]; simp [blk]
theorem siz16 (f : Nat → Int) : (Try.prog.info? 80).map (·.size) = some (blk (vU f) 16).size := by rw [size80]; simp [blk]
theorem frame_fill (s : Nat → Int) (b : Nat) (hb : b < 4) (t : Nat → Int) (j : Nat) (hj : j < 16) : frameS 4 (fillS 4 s b t) b j = t j := by
  have h : hasB 4 (b : Int) 1 = true := by unfold hasB; simp; omega
  unfold frameS fillS
  rw [if_pos h, if_pos h]
  simp only [fr, Int.toNat_natCast, updB]
  rw [if_pos (by omega), show b * 16 + j - b * 16 = j by omega]

set_option maxRecDepth 100000 in
set_option maxHeartbeats 2000000 in
theorem own02 (W0 : World) (v0 : Value) (xs : List (List Value)) (hv : RdA W0 4 v0 xs) (hx : ∀ c ∈ xs, GCells W0 [.int .i64, .int .i64, .int .i64, .int .u64] c) (a b : Int) :
    Calls Try.prog 11 #[v0, .int .i64 a, .int .i64 b] W0 fun o w' => o = .returned (.bool true) ∧ Keep [] W0 w' := by
  obtain ⟨a0, cap0, rfl, hc1, hc2⟩ := hv.len
  unfold maxLen at hc2
  by_cases hg : 0 ≤ a ∧ a ≤ 3 ∧ 0 ≤ b ∧ b ≤ 3 ∧ xs.length ≤ 60
  · obtain ⟨ha, ha3, hb, hb3, h60⟩ := hg
    obtain ⟨a, rfl⟩ := Int.eq_ofNat_of_zero_le ha
    obtain ⟨b, rfl⟩ := Int.eq_ofNat_of_zero_le hb
    have ha4 : a < 4 := by omega
    have hb4 : b < 4 := by omega
    have haa : a ≤ 3 := by omega
    have hbb : b ≤ 3 := by omega
    clear ha hb ha3 hb3
    go_enter Try.func11, Try.ntmps11
    go_wp2_with fail
    refine (awake02 W0).mono ?_
    rintro _ w1 ⟨rfl, hk1⟩
    go_wp2_with fail
    refine (mNew_ok 4 (by omega) (by omega) w1).mono ?_
    rintro _ w2 ⟨rfl, hM, hk2, hs2⟩
    have hk : Keep [] W0 w2 := hk1.trans hk2
    obtain ⟨g, hg⟩ : ∃ g, g = w1.heap.size := ⟨_, rfl⟩
    obtain ⟨m, hm⟩ : ∃ m, m = g + 1 := ⟨_, rfl⟩
    have hWg : W0.heap.size ≤ g := by have := hk1.size; omega
    rw [← hg, ← hm] at hM
    rw [← hg, ← hm]
    clear hg hm hs2 hk1 hk2
    go_wp2_with fail
    have lxs := Lib.hid h60
    clear h60
    go_loopw [10] (fun i wr => ∃ (k : Nat) (s : Nat → Int), i = .int .i64 k ∧ k ≤ xs.length ∧ MemAt wr m g 4 s ∧ Keep [] W0 wr) (fun i _ => 60 - (intOf i).toNat)
    case atStart => exact ⟨0, _, rfl, by omega, hM, hk⟩
    case round =>
      clear hM hk
      obtain ⟨k, s, rfl, hkn, hM, hkp⟩ := hrel
      by_cases hlt : k < xs.length
      · have hbW : ∀ b0 off0 c0, Value.slice a0 xs.length cap0 = .slice (some ⟨b0, off0, none⟩) xs.length c0 → b0 < W0.heap.size := by
          intro b0 off0 c0 he
          obtain ⟨b1, off1, cap1, hveq1, hb1, _⟩ := hv.2 (by omega)
          rw [he] at hveq1
          simp only [Value.slice.injEq, Option.some.injEq, Addr.mk.injEq] at hveq1
          omega
        obtain ⟨bb, off, cap', hveq, hbl, hcells⟩ := (hv.keep hkp (by simp)).2 (by omega)
        have hbW1 := hbW _ _ _ hveq
        clear hbW
        simp only [Value.slice.injEq, true_and] at hveq
        obtain ⟨rfl, rfl⟩ := hveq
        have hxk : xs[k]? = some xs[k] := List.getElem?_eq_getElem hlt
        obtain ⟨hc3, hrange⟩ := hcells k _ hxk
        obtain ⟨_, _, hxe, ⟨d, rfl, wd⟩, _, _, rfl, ⟨q, rfl, wq⟩, _, _, rfl, ⟨e, rfl, wa⟩, _, _, rfl, ⟨x, rfl, wk⟩, rfl⟩ := hx _ (List.getElem_mem hlt)
        rw [hxe] at hrange
        have l1 := hrange 1 _ rfl
        have l3 := hrange 3 _ rfl
        clear hv hx hcells hxk hrange hc3 hxe wd wq wa wk
        generalize xs.length = l at *
        have h60 := lxs.out
        have hbg : bb ≠ g := by omega
        have hMd : MemAt wr.drew m g 4 s := hM.keep (S := []) (Keep.refl _ _).drew (by simp) (by simp)
        have hkd := hkp.drew
        have i0 : (0 : Int) ≤ (k : Int) := by omega
        have i1 : (k : Int) < (l : Int) := by omega
        clear hM hkp
        go_wp2_with fail
        go_region_held3 (fun w' => w'.cell? ⟨bb, off + k * 4 + 1, none⟩ = some (.int .i64 q) ∧ w'.cell? ⟨bb, off + k * 4 + 3, none⟩ = some (.int .u64 x)) (go_keep)
          ((go_at_call 25; refine (mWrite _ m g 4 s hMd _ x).mono ?_; rintro _ w5 ⟨rfl, hM5, hk5⟩; have kk5 : w5.cell? ⟨bb, off + k * 4 + 1, none⟩ = some (.int .i64 q) ∧ w5.cell? ⟨bb, off + k * 4 + 3, none⟩ = some (.int .u64 x) := ⟨by rw [cell_ob, hk5.block bb hbl (by simp; omega), ob_drew, ← cell_ob]; exact l1, by rw [cell_ob, hk5.block bb hbl (by simp; omega), ob_drew, ← cell_ob]; exact l3⟩))
        all_goals
          have HH := Lib.hid (And.intro hM5 (hkd.andThen hk5 (by simp; exact hWg)))
          clear hM5 hk5 hMd hkd kk5
          go_wp2
          go_roundw
          case rel => exact ⟨k + 1, _, by go_num, by omega, HH.out.1, HH.out.2⟩
          case measure => simp [intOf]; omega
      · generalize xs.length = l at *
        clear hv hx
        have hha : hasB 4 (a : Int) 1 = true := by unfold hasB; simp; omega
        have hhb : hasB 4 (b : Int) 1 = true := by unfold hasB; simp; omega
        have HHa := Lib.hid (eR_t hha)
        have HHb := Lib.hid (eR_t hhb)
        clear hha hhb
        have nmg := hM.2.2.1
        go_wp2_with fail
        refine (mFrame wr m g 4 s hM a).mono ?_
        rintro _ w3 ⟨rfl, hk3⟩
        rw [HHa.out]
        have hM3 := hM.keep hk3 (by simp) (by simp)
        have hkp3 := hkp.trans hk3
        obtain ⟨F, hF⟩ : ∃ F, F = frameS 4 s (a : Int) := ⟨_, rfl⟩
        rw [← hF]
        have HF := Lib.hid hF
        clear hF hM hk3 hkp
        obtain ⟨p1, q1, hp1, ht1, hq1, ho1, hkq1, hsq1⟩ := put80 w3 F
        obtain ⟨b1, hb1⟩ : ∃ b1, b1 = w3.heap.size := ⟨_, rfl⟩
        rw [← hb1] at ho1 hsq1
        have HP1 := Lib.hid hp1
        have HQ1 := Lib.hid hq1
        have HT1 := Lib.hid ht1
        have HB1 := Lib.hid hb1
        have LB1 := Lib.hid (show w3.heap.size ≤ b1 by omega)
        clear hp1 ht1 hq1 hb1
        have hM4 := hM3.keep hkq1 (by simp) (by simp)
        have hkp4 := hkp3.trans hkq1
        have lg4 := ob_lt hM3.2.1
        have lm4 := ob_lt hM3.1
        have n1g : b1 ≠ g := by have := LB1.out; omega
        have n1m : b1 ≠ m := by have := LB1.out; omega
        have n1W : W0.heap.size ≤ b1 := by have := LB1.out; have := hkp3.size; omega
        have R1 := Lib.hid (range_ob' ho1)
        clear hM3 hkp3 hkq1
        obtain ⟨p2, q2, hp2, ht2, hq2, ho2, hkq2, hsq2⟩ := put80 q1 F
        obtain ⟨b2, hb2⟩ : ∃ b2, b2 = q1.heap.size := ⟨_, rfl⟩
        rw [← hb2] at ho2 hsq2
        have HP2 := Lib.hid hp2
        have HQ2 := Lib.hid hq2
        have HT2 := Lib.hid ht2
        have HB2 := Lib.hid hb2
        have LB2 := Lib.hid (show q1.heap.size ≤ b2 by omega)
        clear hp2 ht2 hq2 hb2
        have hM5 := hM4.keep hkq2 (by simp) (by simp)
        have hkp5 := hkp4.trans hkq2
        have hX5 := hkq2.kp ho1 (by simp)
        have n21 : b2 ≠ b1 := by have := LB2.out; have := ob_lt ho1; omega
        have n2g : b2 ≠ g := by have := LB2.out; have := ob_lt hM4.2.1; omega
        clear hM4 hkp4 hkq2 ho1
        have c3 : q2.cell? ⟨b1, 3, none⟩ = some (.int .u64 (F 3)) := blk_cell hX5 (by omega)
        have fr1 := free_of_ob hX5
        obtain ⟨w6, hw6⟩ : ∃ w6, w6 = q2.setCell ⟨b1, 3, none⟩ (.int .u64 (IntKind.u64.wrap (F 3 + 1))) := ⟨_, rfl⟩
        have hk6 : Keep [b1] q2 w6 := by rw [hw6]; exact (Keep.refl _ _).setCell (.inl (by simp)) _ _
        have hM6 := hM5.keep hk6 (by simp; omega) (by simp; omega)
        have hY6 := hk6.kp ho2 (by simp; exact n21)
        have hkp6 := hkp5.andThen hk6 (by simp; exact n1W)
        have HW6 := Lib.hid hw6
        clear hM5 hkp5 hk6 ho2 hw6 hX5
        go_wp2_with (first
          | (rw [show w3.alloc (.cells #[.int .u64 0, .int .u64 0, .int .u64 0, .int .u64 0, .int .u64 0, .int .u64 0, .int .u64 0, .int .u64 0, .int .u64 0, .int .u64 0, .int .u64 0, .int .u64 0, .int .u64 0, .int .u64 0, .int .u64 0, .int .u64 0] 80) = p1 from HP1.out.symm, ← HB1.out]; refine wpList_store_mid rfl 80 (.tmp 11) (.tmp 79) rfl b1 0 (blk (vU F) 16) rfl rfl (HB1.out ▸ HT1.out) (siz16 _) (one16 _) ?_; rw [show p1.setCells b1 0 (blk (vU F) 16).toList = q1 from (HB1.out ▸ HQ1.out).symm])
          | (refine wpList_load_mid rfl 80 (.tmp 11) rfl b1 0 rfl (blk (vU F) 16).toList _ R1.out Try.underlying80 rfl (len16 F) ?_)
          | (rw [show q1.alloc (.cells #[.int .u64 0, .int .u64 0, .int .u64 0, .int .u64 0, .int .u64 0, .int .u64 0, .int .u64 0, .int .u64 0, .int .u64 0, .int .u64 0, .int .u64 0, .int .u64 0, .int .u64 0, .int .u64 0, .int .u64 0, .int .u64 0] 80) = p2 from HP2.out.symm, ← HB2.out]; refine wpList_store_mid rfl 80 (.tmp 13) (.tmp 81) rfl b2 0 (blk (vU F) 16) rfl rfl (HB2.out ▸ HT2.out) (siz16 _) (one16 _) ?_; rw [show p2.setCells b2 0 (blk (vU F) 16).toList = q2 from (HB2.out ▸ HQ2.out).symm]))
        rw [← HW6.out]
        refine (mFrame w6 m g 4 s hM6 a).mono ?_
        rintro _ w7 ⟨rfl, hk7⟩
        rw [HHa.out, ← HF.out]
        have hM7 := hM6.keep hk7 (by simp) (by simp)
        have hY7 := hk7.kp hY6 (by simp)
        have hkp7 := hkp6.trans hk7
        clear hM6 hY6 hkp6 hk7
        obtain ⟨p3, q3, hp3, ht3, hq3, ho3, hkq3, hsq3⟩ := put80 w7 F
        obtain ⟨b3, hb3⟩ : ∃ b3, b3 = w7.heap.size := ⟨_, rfl⟩
        rw [← hb3] at ho3 hsq3
        have HP3 := Lib.hid hp3
        have HQ3 := Lib.hid hq3
        have HT3 := Lib.hid ht3
        have HB3 := Lib.hid hb3
        have LB3 := Lib.hid (show w7.heap.size ≤ b3 by omega)
        clear hp3 ht3 hq3 hb3
        have hM8 := hM7.keep hkq3 (by simp) (by simp)
        have hY8 := hkq3.kp hY7 (by simp)
        have hkp8 := hkp7.trans hkq3
        have n3g : b3 ≠ g := by have := LB3.out; have := ob_lt hM7.2.1; omega
        have R8 := Lib.hid (range_ob' hY8)
        clear hM7 hY7 hkp7 hkq3
        go_wp2_with (first
          | (rw [show w7.alloc (.cells #[.int .u64 0, .int .u64 0, .int .u64 0, .int .u64 0, .int .u64 0, .int .u64 0, .int .u64 0, .int .u64 0, .int .u64 0, .int .u64 0, .int .u64 0, .int .u64 0, .int .u64 0, .int .u64 0, .int .u64 0, .int .u64 0] 80) = p3 from HP3.out.symm, ← HB3.out]; refine wpList_store_mid rfl 80 (.tmp 14) (.tmp 90) rfl b3 0 (blk (vU F) 16) rfl rfl (HB3.out ▸ HT3.out) (siz16 _) (one16 _) ?_; rw [show p3.setCells b3 0 (blk (vU F) 16).toList = q3 from (HB3.out ▸ HQ3.out).symm])
          | (refine wpList_load_mid rfl 80 (.tmp 13) rfl b2 0 rfl (blk (vU F) 16).toList _ R8.out Try.underlying80 rfl (len16 F) ?_))
        refine (mFill q3 m g 4 s hM8 b F).mono ?_
        rintro _ w9 ⟨rfl, hM9, hk9⟩
        rw [HHb.out]
        have hY9 := hk9.kp hY8 (by simp; exact n2g)
        have hZ9 := hk9.kp ho3 (by simp; exact n3g)
        have hkp9 := hkp8.andThen hk9 (by simp; exact hWg)
        clear hM8 hY8 ho3 hkp8 hk9
        go_wp2_with fail
        refine (mFrame w9 m g 4 _ hM9 b).mono ?_
        rintro _ wa ⟨rfl, hka⟩
        rw [HHb.out]
        have hYa := hka.kp hY9 (by simp)
        have hZa := hka.kp hZ9 (by simp)
        have hkpa := hkp9.trans hka
        have hG : eqB (frameS 4 (fillS 4 s (b : Int) F) (b : Int)) F = true := (eqB_iff _ _).2 (fun j hj => frame_fill s b hb4 F j hj)
        obtain ⟨G, hGG⟩ : ∃ G, G = frameS 4 (fillS 4 s (b : Int) F) (b : Int) := ⟨_, rfl⟩
        rw [← hGG] at hG ⊢
        have HG := Lib.hid hG
        clear hGG hG hM9 hY9 hZ9 hkp9 hka
        obtain ⟨p4, q4, hp4, ht4, hq4, ho4, hkq4, hsq4⟩ := put80 wa G
        obtain ⟨b4, hb4⟩ : ∃ b4, b4 = wa.heap.size := ⟨_, rfl⟩
        rw [← hb4] at ho4 hsq4
        have HP4 := Lib.hid hp4
        have HQ4 := Lib.hid hq4
        have HT4 := Lib.hid ht4
        have HB4 := Lib.hid hb4
        have LB4 := Lib.hid (show wa.heap.size ≤ b4 by omega)
        clear hp4 ht4 hq4 hb4
        have hYb := hkq4.kp hYa (by simp)
        have hZb := hkq4.kp hZa (by simp)
        have hkpb := hkpa.trans hkq4
        clear hYa hZa hkpa hkq4
        have hc2 := cells16 hYb
        have hc3 := cells16 hZb
        have hc4 := cells16 ho4
        have x2_0 := hc2 0 (by omega)
        have x2_1 := hc2 1 (by omega)
        have x2_2 := hc2 2 (by omega)
        have x2_3 := hc2 3 (by omega)
        have x2_4 := hc2 4 (by omega)
        have x2_5 := hc2 5 (by omega)
        have x2_6 := hc2 6 (by omega)
        have x2_7 := hc2 7 (by omega)
        have x2_8 := hc2 8 (by omega)
        have x2_9 := hc2 9 (by omega)
        have x2_10 := hc2 10 (by omega)
        have x2_11 := hc2 11 (by omega)
        have x2_12 := hc2 12 (by omega)
        have x2_13 := hc2 13 (by omega)
        have x2_14 := hc2 14 (by omega)
        have x2_15 := hc2 15 (by omega)
        have x3_0 := hc3 0 (by omega)
        have x3_1 := hc3 1 (by omega)
        have x3_2 := hc3 2 (by omega)
        have x3_3 := hc3 3 (by omega)
        have x3_4 := hc3 4 (by omega)
        have x3_5 := hc3 5 (by omega)
        have x3_6 := hc3 6 (by omega)
        have x3_7 := hc3 7 (by omega)
        have x3_8 := hc3 8 (by omega)
        have x3_9 := hc3 9 (by omega)
        have x3_10 := hc3 10 (by omega)
        have x3_11 := hc3 11 (by omega)
        have x3_12 := hc3 12 (by omega)
        have x3_13 := hc3 13 (by omega)
        have x3_14 := hc3 14 (by omega)
        have x3_15 := hc3 15 (by omega)
        have x4_0 := hc4 0 (by omega)
        have x4_1 := hc4 1 (by omega)
        have x4_2 := hc4 2 (by omega)
        have x4_3 := hc4 3 (by omega)
        have x4_4 := hc4 4 (by omega)
        have x4_5 := hc4 5 (by omega)
        have x4_6 := hc4 6 (by omega)
        have x4_7 := hc4 7 (by omega)
        have x4_8 := hc4 8 (by omega)
        have x4_9 := hc4 9 (by omega)
        have x4_10 := hc4 10 (by omega)
        have x4_11 := hc4 11 (by omega)
        have x4_12 := hc4 12 (by omega)
        have x4_13 := hc4 13 (by omega)
        have x4_14 := hc4 14 (by omega)
        have x4_15 := hc4 15 (by omega)
        have he1 : (Op.equalIn 10000 80 (.agg #[.int .u64 (F 0), .int .u64 (F 1), .int .u64 (F 2), .int .u64 (F 3), .int .u64 (F 4), .int .u64 (F 5), .int .u64 (F 6), .int .u64 (F 7), .int .u64 (F 8), .int .u64 (F 9), .int .u64 (F 10), .int .u64 (F 11), .int .u64 (F 12), .int .u64 (F 13), .int .u64 (F 14), .int .u64 (F 15)]) (.agg #[.int .u64 (F 0), .int .u64 (F 1), .int .u64 (F 2), .int .u64 (F 3), .int .u64 (F 4), .int .u64 (F 5), .int .u64 (F 6), .int .u64 (F 7), .int .u64 (F 8), .int .u64 (F 9), .int .u64 (F 10), .int .u64 (F 11), .int .u64 (F 12), .int .u64 (F 13), .int .u64 (F 14), .int .u64 (F 15)])).run Try.prog q4 = .ok true q4 := by
          refine (eqIn80 F F q4).trans ?_
          rw [(eqB_iff F F).2 (fun _ _ => rfl)]
        have he2 : (Op.equalIn 10000 80 (.agg #[.int .u64 (G 0), .int .u64 (G 1), .int .u64 (G 2), .int .u64 (G 3), .int .u64 (G 4), .int .u64 (G 5), .int .u64 (G 6), .int .u64 (G 7), .int .u64 (G 8), .int .u64 (G 9), .int .u64 (G 10), .int .u64 (G 11), .int .u64 (G 12), .int .u64 (G 13), .int .u64 (G 14), .int .u64 (G 15)]) (.agg #[.int .u64 (F 0), .int .u64 (F 1), .int .u64 (F 2), .int .u64 (F 3), .int .u64 (F 4), .int .u64 (F 5), .int .u64 (F 6), .int .u64 (F 7), .int .u64 (F 8), .int .u64 (F 9), .int .u64 (F 10), .int .u64 (F 11), .int .u64 (F 12), .int .u64 (F 13), .int .u64 (F 14), .int .u64 (F 15)])).run Try.prog q4 = .ok true q4 := by
          refine (eqIn80 G F q4).trans ?_
          rw [HG.out]
        clear hc2 hc3 hc4 hYb hZb ho4
        go_wp2_with (rw [show wa.alloc (.cells #[.int .u64 0, .int .u64 0, .int .u64 0, .int .u64 0, .int .u64 0, .int .u64 0, .int .u64 0, .int .u64 0, .int .u64 0, .int .u64 0, .int .u64 0, .int .u64 0, .int .u64 0, .int .u64 0, .int .u64 0, .int .u64 0] 80) = p4 from HP4.out.symm, ← HB4.out]; refine wpList_store_mid rfl 80 (.tmp 17) (.tmp 100) rfl b4 0 (blk (vU G) 16) rfl rfl (HB4.out ▸ HT4.out) (siz16 _) (one16 _) ?_; rw [show p4.setCells b4 0 (blk (vU G) 16).toList = q4 from (HB4.out ▸ HQ4.out).symm])
        go_ret
        exact ⟨rfl, hkpb⟩
  · generalize xs.length = l at *
    have hcs : a < 0 ∨ (¬ a < 0 ∧ 3 < a) ∨ (¬ a < 0 ∧ ¬ 3 < a ∧ b < 0) ∨ (¬ a < 0 ∧ ¬ 3 < a ∧ ¬ b < 0 ∧ 3 < b) ∨ (¬ a < 0 ∧ ¬ 3 < a ∧ ¬ b < 0 ∧ ¬ 3 < b ∧ 60 < l) := by omega
    clear hg hv hx
    rcases hcs with h | ⟨h, h1⟩ | ⟨h, h1, h2⟩ | ⟨h, h1, h2, h3⟩ | ⟨h, h1, h2, h3, h4⟩
    all_goals
      go_enter Try.func11, Try.ntmps11
      go_wp2_with fail
      refine (awake02 W0).mono ?_
      rintro _ w1 ⟨rfl, hk1⟩
      go_wp2_with fail
      refine (mNew_ok 4 (by omega) (by omega) w1).mono ?_
      rintro _ w2 ⟨rfl, hM, hk2, hs2⟩
      have hk : Keep [] W0 w2 := hk1.trans hk2
      clear hM hk1 hk2 hs2
      go_wp2
      go_ret
      exact ⟨rfl, hk⟩
end Go.Proofs.Ytjiienoflgolpaa
