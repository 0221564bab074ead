import Derived.Test.YtjiienoflgolpaaMi
import Derived.Deep.CutRange
import Derived.Deep.QuietTactic
import Derived.BigQuiet
namespace Go.Proofs.Ytjiienoflgolpaa
open Go.RowKit
set_option linter.unusedSimpArgs false
set_option linter.unusedVariables false
attribute [local go_sem] ob_alloc ob_drew ob_drewN ob_setCell ob_setBlock objSet_cells obMap_map obClock_map isMapI_map keyI_mk findI_nil findI_cons lookRes_some lookRes_none lookRes_some' lookRes_none' setBlock_alloc mapPut

/-! ### MemoryScrubs: the plain law -/
def fs (k : Nat) : Nat → Int := fun j => if j < k * 16 then secF ((j / 16 : Nat) + 1) (j % 16) else 0
theorem fs_step (k : Nat) (hk : k < 8) (j : Nat) : fillS 8 (fs k) (k : Int) (secF ((k : Int) + 1)) j = fs (k + 1) j := by
  unfold fillS
  rw [if_pos (by unfold hasB; simp; omega)]
  simp only [Int.toNat_natCast]
  unfold updB fs
  by_cases h : k * 16 ≤ j ∧ j < k * 16 + 16
  · rw [if_pos h, if_pos (by omega), show j - k * 16 = j % 16 by omega, show j / 16 = k by omega]
  · rw [if_neg h]
    by_cases h2 : j < k * 16
    · rw [if_pos h2, if_pos (by omega)]
    · rw [if_neg h2, if_neg (by omega)]
def inB (f k : Int) (i : Nat) : Bool := hasB 8 f k && decide (f ≤ i ∧ (i : Int) < f + k)
theorem scr_at (f k : Int) (i j : Nat) (hi : i < 8) (hj : j < 16) : scrubS 8 (fs 8) f k (i * 16 + j) = if inB f k i = true then 0 else secF ((i : Int) + 1) j := by
  have h8 : fs 8 (i * 16 + j) = secF ((i : Int) + 1) j := by
    unfold fs; rw [if_pos (by omega), show (i * 16 + j) / 16 = i by omega, show (i * 16 + j) % 16 = j by omega]
  unfold scrubS inB
  cases hb : hasB 8 f k with
  | false => simp; exact h8
  | true =>
    obtain ⟨F, K, rfl, rfl, hK, hFK⟩ := hasB_out2 hb
    simp only [if_true, Int.toNat_natCast, Bool.true_and, decide_eq_true_eq]
    unfold scr
    by_cases h : F ≤ i ∧ i < F + K
    · rw [if_pos (by omega), if_pos (by omega)]
    · rw [if_neg (by omega), if_neg (by omega)]; exact h8
theorem scr_zeroB (f k : Int) (i : Nat) (hi : i < 8) : zeroB 8 (scrubS 8 (fs 8) f k) (i : Int) = inB f k i := by
  have hh : hasB 8 (i : Int) 1 = true := by unfold hasB; simp; omega
  unfold zeroB
  rw [hh, Bool.true_and, Bool.eq_iff_iff, eqB_iff]
  constructor
  · intro h
    have := h 0 (by omega)
    simp only [fr, Int.toNat_natCast] at this
    rw [scr_at f k i 0 hi (by omega)] at this
    by_cases hb : inB f k i = true
    · exact hb
    · rw [if_neg hb] at this
      simp [secF] at this
      omega
  · intro h j hj
    simp only [fr, Int.toNat_natCast]
    rw [scr_at f k i j hi hj, if_pos h]
theorem scr_frame (f k : Int) (i : Nat) (hi : i < 8) (h : inB f k i = false) : eqB (frameS 8 (scrubS 8 (fs 8) f k) (i : Int)) (secF ((i : Int) + 1)) = true := by
  have hh : hasB 8 (i : Int) 1 = true := by unfold hasB; simp; omega
  rw [eqB_iff]
  intro j hj
  unfold frameS
  rw [if_pos hh]
  simp only [fr, Int.toNat_natCast]
  rw [scr_at f k i j hi hj, if_neg (by simp [h])]

theorem range_ob {w : World} {b : Nat} {X : Array Value} {t : TypeId} {f : Nat × Nat} (h : ob w b = some (.cells X t f)) : w.rangeAt b 0 X.toList := fun j v hv => by
  rw [cell_of_ob h, Nat.zero_add]; simpa using hv
theorem inB_out {f k : Int} {i : Nat} (h : inB f k i = true) : ∃ F K : Nat, f = F ∧ k = K ∧ 1 ≤ K ∧ F + K ≤ 8 ∧ F ≤ i ∧ i < F + K ∧ hasB 8 f k = true := by
  unfold inB at h
  obtain ⟨h1, h2⟩ := Bool.and_eq_true_iff.1 h
  obtain ⟨F, K, rfl, rfl, h3, h4⟩ := hasB_out2 h1
  have h2 := of_decide_eq_true h2
  exact ⟨F, K, rfl, rfl, h3, h4, by omega, by omega, h1⟩
theorem inB_no {f k : Int} {i : Nat} (h : inB f k i = false) : hasB 8 f k = false ∨ (∃ F K : Nat, f = F ∧ k = K ∧ 1 ≤ K ∧ F + K ≤ 8 ∧ i < F ∧ hasB 8 f k = true) ∨ (∃ F K : Nat, f = F ∧ k = K ∧ 1 ≤ K ∧ F + K ≤ 8 ∧ F ≤ i ∧ F + K ≤ i ∧ hasB 8 f k = true) := by
  cases hb : hasB 8 f k with
  | false => exact .inl rfl
  | true =>
    obtain ⟨F, K, rfl, rfl, h3, h4⟩ := hasB_out2 hb
    by_cases h5 : F ≤ i
    · by_cases h6 : i < F + K
      · unfold inB at h; rw [hb] at h; simp at h; omega
      · exact .inr (.inr ⟨F, K, rfl, rfl, h3, h4, h5, by omega, rfl⟩)
    · exact .inr (.inl ⟨F, K, rfl, rfl, h3, h4, by omega, rfl⟩)

set_option maxRecDepth 100000 in
set_option maxHeartbeats 800000 in
theorem scrubs02 (W0 : World) (f k : Int) : Calls Try.prog 12 #[.int .i64 f, .int .i64 k] W0 fun o w' => o = .returned (.bool true) ∧ Keep [] W0 w' := by
  go_enter Try.func12, Try.ntmps12
  go_wp2_with fail
  refine (awake02 W0).mono ?_
  rintro _ w1 ⟨rfl, hk1⟩
  go_wp2_with fail
  refine (mNew_ok 8 (by omega) (by omega) w1).mono ?_
  rintro _ w2 ⟨rfl, hM, hk2, hs2⟩
  have hk : Keep [] W0 w2 := hk1.trans hk2
  obtain ⟨g, hg⟩ : ∃ g, g = w1.heap.size := ⟨_, rfl⟩
  obtain ⟨m, hm⟩ : ∃ m, m = g + 1 := ⟨_, rfl⟩
  have hWg : W0.heap.size ≤ g := by have := hk1.size; omega
  rw [← hg, ← hm] at hM
  rw [← hg, ← hm]
  clear hg hm hs2 hk1 hk2
  go_wp2_with fail
  go_loopw [8] (fun i wr => ∃ c : Nat, c ≤ 8 ∧ i = .int .i64 c ∧ MemAt wr m g 8 (fs c) ∧ Keep [] W0 wr) (fun i _ => 8 - (intOf i).toNat)
  case atStart => exact ⟨0, by omega, rfl, hM.congr (fun i _ => by unfold fs; rw [if_neg (by omega)]), hk⟩
  case round =>
    clear hM hk
    obtain ⟨c, hc, rfl, hM, hkp⟩ := hrel
    by_cases hlt : c < 8
    · go_wp2_with fail
      refine (mSecond wr _).mono ?_
      rintro _ w3 ⟨rfl, hk3⟩
      have hM3 := hM.keep hk3 (by simp) (by simp)
      go_wp2_with fail
      refine (mFill w3 m g 8 _ hM3 c (secF ((c : Int) + 1))).mono ?_
      rintro _ w4 ⟨rfl, hM4, hk4⟩
      have HH := Lib.hid (And.intro (hM4.congr (fun i _ => fs_step c hlt i)) ((hkp.trans hk3).andThen hk4 (by simp; exact hWg)))
      clear hM hM3 hM4 hk3 hk4 hkp
      go_wp2
      go_roundw
      case rel => exact ⟨c + 1, by omega, by go_num, HH.out.1, HH.out.2⟩
      case measure => simp [intOf]; omega
    · have e : c = 8 := by omega
      subst e
      go_wp2_with fail
      refine (mScrub wr m g 8 _ hM f k).mono ?_
      rintro _ w3 ⟨rfl, hM3, hk3⟩
      have hk5 := hkp.andThen hk3 (by simp; exact hWg)
      clear hM hk3 hkp
      go_upto_region 10 with fail
      go_cut [10] from 41 to 56 (fun c wx => c = .bool (hasB 8 f k) ∧ wx = w3)
      case first =>
        by_cases hb : hasB 8 f k = true
        · obtain ⟨F, K, rfl, rfl, hK, hFK⟩ := hasB_out2 hb
          have HB := Lib.hid hb
          have hle : (F : Int) ≤ 8 - (K : Int) := by omega
          clear hb hM3
          go_wp2_with fail
          go_meet
          exact ⟨by first | (rw [HB.out]; done) | (rw [HB.out]; simp; done) | (rw [HB.out]; simp; omega), rfl⟩
        · have HB := Lib.hid (Bool.eq_false_iff.2 hb)
          have h : k < 1 ∨ (¬ k < 1 ∧ 8 < k) ∨ (1 ≤ k ∧ k ≤ 8 ∧ f < 0) ∨ (1 ≤ k ∧ k ≤ 8 ∧ 0 ≤ f ∧ 8 - k < f) := by unfold hasB at hb; simp at hb; omega
          have hle : 8 - k < f → ¬ f ≤ 8 - k := by omega
          clear hb hM3
          rcases h with h | ⟨h1, h⟩ | ⟨h1, h2, h⟩ | ⟨h1, h2, h3, h⟩
          all_goals
            go_wp2_with fail
            go_meet
            exact ⟨by first | (rw [HB.out]; done) | (rw [HB.out]; simp; done) | (rw [HB.out]; simp; omega), rfl⟩
      case rest =>
        obtain ⟨rfl, rfl⟩ := hcut
        clear hc hlt
        have hz := fun i hi => scr_zeroB f k i hi
        have hf := fun i hi => scr_frame f k i hi
        have hn0 := fun w (h : MemAt w m g 8 (scrubS 8 (fs 8) f k)) => h
        generalize scrubS 8 (fs 8) f k = sF at *
        have HZ := Lib.hid hz
        have HF := Lib.hid hf
        clear hz hf hn0
        go_wp2_with fail
        go_loopw [11] (fun i wr => ∃ c : Nat, c ≤ 8 ∧ i = .int .i64 c ∧ MemAt wr m g 8 sF ∧ Keep [] W0 wr) (fun i _ => 8 - (intOf i).toNat)
        case atStart => exact ⟨0, by omega, rfl, hM3, hk5⟩
        case round =>
          clear hM3 hk5
          obtain ⟨c, hc, rfl, hM, hkp⟩ := hrel
          by_cases hlt : c < 8
          · cases hin : inB f k c with
            | false =>
              have hzb := HZ.out c hlt
              rw [hin] at hzb
              have HZB := Lib.hid hzb
              have he : ∀ w, (Op.equalIn 10000 80 (.agg (blk (vU (frameS 8 sF c)) 16)) (.agg (blk (vU (secF ((c : Int) + 1))) 16))).run Try.prog w = .ok true w := fun w => by
                rw [eqIn80, HF.out c hlt hin]
              clear hzb
              have hno := inB_no hin
              clear hin HZ HF
              rcases hno with hb | ⟨F, K, rfl, rfl, g1, g2, g3, hb⟩ | ⟨F, K, rfl, rfl, g1, g2, g3, g4, hb⟩
              · have d1 : True := trivial
                have d2 : True := trivial
                have d3 : True := trivial
                have d4 : True := trivial
                rw [hb]
                clear hb
                go_wp2_with fail
                refine (mFrame wr m g 8 _ hM c).mono ?_
                rintro _ w4 ⟨rfl, hk4⟩
                have hM4 := hM.keep hk4 (by simp) (by simp)
                have hkp4 := hkp.trans hk4
                obtain ⟨w5, w6, hw5, ht5, hw6, ho6, hk6, hs6⟩ := put80 w4 (frameS 8 sF c)
                have hM6 := hM4.keep hk6 (by simp) (by simp)
                have hkp6 := hkp4.trans hk6
                obtain ⟨b, hb⟩ : ∃ b, b = w4.heap.size := ⟨_, rfl⟩
                have H5 := Lib.hid hw5
                have H6 := Lib.hid hw6
                have HB := Lib.hid hb
                have HT := Lib.hid ht5
                rw [← hb] at ho6 hs6
                have HS := Lib.hid hs6
                clear hw5 hw6 hb ht5 hM hM4 hk4 hk6 hkp hkp4 hs6
                go_wp2_with (rw [show w4.alloc (.cells #[.int .u64 0, .int .u64 0, .int .u64 0, .int .u64 0, .int .u64 0, .int .u64 0, .int .u64 0, .int .u64 0, .int .u64 0, .int .u64 0, .int .u64 0, .int .u64 0, .int .u64 0, .int .u64 0, .int .u64 0, .int .u64 0] 80) = w5 from H5.out.symm, ← HB.out]; refine wpList_store_mid rfl 80 (.tmp 13) (.tmp 78) rfl b 0 _ rfl rfl (HB.out ▸ HT.out) (by rw [size80]; simp [blk]) (one16 _) ?_; rw [show w5.setCells b 0 _ = w6 from (HB.out ▸ H6.out).symm])
                have hM6' := hM6.keep (S := []) (Keep.refl _ _).drew (by simp) (by simp)
                have hkp6' := hkp6.drew
                have ho6' : ob w6.drew b = _ := ho6
                have r1 := range_ob ho6'
                have hu := Try.underlying80
                have hl : (blk (vU (frameS 8 sF c)) 16).toList.length = 16 := by simp [blk]
                have hi : (Try.prog.info? 80).map (·.size) = some (blk (vU (frameS 8 sF c)) 16).toList.length := by rw [size80, hl]
                have q1 : IntKind.i64.wrap ((c : Int) + 1) = (c : Int) + 1 := IntWalk.i64_in _ (by omega)
                have q2 : IntKind.u64.wrap ((c : Int) + 1) = (c : Int) + 1 := IntWalk.u64_in _ (by clear q1; omega)
                generalize blk (vU (frameS 8 sF c)) 16 = X at *
                clear ho6 hM6 hkp6
                go_region_held3 (fun w' => w'.rangeAt b 0 X.toList) (first | assumption | go_keep_ranges)
                  (first
                    | (go_at_call 28; refine (mZero _ m g 8 _ hM6' c).mono ?_; rintro _ w7 ⟨rfl, rfl⟩; rw [HZB.out])
                    | (go_at_call 44; refine (mSecond _ ((c : Int) + 1)).mono ?_; rintro _ w7 ⟨rfl, hk7⟩; have r7 := range_ob (hk7.kp ho6' (by simp)); have hM7 := hM6'.keep hk7 (by simp) (by simp); have hkp7 := hkp6'.trans hk7))
                clear q1 q2 d1 d2 d3 d4

                have HH := Lib.hid (And.intro hM7 hkp7)
                clear hM6' hkp6' ho6' r1 hi hl hM7 hkp7 r7 hk7
                go_wp2
                go_roundw
                case rel => exact ⟨c + 1, by omega, by go_num, HH.out.1, HH.out.2⟩
                case measure => simp [intOf]; omega
              · have d1 : decide ((F : Int) ≤ (c : Int)) = false := by simp; omega
                have d2 : decide (F ≤ c) = false := by simp; omega
                have d3 : True := trivial
                have d4 : True := trivial
                rw [hb]
                clear hb
                go_wp2_with fail
                refine (mFrame wr m g 8 _ hM c).mono ?_
                rintro _ w4 ⟨rfl, hk4⟩
                have hM4 := hM.keep hk4 (by simp) (by simp)
                have hkp4 := hkp.trans hk4
                obtain ⟨w5, w6, hw5, ht5, hw6, ho6, hk6, hs6⟩ := put80 w4 (frameS 8 sF c)
                have hM6 := hM4.keep hk6 (by simp) (by simp)
                have hkp6 := hkp4.trans hk6
                obtain ⟨b, hb⟩ : ∃ b, b = w4.heap.size := ⟨_, rfl⟩
                have H5 := Lib.hid hw5
                have H6 := Lib.hid hw6
                have HB := Lib.hid hb
                have HT := Lib.hid ht5
                rw [← hb] at ho6 hs6
                have HS := Lib.hid hs6
                clear hw5 hw6 hb ht5 hM hM4 hk4 hk6 hkp hkp4 hs6
                go_wp2_with (rw [show w4.alloc (.cells #[.int .u64 0, .int .u64 0, .int .u64 0, .int .u64 0, .int .u64 0, .int .u64 0, .int .u64 0, .int .u64 0, .int .u64 0, .int .u64 0, .int .u64 0, .int .u64 0, .int .u64 0, .int .u64 0, .int .u64 0, .int .u64 0] 80) = w5 from H5.out.symm, ← HB.out]; refine wpList_store_mid rfl 80 (.tmp 13) (.tmp 78) rfl b 0 _ rfl rfl (HB.out ▸ HT.out) (by rw [size80]; simp [blk]) (one16 _) ?_; rw [show w5.setCells b 0 _ = w6 from (HB.out ▸ H6.out).symm])
                have hM6' := hM6.keep (S := []) (Keep.refl _ _).drew (by simp) (by simp)
                have hkp6' := hkp6.drew
                have ho6' : ob w6.drew b = _ := ho6
                have r1 := range_ob ho6'
                have hu := Try.underlying80
                have hl : (blk (vU (frameS 8 sF c)) 16).toList.length = 16 := by simp [blk]
                have hi : (Try.prog.info? 80).map (·.size) = some (blk (vU (frameS 8 sF c)) 16).toList.length := by rw [size80, hl]
                have q1 : IntKind.i64.wrap ((c : Int) + 1) = (c : Int) + 1 := IntWalk.i64_in _ (by omega)
                have q2 : IntKind.u64.wrap ((c : Int) + 1) = (c : Int) + 1 := IntWalk.u64_in _ (by clear q1; omega)
                generalize blk (vU (frameS 8 sF c)) 16 = X at *
                clear ho6 hM6 hkp6
                go_region_held3 (fun w' => w'.rangeAt b 0 X.toList) (first | assumption | go_keep_ranges)
                  (first
                    | (go_at_call 28; refine (mZero _ m g 8 _ hM6' c).mono ?_; rintro _ w7 ⟨rfl, rfl⟩; rw [HZB.out])
                    | (go_at_call 44; refine (mSecond _ ((c : Int) + 1)).mono ?_; rintro _ w7 ⟨rfl, hk7⟩; have r7 := range_ob (hk7.kp ho6' (by simp)); have hM7 := hM6'.keep hk7 (by simp) (by simp); have hkp7 := hkp6'.trans hk7))
                clear q1 q2 d1 d2 d3 d4

                have HH := Lib.hid (And.intro hM7 hkp7)
                clear hM6' hkp6' ho6' r1 hi hl hM7 hkp7 r7 hk7
                go_wp2
                go_roundw
                case rel => exact ⟨c + 1, by omega, by go_num, HH.out.1, HH.out.2⟩
                case measure => simp [intOf]; omega
              · have d1 : decide ((F : Int) ≤ (c : Int)) = true := by simp; omega
                have d2 : decide (F ≤ c) = true := by simp; omega
                have d3 : decide ((c : Int) < (F : Int) + (K : Int)) = false := by simp; omega
                have d4 : decide (c < F + K) = false := by simp; omega
                rw [hb]
                clear hb
                go_wp2_with fail
                refine (mFrame wr m g 8 _ hM c).mono ?_
                rintro _ w4 ⟨rfl, hk4⟩
                have hM4 := hM.keep hk4 (by simp) (by simp)
                have hkp4 := hkp.trans hk4
                obtain ⟨w5, w6, hw5, ht5, hw6, ho6, hk6, hs6⟩ := put80 w4 (frameS 8 sF c)
                have hM6 := hM4.keep hk6 (by simp) (by simp)
                have hkp6 := hkp4.trans hk6
                obtain ⟨b, hb⟩ : ∃ b, b = w4.heap.size := ⟨_, rfl⟩
                have H5 := Lib.hid hw5
                have H6 := Lib.hid hw6
                have HB := Lib.hid hb
                have HT := Lib.hid ht5
                rw [← hb] at ho6 hs6
                have HS := Lib.hid hs6
                clear hw5 hw6 hb ht5 hM hM4 hk4 hk6 hkp hkp4 hs6
                go_wp2_with (rw [show w4.alloc (.cells #[.int .u64 0, .int .u64 0, .int .u64 0, .int .u64 0, .int .u64 0, .int .u64 0, .int .u64 0, .int .u64 0, .int .u64 0, .int .u64 0, .int .u64 0, .int .u64 0, .int .u64 0, .int .u64 0, .int .u64 0, .int .u64 0] 80) = w5 from H5.out.symm, ← HB.out]; refine wpList_store_mid rfl 80 (.tmp 13) (.tmp 78) rfl b 0 _ rfl rfl (HB.out ▸ HT.out) (by rw [size80]; simp [blk]) (one16 _) ?_; rw [show w5.setCells b 0 _ = w6 from (HB.out ▸ H6.out).symm])
                have hM6' := hM6.keep (S := []) (Keep.refl _ _).drew (by simp) (by simp)
                have hkp6' := hkp6.drew
                have ho6' : ob w6.drew b = _ := ho6
                have r1 := range_ob ho6'
                have hu := Try.underlying80
                have hl : (blk (vU (frameS 8 sF c)) 16).toList.length = 16 := by simp [blk]
                have hi : (Try.prog.info? 80).map (·.size) = some (blk (vU (frameS 8 sF c)) 16).toList.length := by rw [size80, hl]
                have q1 : IntKind.i64.wrap ((c : Int) + 1) = (c : Int) + 1 := IntWalk.i64_in _ (by omega)
                have q2 : IntKind.u64.wrap ((c : Int) + 1) = (c : Int) + 1 := IntWalk.u64_in _ (by clear q1; omega)
                generalize blk (vU (frameS 8 sF c)) 16 = X at *
                clear ho6 hM6 hkp6
                go_region_held3 (fun w' => w'.rangeAt b 0 X.toList) (first | assumption | go_keep_ranges)
                  (first
                    | (go_at_call 28; refine (mZero _ m g 8 _ hM6' c).mono ?_; rintro _ w7 ⟨rfl, rfl⟩; rw [HZB.out])
                    | (go_at_call 44; refine (mSecond _ ((c : Int) + 1)).mono ?_; rintro _ w7 ⟨rfl, hk7⟩; have r7 := range_ob (hk7.kp ho6' (by simp)); have hM7 := hM6'.keep hk7 (by simp) (by simp); have hkp7 := hkp6'.trans hk7))
                clear q1 q2 d1 d2 d3 d4

                have HH := Lib.hid (And.intro hM7 hkp7)
                clear hM6' hkp6' ho6' r1 hi hl hM7 hkp7 r7 hk7
                go_wp2
                go_roundw
                case rel => exact ⟨c + 1, by omega, by go_num, HH.out.1, HH.out.2⟩
                case measure => simp [intOf]; omega
            | true =>
              have hzb := HZ.out c hlt
              rw [hin] at hzb
              have HZB := Lib.hid hzb
              obtain ⟨F, K, rfl, rfl, g1, g2, g3, g4, hb⟩ := inB_out hin
              have d1 : decide ((F : Int) ≤ (c : Int)) = true := by simp; omega
              have d2 : decide (F ≤ c) = true := by simp; omega
              have d3 : decide ((c : Int) < (F : Int) + (K : Int)) = true := by simp; omega
              have d4 : decide (c < F + K) = true := by simp; omega
              clear hin hzb HZ HF
              rw [hb]
              clear hb
              go_wp2_with fail
              refine (mFrame wr m g 8 _ hM c).mono ?_
              rintro _ w4 ⟨rfl, hk4⟩
              have hM4 := hM.keep hk4 (by simp) (by simp)
              have hkp4 := hkp.trans hk4
              obtain ⟨w5, w6, hw5, ht5, hw6, ho6, hk6, hs6⟩ := put80 w4 (frameS 8 sF c)
              have hM6 := hM4.keep hk6 (by simp) (by simp)
              have hkp6 := hkp4.trans hk6
              obtain ⟨b, hb⟩ : ∃ b, b = w4.heap.size := ⟨_, rfl⟩
              have H5 := Lib.hid hw5
              have H6 := Lib.hid hw6
              have HB := Lib.hid hb
              have HT := Lib.hid ht5
              rw [← hb] at ho6 hs6
              have HS := Lib.hid hs6
              clear hw5 hw6 hb ht5 hM hM4 hk4 hk6 hkp hkp4 hs6
              go_wp2_with (rw [show w4.alloc (.cells #[.int .u64 0, .int .u64 0, .int .u64 0, .int .u64 0, .int .u64 0, .int .u64 0, .int .u64 0, .int .u64 0, .int .u64 0, .int .u64 0, .int .u64 0, .int .u64 0, .int .u64 0, .int .u64 0, .int .u64 0, .int .u64 0] 80) = w5 from H5.out.symm, ← HB.out]; refine wpList_store_mid rfl 80 (.tmp 13) (.tmp 78) rfl b 0 _ rfl rfl (HB.out ▸ HT.out) (by rw [size80]; simp [blk]) (one16 _) ?_; rw [show w5.setCells b 0 _ = w6 from (HB.out ▸ H6.out).symm])
              have hq : ∀ W, MemAt W m g 8 sF → Calls Try.prog 28 #[.pointer (some ⟨m, 0, none⟩), .int .i64 (c : Int)] W fun e w' => e = .returned (.bool true) ∧ w' = W := fun W hW =>
                (mZero W m g 8 sF hW c).mono fun e w' h => ⟨by rw [h.1, HZB.out], h.2.symm⟩
              have hqn : ∀ n, Calls Try.prog 28 #[.pointer (some ⟨m, 0, none⟩), .int .i64 (c : Int)] (w6.drewN n) fun e w' => e = .returned (.bool true) ∧ w' = w6.drewN n := fun n => hq _ (hM6.keep (S := []) ((Keep.refl _ _).drewN _) (by simp) (by simp))
              have HQ := Lib.hid hqn
              have HH := Lib.hid (And.intro hM6 hkp6)
              clear hq hqn hM6 hkp6 ho6
              generalize blk (vU (frameS 8 sF c)) 16 = X at *
              clear d1 d2 d3 d4
              go_quiet ((go_at_call 28; exact Calls.quiet_of_same (HQ.out _)))
              go_wp2
              go_roundw
              case rel => exact ⟨c + 1, by omega, by go_num, HH.out.1.keep (S := []) ((Keep.refl _ _).drewN _) (by simp) (by simp), HH.out.2.drewN _⟩
              case measure => simp [intOf]; omega
          · have e : c = 8 := by omega
            subst e
            have hz8 : zeroB 8 sF 8 = false := by unfold zeroB; rfl
            have hz1 : zeroB 8 sF (-1) = false := by unfold zeroB; rfl
            clear HZ HF
            by_cases hb : hasB 8 f k = true
            · rw [hb]
              clear hb
              go_wp2_with fail
              refine (mZero wr m g 8 sF hM 8).mono ?_
              rintro _ w4 ⟨rfl, rfl⟩
              rw [hz8]
              go_wp2_with fail
              refine (mZero wr m g 8 sF hM (-1)).mono ?_
              rintro _ w4 ⟨rfl, rfl⟩
              rw [hz1]
              clear hM
              go_wp2
              go_ret
              exact ⟨rfl, hkp⟩
            · have hb' : hasB 8 f k = false := Bool.eq_false_iff.2 hb
              rw [hb']
              clear hb hb'
              go_wp2_with fail
              refine (mZero wr m g 8 sF hM 8).mono ?_
              rintro _ w4 ⟨rfl, rfl⟩
              rw [hz8]
              go_wp2_with fail
              refine (mZero wr m g 8 sF hM (-1)).mono ?_
              rintro _ w4 ⟨rfl, rfl⟩
              rw [hz1]
              clear hM
              go_wp2
              go_ret
              exact ⟨rfl, hkp⟩
end Go.Proofs.Ytjiienoflgolpaa
