import Derived.Test.YtjiienoflgolpaaMg
namespace Go.Proofs.Ytjiienoflgolpaa
open Go.RowKit
set_option linter.unusedSimpArgs false
set_option linter.unusedVariables false
attribute [local go_sem] ob_alloc ob_drew ob_drewN ob_setCell ob_setBlock objSet_cells obMap_map obClock_map isMapI_map keyI_mk findI_nil findI_cons lookRes_some lookRes_none lookRes_some' lookRes_none' setBlock_alloc mapPut

/-! ### the reference's Scrub, and the law's fill -/
def scrT (s : Nat → Int) (a b : Nat) : Nat → Int := fun j => if a ≤ j ∧ j < b then 0 else s j
theorem scrT_step (s : Nat → Int) (a b : Nat) (h : a ≤ b) (j : Nat) : updW (scrT s a b) b 0 j = scrT s a (b + 1) j := by
  unfold updW scrT
  by_cases e : j = b
  · rw [if_pos e, if_pos (by omega)]
  · rw [if_neg e]
    by_cases h2 : a ≤ j ∧ j < b
    · rw [if_pos h2, if_pos (by omega)]
    · rw [if_neg h2, if_neg (by omega)]
theorem hasB_no {n : Nat} {f k : Int} (hn : n ≤ 256) (h : hasB n f k = false) : k < 1 ∨ (1 ≤ k ∧ 256 < k) ∨ (1 ≤ k ∧ k ≤ 256 ∧ hasB n f 1 = false) ∨ (1 ≤ k ∧ k ≤ 256 ∧ hasB n f 1 = true ∧ hasB n (f + k - 1) 1 = false) := by
  unfold hasB at *
  simp at *
  omega
set_option maxRecDepth 100000 in
set_option maxHeartbeats 800000 in
theorem rmScrub (w : World) (m g n : Nat) (s : Nat → Int) (hM : RMemAt w m g n s) (f k : Int) :
    Calls Try.prog 42 #[.pointer (some ⟨m, 0, none⟩), .int .i64 f, .int .i64 k] w fun o w' => o = .returned (.int .i64 (eR (hasB n f k))) ∧ RMemAt w' m g n (scrubS n s f k) ∧ Keep [g] w w' := by
  unfold scrubS
  have hn := hM.2.2.2.2
  have hk0 := Keep.refl [g] w
  cases ho : hasB n f k with
  | false =>
    simp only [Bool.false_eq_true, if_false, eR]
    have H2 := Lib.hid hM
    rcases hasB_no hn ho with h | h | ⟨h1, h2, h3⟩ | ⟨h1, h2, h3, h4⟩
    · clear ho hM
      go_enter Try.func42, Try.ntmps42
      go_wp2
      go_ret
      exact ⟨rfl, H2.out, hk0⟩
    · obtain ⟨h1, h2⟩ := h
      clear ho hM
      go_enter Try.func42, Try.ntmps42
      go_wp2
      go_ret
      exact ⟨rfl, H2.out, hk0⟩
    · clear ho
      go_enter Try.func42, Try.ntmps42
      go_wp2_with fail
      refine (rmHas w m g n s hM f).mono ?_
      rintro _ w1 ⟨rfl, rfl⟩
      rw [h3]
      clear hM h3
      go_wp2
      go_ret
      exact ⟨rfl, H2.out, hk0⟩
    · obtain ⟨F, rfl, hF⟩ := hasB_out h3
      clear ho
      go_enter Try.func42, Try.ntmps42
      go_wp2_with fail
      refine (rmHas w m g n s hM F).mono ?_
      rintro _ w1 ⟨rfl, rfl⟩
      rw [h3]
      go_wp2_with fail
      refine (rmHas w m g n s hM (F + k - 1)).mono ?_
      rintro _ w1 ⟨rfl, rfl⟩
      rw [h4]
      clear hM h3 h4
      go_wp2
      go_ret
      exact ⟨rfl, H2.out, hk0⟩
  | true =>
    obtain ⟨F, K, rfl, rfl, hK1, hFK⟩ := hasB_out2 ho
    have h3 : hasB n (F : Int) 1 = true := by unfold hasB; simp; omega
    have h4 : hasB n ((F : Int) + (K : Int) - 1) 1 = true := by unfold hasB; simp; omega
    have hK2 : K ≤ 256 := by omega
    simp only [if_true, eR, Int.toNat_natCast]
    clear ho
    go_enter Try.func42, Try.ntmps42
    go_wp2_with fail
    refine (rmHas w m g n s hM F).mono ?_
    rintro _ w1 ⟨rfl, rfl⟩
    rw [h3]
    go_wp2_with fail
    refine (rmHas w m g n s hM (F + K - 1)).mono ?_
    rintro _ w1 ⟨rfl, rfl⟩
    rw [h4]
    clear h3 h4
    go_wp2
    go_loopw [7] (fun i wr => ∃ c : Nat, F * 16 ≤ c ∧ c ≤ (F + K) * 16 ∧ i = .int .i64 c ∧ RMemAt wr m g n (scrT s (F * 16) c) ∧ Keep [g] w wr) (fun i _ => (F + K) * 16 - (intOf i).toNat)
    case atStart => exact ⟨F * 16, by omega, by omega, by congr 1; omega, hM.congr (fun i _ => by unfold scrT; rw [if_neg (by omega)]), hk0⟩
    case round =>
      clear hM hk0
      obtain ⟨c, hc1, hc2, rfl, hM, hkp⟩ := hrel
      have c0 := hM.cp
      by_cases hlt : c < (F + K) * 16
      · obtain ⟨x0, c1⟩ : ∃ x, wr.cell? ⟨g, c, none⟩ = some x := ⟨_, hM.cell c (by omega)⟩
        have fr := free_of_ob hM.2.1
        have HH := Lib.hid (And.intro ((hM.store c 0).congr (fun i _ => scrT_step s (F * 16) c hc1 i)) (hkp.setCell (.inl (by simp)) (b := g) c (.int .u64 0)))
        clear hM hkp
        go_wp2
        go_roundw
        case rel => exact ⟨c + 1, by omega, by omega, by go_num, HH.out.1, HH.out.2⟩
        case measure => simp [intOf]; omega
      · have e : c = (F + K) * 16 := by omega
        have HH := Lib.hid (And.intro (hM.congr (t := scr s F K) (fun i _ => by unfold scrT scr; rw [e])) hkp)
        clear hM hkp e
        go_wp2
        go_ret
        exact ⟨rfl, HH.out.1, HH.out.2⟩
/-- some of a frame's words -/
def updP (s : Nat → Int) (o c : Nat) (t : Nat → Int) : Nat → Int := fun j => if o ≤ j ∧ j < o + c then t (j - o) else s j
set_option maxRecDepth 100000 in
set_option maxRecDepth 100000 in
set_option maxHeartbeats 800000 in
theorem rmFill (w : World) (m g n : Nat) (s : Nat → Int) (hM : RMemAt w m g n s) (f x : Int) :
    Calls Try.prog 45 #[.pointer (some ⟨m, 0, none⟩), .int .i64 f, .int .u64 x] w fun o w' => o = .returned (.int .i64 (eR (hasB n f 1))) ∧ RMemAt w' m g n (fillS n s f (secF x)) ∧ Keep [g] w w' := by
  unfold fillS
  have hn := hM.2.2.2.2
  have hk0 := Keep.refl [g] w
  cases ho : hasB n f 1 with
  | false =>
    simp only [Bool.false_eq_true, if_false, eR]
    have H2 := Lib.hid hM
    go_enter Try.func45, Try.ntmps45
    go_wp2_with fail
    refine (rmHas w m g n s hM f).mono ?_
    rintro _ w1 ⟨rfl, rfl⟩
    rw [ho]
    clear hM ho
    go_wp2
    go_ret
    exact ⟨rfl, H2.out, hk0⟩
  | true =>
    obtain ⟨F, rfl, hF⟩ := hasB_out ho
    simp only [if_true, eR, Int.toNat_natCast]
    go_enter Try.func45, Try.ntmps45
    go_wp2_with fail
    refine (rmHas w m g n s hM F).mono ?_
    rintro _ w1 ⟨rfl, rfl⟩
    rw [ho]
    clear ho
    go_wp2_with fail
    refine (mSecond w x).mono ?_
    rintro _ w1 ⟨rfl, hk1⟩
    have hM1 := hM.keep hk1 (by simp) (by simp)
    have hk2 : Keep [g] w w1 := hk1.mono (by simp)
    clear hM hk0 hk1
    obtain ⟨b, hb⟩ : ∃ b, b = w1.heap.size := ⟨_, rfl⟩
    obtain ⟨w2, hw2, hZ, hM2, hk3⟩ : ∃ w2, w2 = w1.alloc (.cells #[.int .u64 0, .int .u64 0, .int .u64 0, .int .u64 0, .int .u64 0, .int .u64 0, .int .u64 0, .int .u64 0, .int .u64 0, .int .u64 0, .int .u64 0, .int .u64 0, .int .u64 0, .int .u64 0, .int .u64 0, .int .u64 0] 80) ∧ ob w2 b = some (.cells (blk (vU fun _ => 0) 16) 80 (0, 0)) ∧ RMemAt w2 m g n s ∧ Keep [g] w w2 :=
      ⟨_, rfl, al_new _ _ hb, hM1.keep (S := []) ((Keep.refl _ _).alloc _) (by simp) (by simp), hk2.alloc _⟩
    have lm := ob_lt hM1.1
    have lg := ob_lt hM1.2.1
    have nbm : b ≠ m := by omega
    have nbg : b ≠ g := by omega
    have hZ3 := store_all b w2 _ (secF x) hZ
    have hk4 : Keep [b] w2 (w2.setCells b 0 (blk (vU (secF x)) 16).toList) := (Keep.refl _ _).setCells (.inl (by simp)) _ _
    have hM3 := hM2.keep hk4 (by simp; omega) (by simp; omega)
    have hws := hk2.size
    have hk5 : Keep [g] w (w2.setCells b 0 (blk (vU (secF x)) 16).toList) := hk3.setCells (.inr (by omega)) _ _
    have HW := Lib.hid hw2
    have HB := Lib.hid hb
    have H3 := Lib.hid (And.intro hZ3 (And.intro hM3 hk5))
    have HZ := Lib.hid hZ
    clear hZ3 hM3 hk5 hk4 hk3 hM2 hZ hw2 hb hk2 hM1 lm lg
    go_wp2_with (first
      | (rw [show w1.alloc (.cells #[.int .u64 0, .int .u64 0, .int .u64 0, .int .u64 0, .int .u64 0, .int .u64 0, .int .u64 0, .int .u64 0, .int .u64 0, .int .u64 0, .int .u64 0, .int .u64 0, .int .u64 0, .int .u64 0, .int .u64 0, .int .u64 0] 80) = w2 from HW.out.symm, ← HB.out]; refine wpList_store_mid rfl 80 (.tmp 7) (.tmp 14) rfl b 0 (blk (vU (secF x)) 16) rfl rfl (blk_there HZ.out (by simp [blk])) (by rw [size80]; simp [blk]) (one16 _) ?_))
    generalize w2.setCells b 0 (blk (vU (secF x)) 16).toList = w3 at *
    obtain ⟨hL, hM, hk⟩ := H3.out
    go_loopw [8] (fun i wr => ∃ c : Nat, c ≤ 16 ∧ i = .int .i64 c ∧ ob wr b = some (.cells (blk (vU (secF x)) 16) 80 (0, 0)) ∧ RMemAt wr m g n (updP s (F * 16) c (secF x)) ∧ Keep [g] w wr) (fun i _ => 16 - (intOf i).toNat)
    case atStart => exact ⟨0, by omega, rfl, hL, hM.congr (fun i _ => by unfold updP; rw [if_neg (by omega)]), hk⟩
    case round =>
      clear hL hM hk H3
      obtain ⟨c, hc, rfl, hL, hM, hkp⟩ := hrel
      by_cases hlt : c < 16
      · have hLd : ob wr.drew b = _ := hL
        have hMd : RMemAt wr.drew m g n _ := hM.keep (S := []) (Keep.refl _ _).drew (by simp) (by simp)
        have c0 := hMd.cp
        have c1 : wr.drew.cell? ⟨b, c, none⟩ = some (.int .u64 (secF x c)) := blk_cell hLd hlt
        obtain ⟨x0, c2⟩ : ∃ x, wr.drew.cell? ⟨g, 16 * F + c, none⟩ = some x := ⟨_, hMd.cell (16 * F + c) (by omega)⟩
        have fr := free_of_ob hMd.2.1
        have hM4 := (hMd.store (16 * F + c) (secF x c)).congr (t := updP s (F * 16) (c + 1) (secF x)) (fun i _ => by
          unfold updW updP
          by_cases e : i = 16 * F + c
          · rw [if_pos e, if_pos (by omega), show i - F * 16 = c by omega]
          · rw [if_neg e]
            by_cases e2 : F * 16 ≤ i ∧ i < F * 16 + c
            · rw [if_pos e2, if_pos (by omega)]
            · rw [if_neg e2, if_neg (by omega)])
        have hL4 : ob (wr.drew.setCell ⟨g, 16 * F + c, none⟩ (.int .u64 (secF x c))) b = some (.cells (blk (vU (secF x)) 16) 80 (0, 0)) := st hLd nbg
        have HH := Lib.hid (And.intro hL4 (And.intro hM4 (hkp.drew.setCell (.inl (by simp)) (b := g) (16 * F + c) (.int .u64 (secF x c)))))
        have d0 := hM4.cp
        have d1 : (wr.drew.setCell ⟨g, 16 * F + c, none⟩ (.int .u64 (secF x c))).cell? ⟨b, c, none⟩ = some (.int .u64 (secF x c)) := blk_cell hL4 hlt
        have e1 : IntKind.i64.wrap (16 * (F : Int)) = 16 * (F : Int) := IntWalk.i64_in _ (by omega)
        have e2 : IntKind.i64.wrap (16 * (F : Int) + (c : Int)) = 16 * (F : Int) + (c : Int) := IntWalk.i64_in _ (by omega)
        have e3 : (16 * (F : Int) + (c : Int)).toNat = 16 * F + c := by omega
        have e4 : (0 : Int) ≤ 16 * (F : Int) + (c : Int) := by omega
        have e5 : 16 * (F : Int) + (c : Int) < ((n * 16 : Nat) : Int) := by omega
        have e8 : 16 * (F : Int) + (c : Int) < (n : Int) * 16 := by omega
        have e6 : (0 : Int) ≤ (c : Int) := by omega
        have e7 : (c : Int) < 16 := by omega
        clear hM hMd hL hLd hL4 hM4 hkp HW HB HZ
        go_wp2
        go_region_held3 (fun w' => w'.cell? ⟨m, 0, none⟩ = some (.slice (some ⟨g, 0, none⟩) (n * 16) (n * 16)) ∧ w'.cell? ⟨b, c, none⟩ = some (.int .u64 (secF x c))) (first | exact ⟨c0, c1⟩ | exact ⟨d0, d1⟩ | go_keep) (fail)
        all_goals go_wp2
        all_goals go_roundw
        case rel => exact ⟨c + 1, by omega, by go_num, HH.out.1, HH.out.2.1, HH.out.2.2⟩
        case measure => simp [intOf]; omega
      · have e : c = 16 := by omega
        subst e
        have HH := Lib.hid (And.intro (hM.congr (t := updB s (F * 16) 16 (secF x)) (fun i _ => rfl)) hkp)
        clear hM hkp hL
        go_wp2
        go_ret
        exact ⟨rfl, HH.out.1, HH.out.2⟩
end Go.Proofs.Ytjiienoflgolpaa
