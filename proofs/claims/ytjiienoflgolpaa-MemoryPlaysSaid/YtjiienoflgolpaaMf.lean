import Derived.Test.YtjiienoflgolpaaMe
namespace Go.Proofs.Ytjiienoflgolpaa
open Go.RowKit
set_option linter.unusedSimpArgs false
set_option linter.unusedVariables false
attribute [local go_sem] ob_alloc ob_drew ob_drewN ob_setCell ob_setBlock objSet_cells obMap_map obClock_map isMapI_map keyI_mk findI_nil findI_cons lookRes_some lookRes_none lookRes_some' lookRes_none' setBlock_alloc mapPut

/-! ### Scrub -/
def scr (s : Nat → Int) (F i : Nat) : Nat → Int := fun j => if F * 16 ≤ j ∧ j < (F + i) * 16 then 0 else s j
theorem scr_step (s : Nat → Int) (F i j : Nat) : updB (scr s F i) ((F + i) * 16) 16 (fun _ => 0) j = scr s F (i + 1) j := by
  unfold updB scr
  by_cases h : (F + i) * 16 ≤ j ∧ j < (F + i) * 16 + 16
  · rw [if_pos h, if_pos (by omega)]
  · rw [if_neg h]
    by_cases h2 : F * 16 ≤ j ∧ j < (F + i) * 16
    · rw [if_pos h2, if_pos (by omega)]
    · rw [if_neg h2, if_neg (by omega)]
theorem scr_zero (s : Nat → Int) (F j : Nat) : s j = scr s F 0 j := by
  unfold scr; rw [if_neg (by omega)]
def scrubS (n : Nat) (s : Nat → Int) (f k : Int) : Nat → Int := if hasB n f k = true then scr s f.toNat k.toNat else s
theorem hasB_out2 {n : Nat} {f k : Int} (h : hasB n f k = true) : ∃ F K : Nat, f = F ∧ k = K ∧ 1 ≤ K ∧ F + K ≤ n := by
  have h : (1 : Int) ≤ k ∧ k ≤ (n : Int) ∧ 0 ≤ f ∧ f ≤ (n : Int) - k := by unfold hasB at h; exact of_decide_eq_true h
  exact ⟨f.toNat, k.toNat, by omega, by omega, by omega, by omega⟩
theorem MemAt.copied {w : World} {m g n : Nat} {s : Nat → Int} (h : MemAt w m g n s) (F i : Nat) (hF : F + i < n) (hs : ∀ j, s j = s j) (z : Nat) (hz : ob w z = some (.cells (blk (vU fun _ => 0) 16) 80 (0, 0))) :
    ∃ w', (∀ ty, (Builtin.copy_ #[31, 31] ty #[.slice (some ⟨g, (F + i) * 16, none⟩) 16 16, .slice (some ⟨z, 0, none⟩) 16 16]).run Try.prog w = .ok (goInt 16) w') ∧ MemAt w' m g n (updB s ((F + i) * 16) 16 (fun _ => 0)) ∧ Keep [g] w w' ∧ w'.heap.size = w.heap.size := by
  have hl : (blk (vU fun _ => 0) 16).toList.length = 16 := by simp [blk]
  have hr := fun ty => run_copy_row (P := Try.prog) w 31 31 ty 44 g ((F + i) * 16) 16 16 ⟨z, 0, none⟩ 16 16 (blk (vU s) (n * 16)) 80 (blk (vU fun _ => 0) 16).toList Try.underlying31 (by kernel_rfl) h.2.1 (by rw [hl]; rfl)
    (fun j v hv => by rw [add_mk, cell_of_ob hz, Nat.zero_add]; simpa using hv) (by rw [hl, blk_size]; omega) (by
      intro v hv
      simp [blk] at hv
      obtain ⟨i, _, rfl⟩ := hv
      rfl)
  rw [hl] at hr
  refine ⟨_, hr, ⟨?_, ?_, h.2.2⟩, ⟨rfl, rfl, rfl, by simp [World.setRow], fun k hk hn => ob_setRow w g _ k (by simpa using hn)⟩, by simp [World.setRow]⟩
  · rw [ob_setRow w g _ m h.2.2.1.symm]; exact h.1
  · rw [show ob (w.setRow g _) g = _ from setRow_heap w g _ _ 80 (0, 0) h.2.1]
    have e := blk_splice (vU s) (n * 16) ((F + i) * 16) (blk (vU fun _ => 0) 16).toList (by rw [hl]; omega)
    rw [hl, ← List.append_assoc] at e
    rw [e, updR_vU]
set_option maxRecDepth 100000 in
set_option maxRecDepth 100000 in
set_option maxHeartbeats 800000 in
theorem mScrub (w : World) (m g n : Nat) (s : Nat → Int) (hM : MemAt w m g n s) (f k : Int) :
    Calls Try.prog 27 #[.pointer (some ⟨m, 0, none⟩), .int .i64 f, .int .i64 k] w fun o w' => o = .returned (.int .i64 (eR (hasB n f k))) ∧ MemAt w' m g n (scrubS n s f k) ∧ Keep [g] w w' := by
  unfold scrubS
  have hk0 := Keep.refl [g] w
  cases ho : hasB n f k with
  | false =>
    simp only [Bool.false_eq_true, if_false, eR]
    go_enter Try.func27, Try.ntmps27
    go_wp2_with fail
    refine (mHas _ m g n s hM f k).mono ?_
    rintro _ w1 ⟨rfl, rfl⟩
    rw [ho]
    have H2 := Lib.hid hM
    clear ho hM
    go_wp2
    go_ret
    exact ⟨rfl, H2.out, hk0⟩
  | true =>
    obtain ⟨F, K, rfl, rfl, hK1, hFK⟩ := hasB_out2 ho
    have hn := hM.2.2.2.2
    simp only [if_true, eR, Int.toNat_natCast]
    go_enter Try.func27, Try.ntmps27
    go_wp2_with fail
    refine (mHas _ m g n s hM F K).mono ?_
    rintro _ w1 ⟨rfl, rfl⟩
    rw [ho]
    clear ho
    go_wp2
    obtain ⟨w0, hw0, hZ, hM0, hk1⟩ : ∃ w0, w0 = w.alloc (.cells #[.int .u64 0, .int .u64 0, .int .u64 0, .int .u64 0, .int .u64 0, .int .u64 0, .int .u64 0, .int .u64 0, .int .u64 0, .int .u64 0, .int .u64 0, .int .u64 0, .int .u64 0, .int .u64 0, .int .u64 0, .int .u64 0] 80) ∧ ob w0 w.heap.size = some (.cells (blk (vU fun _ => 0) 16) 80 (0, 0)) ∧ MemAt w0 m g n (scr s F 0) ∧ Keep [g] w w0 :=
      ⟨_, rfl, al_new _ _ rfl, (hM.keep (S := []) ((Keep.refl _ _).alloc _) (by simp) (by simp)).congr (fun i _ => scr_zero s F i), hk0.alloc _⟩
    rw [← hw0]
    have lm := ob_lt hM.1
    have lg := ob_lt hM.2.1
    obtain ⟨z, hz⟩ : ∃ z, z = w.heap.size := ⟨_, rfl⟩
    have nzm : m ≠ z := by omega
    have nzg : g ≠ z := by omega
    rw [← hz] at hZ ⊢
    clear hw0 hz hM lm lg hk0
    go_loopw [15] (fun i wr => ∃ c : Nat, c ≤ K ∧ i = .int .i64 c ∧ ob wr z = some (.cells (blk (vU fun _ => 0) 16) 80 (0, 0)) ∧ MemAt wr m g n (scr s F c) ∧ Keep [g] w wr) (fun i _ => K - (intOf i).toNat)
    case atStart => exact ⟨0, by omega, rfl, hZ, hM0, hk1⟩
    case round =>
      clear hZ hM0 hk1
      obtain ⟨c, hc, rfl, hZ, hM, hkp⟩ := hrel
      by_cases hlt : c < K
      · have hMd : MemAt wr.drew m g n (scr s F c) := hM.keep (S := []) (Keep.refl _ _).drew (by simp) (by simp)
        obtain ⟨w2, hcp, hM2, hk2, hs2⟩ := hMd.copied F c (by omega) (fun _ => rfl) z (dr hZ)
        have hZ2 := hk2.kp (dr hZ) (by simp; omega)
        have HH := Lib.hid (And.intro hZ2 (And.intro (hM2.congr (fun i _ => scr_step s F c i)) (hkp.drew.trans hk2)))
        have c0 : wr.cell? ⟨m, 0, none⟩ = some (.slice (some ⟨g, 0, none⟩) n n) := hM.cp 0
        have c1 : wr.drew.cell? ⟨m, 0, none⟩ = some (.slice (some ⟨g, 0, none⟩) n n) := hMd.cp 0
        have e1 : IntKind.i64.wrap ((F : Int) + (c : Int)) = (F : Int) + (c : Int) := IntWalk.i64_in _ (by omega)
        have e2 : ((F : Int) + (c : Int)).toNat = F + c := by omega
        have e3 : (0 : Int) ≤ (F : Int) + (c : Int) := by omega
        have e4 : (F : Int) + (c : Int) < (n : Int) := by omega
        clear hM hMd hM2 hk2 hs2 hZ hZ2 hkp
        go_wp2
        go_region
        all_goals go_wp2
        all_goals go_roundw
        case rel => exact ⟨c + 1, by omega, by go_num, HH.out.1, HH.out.2.1, HH.out.2.2⟩
        case measure => simp [intOf]; omega
      · have e : c = K := by omega
        subst e
        have HH := Lib.hid (And.intro hM hkp)
        clear hM hkp hZ
        go_wp2
        go_ret
        exact ⟨rfl, HH.out.1, HH.out.2⟩
end Go.Proofs.Ytjiienoflgolpaa
