import Derived.Test.YtehmjjfgefopdaaLibW
import Derived.Test.YtehmjjfgefopdaaRows
namespace Go.Proofs.Ytehmjjfgefopdaa
open Go.RowKit
set_option linter.unusedSimpArgs false
set_option linter.unusedVariables false
attribute [local go_sem] ob_alloc ob_drew ob_drewN ob_setCell ob_setBlock objSet_cells obMap_map obClock_map isMapI_map keyI_mk findI_nil findI_cons lookRes_some lookRes_none lookRes_some' lookRes_none' setBlock_alloc mapPut

def MemAt (w : World) (m g n : Nat) (s : Nat → Int) : Prop :=
  ob w m = some (.cells #[.slice (some ⟨g, 0, none⟩) n n] 51 (0, 0)) ∧ ob w g = some (.cells (blk (vU s) (n * 16)) 107 (0, 0)) ∧ g ≠ m ∧ 1 ≤ n ∧ n ≤ 256
theorem MemAt.keep {w w' : World} {m g n : Nat} {s : Nat → Int} {S : List Nat} (h : MemAt w m g n s) (hk : Keep S w w') (hm : m ∉ S) (hg : g ∉ S) : MemAt w' m g n s :=
  ⟨hk.kp h.1 hm, hk.kp h.2.1 hg, h.2.2⟩
theorem MemAt.store {w : World} {m g n : Nat} {s : Nat → Int} (h : MemAt w m g n s) (i : Nat) (x : Int) : MemAt (w.setCell ⟨g, i, none⟩ (.int .u64 x)) m g n (updW s i x) :=
  ⟨st h.1 h.2.2.1.symm, by rw [← vU_upd]; exact blk_store h.2.1 i _, h.2.2⟩
theorem MemAt.cell {w : World} {m g n : Nat} {s : Nat → Int} (h : MemAt w m g n s) (i : Nat) (hi : i < n * 16) : w.cell? ⟨g, i, none⟩ = some (.int .u64 (s i)) := blk_cell h.2.1 hi
theorem MemAt.congr {w : World} {m g n : Nat} {s t : Nat → Int} (h : MemAt w m g n s) (e : ∀ i, i < n * 16 → s i = t i) : MemAt w m g n t :=
  ⟨h.1, by rw [← blk_congr (f := vU s) (fun i hi => by unfold vU; rw [e i hi])]; exact h.2.1, h.2.2⟩
theorem info83 : (Try.prog.info? 83).map (fun i => (i.zero, i.size, i.bytes)) = some (some (.int .u64 0), 1, 8) := by kernel_rfl
theorem info107 : (Try.prog.info? 107).map (fun i => (i.zero, i.size, i.bytes)) = some (some (.agg (Array.replicate 16 (.int .u64 0))), 16, 128) := by kernel_rfl
theorem make49 (n : Nat) (hn : n ≤ 256) (w : World) : (Instr.makeSlice 49 (.int .i64 (n : Int)) (.int .i64 (n : Int))).run Try.prog w = .ok (.slice (some ⟨w.heap.size, 0, none⟩) n n) (w.alloc (.cells (blk (vU fun _ => 0) (n * 16)) 107)) := by
  obtain ⟨i, hi, hz⟩ := Option.map_eq_some_iff.1 info107
  simp only [Prod.mk.injEq] at hz
  obtain ⟨h1, h2, h3⟩ := hz
  have hr := run_make (P := Try.prog) (w := w) 49 107 i _ Try.underlying49 hi h1 .i64 .i64 n n (by omega) (by omega) (by rw [h3]; omega) (by omega)
  simp only [Int.toNat_natCast, h2] at hr
  have e : madeCells (Value.agg (Array.replicate 16 (.int .u64 0))).cells (n * 16) = blk (vU fun _ => 0) (n * 16) := madeCells_same _ 16 _ (by omega)
  rw [hr, e]
theorem ret_p {g x y : Nat} (h : x = y) : Ending.returned (.pointer (some ⟨g, x, none⟩)) = Ending.returned (.pointer (some ⟨g, y, none⟩)) := by rw [h]
set_option maxRecDepth 100000 in
set_option maxHeartbeats 400000 in
theorem mNew_ok (n : Nat) (h1 : 1 ≤ n) (h2 : n ≤ 256) (w : World) : Calls Try.prog 5 #[.int .i64 n] w fun o w' => o = .returned (.tuple #[.pointer (some ⟨w.heap.size + 1, 0, none⟩), .int .i64 0]) ∧ MemAt w' (w.heap.size + 1) w.heap.size n (fun _ => 0) ∧ Keep [] w w' ∧ w'.heap.size = w.heap.size + 2 := by
  have hmk := make49 n h2
  go_enter Try.func5, Try.ntmps5
  go_wp2
  go_ret2
  refine ⟨rfl, ⟨?_, ?_, by omega, h1, h2⟩, by repeat (first | exact Keep.refl _ _ | refine Keep.drew ?_ | refine Keep.drewN ?_ _ | refine Keep.setCell ?_ (by first | (left; simp; done) | (right; simp; done) | (right; omega) | (right; simp; omega)) _ _ | refine Keep.setBlock ?_ (by first | (left; simp; done) | (right; simp; done) | (right; omega) | (right; simp; omega)) _ | refine Keep.alloc ?_ _ | refine Keep.andThen ?_ (by assumption) (by first | (simp; done) | (simp; omega) | (intro x hx; simp at hx; simp; omega))), by simp⟩
  · simp [ob_alloc, ob_drew, ob_setCell, ob_setBlock, objSet_cells, Nat.add_assoc]
  · simp [ob_alloc, ob_drew, ob_setCell, ob_setBlock, objSet_cells, Nat.add_assoc]
def okA (n : Nat) (a : Int) : Bool := decide (0 ≤ a ∧ a < n * 16)
theorem okA_out {n : Nat} {a : Int} (h : okA n a = true) : ∃ k : Nat, a = k ∧ k < n * 16 := by
  have h : 0 ≤ a ∧ a < n * 16 := by simpa [okA] using h
  exact ⟨a.toNat, by omega, by omega⟩
set_option maxRecDepth 100000 in
set_option maxHeartbeats 400000 in
theorem mAt_yes (w : World) (m g n : Nat) (s : Nat → Int) (hM : MemAt w m g n s) (a : Nat) (ha : a < n * 16) :
    Calls Try.prog 52 #[.pointer (some ⟨m, 0, none⟩), .int .i64 a] w fun o w' => o = .returned (.pointer (some ⟨g, a, none⟩)) ∧ w = w' := by
  have c0 := cell_of_ob hM.1
  have hn1 := hM.2.2.2.1
  have hn2 := hM.2.2.2.2
  clear hM
  go_enter Try.func52, Try.ntmps52
  go_wp2
  go_ret
  exact ⟨ret_p (show a / 16 * 16 + a % 16 = a by omega), rfl⟩
set_option maxRecDepth 100000 in
set_option maxHeartbeats 400000 in
theorem mAt_no (w : World) (m g n : Nat) (s : Nat → Int) (hM : MemAt w m g n s) (a : Int) (ha : okA n a = false) :
    Calls Try.prog 52 #[.pointer (some ⟨m, 0, none⟩), .int .i64 a] w fun o w' => o = .returned (.pointer none) ∧ w = w' := by
  have c0 := cell_of_ob hM.1
  have hn1 := hM.2.2.2.1
  have hn2 := hM.2.2.2.2
  have h : ¬ (0 ≤ a ∧ a < n * 16) := by simpa [okA] using ha
  clear hM
  rcases (show a < 0 ∨ (¬ a < 0 ∧ (n : Int) * 16 ≤ a) by omega) with h1 | h1
  all_goals
    clear ha h
    go_enter Try.func52, Try.ntmps52
    go_wp2
    go_ret
    exact ⟨rfl, rfl⟩
def hasB (n : Nat) (f k : Int) : Bool := decide (1 ≤ k ∧ k ≤ n ∧ 0 ≤ f ∧ f ≤ n - k)
set_option maxRecDepth 100000 in
set_option maxHeartbeats 400000 in
theorem mHas (w : World) (m g n : Nat) (s : Nat → Int) (hM : MemAt w m g n s) (f k : Int) :
    Calls Try.prog 53 #[.pointer (some ⟨m, 0, none⟩), .int .i64 f, .int .i64 k] w fun o w' => o = .returned (.bool (hasB n f k)) ∧ w = w' := by
  have c0 := cell_of_ob hM.1
  have hn1 := hM.2.2.2.1
  have hn2 := hM.2.2.2.2
  clear hM
  by_cases h1 : 1 ≤ k
  · by_cases h2 : k ≤ n
    · by_cases h3 : 0 ≤ f
      · by_cases h4 : f ≤ n - k
        · have e : hasB n f k = true := by unfold hasB; simp; omega
          rw [e]
          clear e
          go_enter Try.func53, Try.ntmps53
          go_wp2
          go_ret
          exact ⟨rfl, rfl⟩
        · have e : hasB n f k = false := by unfold hasB; simp; omega
          rw [e]
          have h4' : ¬ (f ≤ (n : Int) - k) := h4
          clear e
          go_enter Try.func53, Try.ntmps53
          go_wp2
          go_ret
          exact ⟨rfl, rfl⟩
      · have e : hasB n f k = false := by unfold hasB; simp; omega
        rw [e]
        clear e
        go_enter Try.func53, Try.ntmps53
        go_wp2
        go_ret
        exact ⟨rfl, rfl⟩
    · have e : hasB n f k = false := by unfold hasB; simp; omega
      rw [e]
      clear e
      go_enter Try.func53, Try.ntmps53
      go_wp2
      go_ret
      exact ⟨rfl, rfl⟩
  · have e : hasB n f k = false := by unfold hasB; simp; omega
    rw [e]
    clear e
    go_enter Try.func53, Try.ntmps53
    go_wp2
    go_ret
    exact ⟨rfl, rfl⟩

theorem MemAt.cp {w : World} {m g n : Nat} {s : Nat → Int} (h : MemAt w m g n s) : ∀ i, w.cell? ⟨m, i, none⟩ = #[Value.slice (some ⟨g, 0, none⟩) n n][i]? := cell_of_ob h.1
def readR (n : Nat) (s : Nat → Int) (a : Int) : Int := if okA n a then s a.toNat else 0
def eR (b : Bool) : Int := if b then 0 else 1
def writeS (n : Nat) (s : Nat → Int) (a x : Int) : Nat → Int := if okA n a then updW s a.toNat x else s
set_option maxRecDepth 100000 in
set_option maxHeartbeats 400000 in
theorem mRead (w : World) (m g n : Nat) (s : Nat → Int) (hM : MemAt w m g n s) (a : Int) :
    Calls Try.prog 41 #[.pointer (some ⟨m, 0, none⟩), .int .i64 a] w fun o w' => o = .returned (.tuple #[.int .u64 (readR n s a), .int .i64 (eR (okA n a))]) ∧ w = w' := by
  unfold readR
  cases ho : okA n a with
  | false =>
    simp only [Bool.false_eq_true, if_false, eR]
    go_enter Try.func41, Try.ntmps41
    go_wp2_with fail
    refine (mAt_no w m g n s hM a ho).mono ?_
    rintro _ w1 ⟨rfl, rfl⟩
    clear hM ho
    go_wp2
    go_ret2
    exact ⟨rfl, rfl⟩
  | true =>
    obtain ⟨k, rfl, hk⟩ := okA_out ho
    have c0 := hM.cell k hk
    simp only [if_true, eR, Int.toNat_natCast]
    go_enter Try.func41, Try.ntmps41
    go_wp2_with fail
    refine (mAt_yes w m g n s hM k hk).mono ?_
    rintro _ w1 ⟨rfl, rfl⟩
    clear hM ho
    go_wp2
    go_ret2
    exact ⟨rfl, rfl⟩
set_option maxRecDepth 100000 in
set_option maxHeartbeats 400000 in
theorem mWrite (w : World) (m g n : Nat) (s : Nat → Int) (hM : MemAt w m g n s) (a x : Int) :
    Calls Try.prog 37 #[.pointer (some ⟨m, 0, none⟩), .int .i64 a, .int .u64 x] w fun o w' => o = .returned (.int .i64 (eR (okA n a))) ∧ MemAt w' m g n (writeS n s a x) ∧ Keep [g] w w' := by
  unfold writeS
  have hk0 := Keep.refl [g] w
  cases ho : okA n a with
  | false =>
    simp only [Bool.false_eq_true, if_false, eR]
    go_enter Try.func37, Try.ntmps37
    go_wp2_with fail
    refine (mAt_no w m g n s hM a ho).mono ?_
    rintro _ w1 ⟨rfl, rfl⟩
    have H := Lib.hid hM
    clear hM ho
    go_wp2
    go_ret
    exact ⟨rfl, H.out, hk0⟩
  | true =>
    obtain ⟨k, rfl, hk⟩ := okA_out ho
    obtain ⟨x0, c0⟩ : ∃ x, w.cell? ⟨g, k, none⟩ = some x := ⟨_, hM.cell k hk⟩
    have fr := free_of_ob hM.2.1
    simp only [if_true, eR, Int.toNat_natCast]
    go_enter Try.func37, Try.ntmps37
    go_wp2_with fail
    refine (mAt_yes w m g n s hM k hk).mono ?_
    rintro _ w1 ⟨rfl, rfl⟩
    have H := Lib.hid (hM.store k x)
    have K := Lib.hid (hk0.setCell (.inl (by simp)) (b := g) k (.int .u64 x))
    clear hM ho hk0
    go_wp2
    go_ret
    exact ⟨rfl, H.out, K.out⟩
set_option maxRecDepth 100000 in
set_option maxHeartbeats 400000 in
theorem mFrames (w : World) (m g n : Nat) (s : Nat → Int) (hM : MemAt w m g n s) :
    Calls Try.prog 16 #[.pointer (some ⟨m, 0, none⟩)] w fun o w' => o = .returned (.int .i64 n) ∧ w = w' := by
  have c0 := hM.cp
  clear hM
  go_enter Try.func16, Try.ntmps16
  go_wp2
  go_ret
  exact ⟨rfl, rfl⟩



/-! ### Scrub -/
def scr (s : Nat → Int) (F i : Nat) : Nat → Int := fun j => if F * 16 ≤ j ∧ j < (F + i) * 16 then 0 else s j
theorem scr_step (s : Nat → Int) (F i j : Nat) : updB (scr s F i) ((F + i) * 16) 16 (fun _ => 0) j = scr s F (i + 1) j := by
  unfold updB scr
  by_cases h : (F + i) * 16 ≤ j ∧ j < (F + i) * 16 + 16
  · rw [if_pos h, if_pos (by omega)]
  · rw [if_neg h]
    by_cases h2 : F * 16 ≤ j ∧ j < (F + i) * 16
    · rw [if_pos h2, if_pos (by omega)]
    · rw [if_neg h2, if_neg (by omega)]
theorem scr_zero (s : Nat → Int) (F j : Nat) : s j = scr s F 0 j := by
  unfold scr; rw [if_neg (by omega)]
def scrubS (n : Nat) (s : Nat → Int) (f k : Int) : Nat → Int := if hasB n f k = true then scr s f.toNat k.toNat else s
theorem hasB_out2 {n : Nat} {f k : Int} (h : hasB n f k = true) : ∃ F K : Nat, f = F ∧ k = K ∧ 1 ≤ K ∧ F + K ≤ n := by
  have h : (1 : Int) ≤ k ∧ k ≤ (n : Int) ∧ 0 ≤ f ∧ f ≤ (n : Int) - k := by unfold hasB at h; exact of_decide_eq_true h
  exact ⟨f.toNat, k.toNat, by omega, by omega, by omega, by omega⟩
theorem MemAt.copied {w : World} {m g n : Nat} {s : Nat → Int} (h : MemAt w m g n s) (F i : Nat) (hF : F + i < n) (hs : ∀ j, s j = s j) (z : Nat) (hz : ob w z = some (.cells (blk (vU fun _ => 0) 16) 107 (0, 0))) :
    ∃ w', (∀ ty, (Builtin.copy_ #[102, 102] ty #[.slice (some ⟨g, (F + i) * 16, none⟩) 16 16, .slice (some ⟨z, 0, none⟩) 16 16]).run Try.prog w = .ok (goInt 16) w') ∧ MemAt w' m g n (updB s ((F + i) * 16) 16 (fun _ => 0)) ∧ Keep [g] w w' ∧ w'.heap.size = w.heap.size := by
  have hl : (blk (vU fun _ => 0) 16).toList.length = 16 := by simp [blk]
  have hr := fun ty => run_copy_row (P := Try.prog) w 102 102 ty 83 g ((F + i) * 16) 16 16 ⟨z, 0, none⟩ 16 16 (blk (vU s) (n * 16)) 107 (blk (vU fun _ => 0) 16).toList Try.underlying102 (by kernel_rfl) h.2.1 (by rw [hl]; rfl)
    (fun j v hv => by rw [add_mk, cell_of_ob hz, Nat.zero_add]; simpa using hv) (by rw [hl, blk_size]; omega) (by
      intro v hv
      simp [blk] at hv
      obtain ⟨i, _, rfl⟩ := hv
      rfl)
  rw [hl] at hr
  refine ⟨_, hr, ⟨?_, ?_, h.2.2⟩, ⟨rfl, rfl, rfl, by simp [World.setRow], fun k hk hn => ob_setRow w g _ k (by simpa using hn)⟩, by simp [World.setRow]⟩
  · rw [ob_setRow w g _ m h.2.2.1.symm]; exact h.1
  · rw [show ob (w.setRow g _) g = _ from setRow_heap w g _ _ 107 (0, 0) h.2.1]
    have e := blk_splice (vU s) (n * 16) ((F + i) * 16) (blk (vU fun _ => 0) 16).toList (by rw [hl]; omega)
    rw [hl, ← List.append_assoc] at e
    rw [e, updR_vU]
set_option maxRecDepth 100000 in
set_option maxRecDepth 100000 in
set_option maxHeartbeats 800000 in
theorem mScrub (w : World) (m g n : Nat) (s : Nat → Int) (hM : MemAt w m g n s) (f k : Int) :
    Calls Try.prog 38 #[.pointer (some ⟨m, 0, none⟩), .int .i64 f, .int .i64 k] w fun o w' => o = .returned (.int .i64 (eR (hasB n f k))) ∧ MemAt w' m g n (scrubS n s f k) ∧ Keep [g] w w' := by
  unfold scrubS
  have hk0 := Keep.refl [g] w
  cases ho : hasB n f k with
  | false =>
    simp only [Bool.false_eq_true, if_false, eR]
    go_enter Try.func38, Try.ntmps38
    go_wp2_with fail
    refine (mHas _ m g n s hM f k).mono ?_
    rintro _ w1 ⟨rfl, rfl⟩
    rw [ho]
    have H2 := Lib.hid hM
    clear ho hM
    go_wp2
    go_ret
    exact ⟨rfl, H2.out, hk0⟩
  | true =>
    obtain ⟨F, K, rfl, rfl, hK1, hFK⟩ := hasB_out2 ho
    have hn := hM.2.2.2.2
    simp only [if_true, eR, Int.toNat_natCast]
    go_enter Try.func38, Try.ntmps38
    go_wp2_with fail
    refine (mHas _ m g n s hM F K).mono ?_
    rintro _ w1 ⟨rfl, rfl⟩
    rw [ho]
    clear ho
    go_wp2
    obtain ⟨w0, hw0, hZ, hM0, hk1⟩ : ∃ w0, w0 = w.alloc (.cells #[.int .u64 0, .int .u64 0, .int .u64 0, .int .u64 0, .int .u64 0, .int .u64 0, .int .u64 0, .int .u64 0, .int .u64 0, .int .u64 0, .int .u64 0, .int .u64 0, .int .u64 0, .int .u64 0, .int .u64 0, .int .u64 0] 107) ∧ ob w0 w.heap.size = some (.cells (blk (vU fun _ => 0) 16) 107 (0, 0)) ∧ MemAt w0 m g n (scr s F 0) ∧ Keep [g] w w0 :=
      ⟨_, rfl, al_new _ _ rfl, (hM.keep (S := []) ((Keep.refl _ _).alloc _) (by simp) (by simp)).congr (fun i _ => scr_zero s F i), hk0.alloc _⟩
    rw [← hw0]
    have lm := ob_lt hM.1
    have lg := ob_lt hM.2.1
    obtain ⟨z, hz⟩ : ∃ z, z = w.heap.size := ⟨_, rfl⟩
    have nzm : m ≠ z := by omega
    have nzg : g ≠ z := by omega
    rw [← hz] at hZ ⊢
    clear hw0 hz hM lm lg hk0
    go_loopw [15] (fun i wr => ∃ c : Nat, c ≤ K ∧ i = .int .i64 c ∧ ob wr z = some (.cells (blk (vU fun _ => 0) 16) 107 (0, 0)) ∧ MemAt wr m g n (scr s F c) ∧ Keep [g] w wr) (fun i _ => K - (intOf i).toNat)
    case atStart => exact ⟨0, by omega, rfl, hZ, hM0, hk1⟩
    case round =>
      clear hZ hM0 hk1
      obtain ⟨c, hc, rfl, hZ, hM, hkp⟩ := hrel
      by_cases hlt : c < K
      · have hMd : MemAt wr.drew m g n (scr s F c) := hM.keep (S := []) (Keep.refl _ _).drew (by simp) (by simp)
        obtain ⟨w2, hcp, hM2, hk2, hs2⟩ := hMd.copied F c (by omega) (fun _ => rfl) z (dr hZ)
        have hZ2 := hk2.kp (dr hZ) (by simp; omega)
        have HH := Lib.hid (And.intro hZ2 (And.intro (hM2.congr (fun i _ => scr_step s F c i)) (hkp.drew.trans hk2)))
        have c0 : wr.cell? ⟨m, 0, none⟩ = some (.slice (some ⟨g, 0, none⟩) n n) := hM.cp 0
        have c1 : wr.drew.cell? ⟨m, 0, none⟩ = some (.slice (some ⟨g, 0, none⟩) n n) := hMd.cp 0
        have e1 : IntKind.i64.wrap ((F : Int) + (c : Int)) = (F : Int) + (c : Int) := IntWalk.i64_in _ (by omega)
        have e2 : ((F : Int) + (c : Int)).toNat = F + c := by omega
        have e3 : (0 : Int) ≤ (F : Int) + (c : Int) := by omega
        have e4 : (F : Int) + (c : Int) < (n : Int) := by omega
        clear hM hMd hM2 hk2 hs2 hZ hZ2 hkp
        go_wp2
        go_region
        all_goals go_wp2
        all_goals go_roundw
        case rel => exact ⟨c + 1, by omega, by go_num, HH.out.1, HH.out.2.1, HH.out.2.2⟩
        case measure => simp [intOf]; omega
      · have e : c = K := by omega
        subst e
        have HH := Lib.hid (And.intro hM hkp)
        clear hM hkp hZ
        go_wp2
        go_ret
        exact ⟨rfl, HH.out.1, HH.out.2⟩
end Go.Proofs.Ytehmjjfgefopdaa
