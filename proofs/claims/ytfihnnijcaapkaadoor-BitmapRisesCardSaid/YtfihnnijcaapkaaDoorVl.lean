import Derived.Test.YtfihnnijcaapkaaDoorVk
namespace Go.Proofs.YtfihnnijcaapkaaDoor
open Go.RowKit
set_option linter.unusedSimpArgs false
set_option linter.unusedVariables false
attribute [local go_sem] ob_alloc ob_drew ob_drewN ob_setCell ob_setBlock objSet_cells obMap_map obClock_map isMapI_map keyI_mk findI_nil findI_cons lookRes_some lookRes_none lookRes_some' lookRes_none' setBlock_alloc mapPut

theorem wd_none (j : Nat) : wd (fun _ => false) j = 0 := by
  apply Nat.eq_of_testBit_eq
  intro i
  rw [wd_bit']
  simp
theorem set0 (w : World) : IsSet (w.alloc (.cells #[.int .u64 0, .int .u64 0, .int .u64 0, .int .u64 0] 29)) w.heap.size (fun _ => false) := by
  have := al_new w (.cells #[.int .u64 0, .int .u64 0, .int .u64 0, .int .u64 0] 29) rfl
  unfold IsSet
  rw [this]
  simp [blk, List.range, List.range.loop, wO, vU, wd_none]
/-- what awake puts -/
def S3 : Nat → Bool := upS (upS (upS (fun _ => false) 0 true) 1 true) 4 true
theorem S3_put : putS (putS (putS (fun _ => false) 0 true) 1 true) 4 true = S3 := by
  unfold putS S3
  rw [if_pos (by decide), if_pos (by decide), if_pos (by decide)]; rfl
theorem S3_true {n : Nat} (h : n = 0 ∨ n = 1 ∨ n = 4) : S3 n = true := by rcases h with rfl | rfl | rfl <;> rfl
theorem S3_false {n : Nat} (h0 : n ≠ 0) (h1 : n ≠ 1) (h4 : n ≠ 4) : S3 n = false := by simp [S3, upS, h0, h1, h4]
theorem S3_gap2 : GapP S3 2 256 2 := .inr ⟨2, rfl, by omega, by omega, by omega, ⟨by omega, fun i h1 h2 => S3_false (by omega) (by omega) (by omega)⟩, fun m hm hF => by
  rcases (by omega : m = 0 ∨ m = 1) with rfl | rfl
  · have := hF.2 0 (by omega) (by omega); rw [S3_true (by omega)] at this; cases this
  · have := hF.2 1 (by omega) (by omega); rw [S3_true (by omega)] at this; cases this⟩
theorem S3_gap3 : GapP S3 3 7 (-1) := .inl ⟨rfl, .inr (.inr (.inr (fun n hF => by
  have h := hF.1
  rcases (by omega : n = 0 ∨ n = 1 ∨ (2 ≤ n ∧ n ≤ 4)) with rfl | rfl | ⟨h1, h2⟩
  · have := hF.2 0 (by omega) (by omega); rw [S3_true (by omega)] at this; cases this
  · have := hF.2 1 (by omega) (by omega); rw [S3_true (by omega)] at this; cases this
  · have := hF.2 4 (by omega) (by omega); rw [S3_true (by omega)] at this; cases this)))⟩
theorem S3_len : (memL S3 256).length = 3 := by
  rw [memL_gap' S3 (show 5 ≤ 256 by omega) (fun i h1 h2 => S3_false (by omega) (by omega) (by omega))]; rfl
/-- a set of the call's own, with all that the calls ask -/
structure SE (W0 w : World) (p : Nat) (S : Nat → Bool) : Prop where
  set : IsSet w p S
  kp : Keep [] W0 w
  pn : W0.heap.size ≤ p
  tab0 : TabAt W0
  z0 : 0 < W0.heap.size
section
variable {W0 w : World} {p : Nat} {S : Nat → Bool}
theorem SE.tab (h : SE W0 w p S) : TabAt w := h.tab0.keep h.kp h.z0 (by simp)
theorem SE.new {w' : World} (h : SE W0 w p S) (hk : Keep [] w w') : SE W0 w' p S := ⟨h.set.keep hk (by simp), h.kp.trans hk, h.pn, h.tab0, h.z0⟩
theorem SE.begin (hk : Keep [] W0 w) (hT : TabAt W0) (h0 : 0 < W0.heap.size) : SE W0 (w.alloc (.cells #[.int .u64 0, .int .u64 0, .int .u64 0, .int .u64 0] 29)) w.heap.size (fun _ => false) := ⟨set0 w, hk.alloc _, hk.size, hT, h0⟩
theorem SE.put (h : SE W0 w p S) (n : Int) (b : Bool) : Calls Tryd.prog 8 #[.pointer (some ⟨p, 0, none⟩), .int .i64 n, .bool b] w fun e w' => e = .returned (.bool (inR n)) ∧ SE W0 w' p (putS S n b) ∧ Keep [p] w w' := by
  refine (sPut w p S h.set n b).mono ?_
  rintro e w' ⟨h1, h2, h3⟩
  exact ⟨h1, ⟨h2, h.kp.andThen h3 (by intro x hx; simp at hx; subst hx; exact .inr h.pn), h.pn, h.tab0, h.z0⟩, h3⟩
theorem SE.has (h : SE W0 w p S) (n : Int) : Calls Tryd.prog 10 #[.pointer (some ⟨p, 0, none⟩), .int .i64 n] w fun e w' => e = .returned (.bool (hasS S n)) ∧ w' = w := sHas w p S h.set n
theorem SE.len (h : SE W0 w p S) : Calls Tryd.prog 17 #[.pointer (some ⟨p, 0, none⟩)] w fun e w' => e = .returned (.int .i64 ((memL S 256).length : Nat)) ∧ w' = w := sLen w p S h.set
theorem SE.gap (h : SE W0 w p S) (many en : Int) : Calls Tryd.prog 14 #[.pointer (some ⟨p, 0, none⟩), .int .i64 many, .int .i64 en] w fun e w' => ∃ g, e = .returned (.int .i64 g) ∧ GapP S many en g ∧ SE W0 w' p S ∧ Keep [] w w' := by
  refine (YtfihnnijcaapkaaDoor.gap p S w h.set h.tab many en).mono ?_
  rintro e w' ⟨g, h1, h2, h3⟩
  exact ⟨g, h1, h2, h.new h3, h3⟩
theorem SE.told (h : SE W0 w p S) : Calls Tryd.prog 9 #[.pointer (some ⟨p, 0, none⟩)] w fun e w' => ∃ va vc, e = .returned (.slice va (memL S 256).length vc) ∧ RowE numE 3 w' w.heap.size (.slice va (memL S 256).length vc) (memL S 256) ∧ SE W0 w' p S ∧ Keep [] w w' := by
  refine (YtfihnnijcaapkaaDoor.told p S w h.set h.tab).mono ?_
  rintro e w' ⟨va, vc, h1, h2, h3⟩
  exact ⟨va, vc, h1, by unfold RowE; rw [numE_flat]; exact h2, h.new h3, h3⟩
end
set_option maxRecDepth 100000 in
set_option maxHeartbeats 2000000 in
theorem awake03 (W0 w : World) (hk : Keep [] W0 w) (hT : TabAt W0) (h0 : 0 < W0.heap.size) : Calls Tryd.prog 7 #[] w fun e w' => e = .returned (.bool true) ∧ Keep [] W0 w' := by
  have HS := Lib.hid (SE.begin hk hT h0)
  have hi : inR 0 = true := by decide
  clear hk hT h0
  go_enter Tryd.func7, Tryd.ntmps7
  go_wp2_with fail
  have hs := HS.out
  clear HS
  generalize w.alloc (.cells #[.int .u64 0, .int .u64 0, .int .u64 0, .int .u64 0] 29) = w1 at *
  generalize w.heap.size = p at *
  refine (hs.put 0 true).mono ?_
  rintro _ w2 ⟨rfl, s2, _⟩
  have HS := Lib.hid s2
  clear s2 hs
  go_wp2_with fail
  refine (HS.out.put 1 true).mono ?_
  rintro _ w3 ⟨rfl, s2, _⟩
  clear HS
  have HS := Lib.hid s2
  clear s2
  go_wp2_with fail
  refine (HS.out.put 4 true).mono ?_
  rintro _ w4 ⟨rfl, s2, _⟩
  rw [S3_put] at s2
  clear HS
  have HS := Lib.hid s2
  clear s2
  go_wp2_with fail
  refine (HS.out.gap 2 256).mono ?_
  rintro _ w5 ⟨g, rfl, hg, s2, _⟩
  obtain rfl := hg.uniq S3_gap2
  clear HS hg
  have HS := Lib.hid s2
  clear s2
  go_wp2_with fail
  refine (HS.out.gap 3 7).mono ?_
  rintro _ w6 ⟨g, rfl, hg, s2, _⟩
  obtain rfl := hg.uniq S3_gap3
  clear HS hg
  have HS := Lib.hid s2
  clear s2
  go_wp2_with fail
  refine HS.out.told.mono ?_
  rintro _ w7 ⟨va, vc, rfl, _, s2, _⟩
  rw [S3_len]
  have HK := Lib.hid s2.kp
  clear HS s2
  go_wp2_with fail
  go_ret
  exact ⟨rfl, HK.out⟩
end Go.Proofs.YtfihnnijcaapkaaDoor
