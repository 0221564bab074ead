import Derived.Test.YtfljhfggjbkomaaSd
import Derived.Deep.RegionHeld3
namespace Go.Proofs.Ytfljhfggjbkomaa
open Go.RowKit
set_option linter.unusedSimpArgs false
set_option linter.unusedVariables false
attribute [local go_sem] ob_alloc ob_drew ob_drewN ob_setCell ob_setBlock objSet_cells obMap_map obClock_map isMapI_map keyI_mk findI_nil findI_cons lookRes_some lookRes_none lookRes_some' lookRes_none' setBlock_alloc mapPut

set_option maxRecDepth 100000 in
set_option maxHeartbeats 4000000 in
theorem refRead_ok (w : World) (p : Nat) (L : List Nat) (W T now : Int) (us : List Int) (t : Int) (hP : RefAt w p L W T (some (us, t))) (h : t ≤ now) (hnow : now ≤ 9223372036854775807) :
    Calls Try.prog 39 #[.pointer (some ⟨p, 0, none⟩), .int .i64 now] w fun o w' => ∃ v, o = .returned (.tuple #[v, .bool (decide (now - t < T)), .int .i64 0]) ∧ w'.ownsRow w.heap.size 65 1 v us.length (u64s us) ∧ Keep [] w w' := by
  obtain ⟨u, hu, hP', hown0, h1, h2, h3⟩ := hP
  have cP := cell_of_ob hP'
  obtain ⟨ua, uc, rfl⟩ := owns_slice hown0
  have hRd : Rd w.drew (.slice ua us.length uc) (u64s us) := Rd.own hown0
  obtain ⟨va, vc, w1, happ, hown, hgrow⟩ := append_rd (P := Try.prog) Try.underlying54 info65 rfl _ (owns_empty w.drew (Nat.le_refl _) 65 1) (Rd.alloc hRd _) u64s_one (by rw [u64s_length]; unfold maxLen; omega) (by rw [u64s_length]; omega) (by simp) 54
  have hk1 := Keep.ofGrown hgrow
  have hlt := ob_lt hP'
  have hp1 := hk1.kp (al (dr hP')) (by simp [Value.ownBlock]; omega)
  have cP1 := cell_of_ob hp1
  have hwr : IntKind.i64.wrap (now - t) = now - t := IntWalk.i64_in _ (by omega)
  have hk0 : Keep [] w w1 := ((Keep.refl [] w).drew.alloc _).andThen hk1 (by simp [Value.ownBlock])
  rw [Nat.zero_add, u64s_length] at happ hown
  rw [List.nil_append] at hown
  have Hown := Lib.hid hown
  have l1 : p < w1.heap.size := ob_lt hp1
  generalize us.length = n at *
  clear hown0 hP' hRd hgrow hk1 hp1 hown
  go_enter Try.func39, Try.ntmps39
  go_wp2
  go_region_held3 (fun w' => w'.cell? ⟨p, 1, none⟩ = some (.int .i64 T) ∧ w'.cell? ⟨p, 2, none⟩ = some (.slice ua n uc) ∧ w'.cell? ⟨p, 3, none⟩ = some (.int .i64 t)) (go_keep) (refine step_append_eq rfl _ _ _ rfl rfl rfl happ ?_)
  all_goals go_wp2
  all_goals
    go_ret3
    exact ⟨.slice va n vc, rfl, Hown.out, hk0⟩
end Go.Proofs.Ytfljhfggjbkomaa
