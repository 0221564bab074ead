import Derived.Test.YtfljhfggjbkomaaSt
namespace Go.Proofs.Ytfljhfggjbkomaa
open Go.RowKit
set_option linter.unusedSimpArgs false
set_option linter.unusedVariables false
attribute [local go_sem] ob_alloc ob_drew ob_drewN ob_setCell ob_setBlock objSet_cells obMap_map obClock_map isMapI_map keyI_mk findI_nil findI_cons lookRes_some lookRes_none lookRes_some' lookRes_none' setBlock_alloc mapPut

theorem owns_block {w : World} {base : Nat} {e : TypeId} {va : Option Addr} {n m vc : Nat} {xs : List Value} (h : w.ownsRow base e 1 (.slice va m vc) n xs) (h0 : 0 < n) :
    ∃ g cur, va = some ⟨g, 0, none⟩ ∧ base ≤ g ∧ ob w g = some (.cells cur e (0, 0)) ∧ n ≤ vc ∧ vc ≤ maxLen ∧ cur.toList.take n = xs := by
  obtain ⟨hl, h | ⟨g, cap, cur, h1, hb, hg, hn, hm, hc, ht⟩⟩ := h
  · exact absurd h.2 (by omega)
  · rw [Nat.mul_one] at *
    cases h1
    exact ⟨g, cur, rfl, hb, hg, hn, hm, ht⟩

set_option maxRecDepth 100000 in
set_option maxHeartbeats 3000000 in
theorem last17 (W0 : World) (v : Value) (ws : List Int) (hv : RdI W0 .u64 v ws) (ticks x0 x1 : Int) :
    Calls Try.prog 6 #[v, .int .i64 ticks, .agg #[.int .i64 x0, .int .i64 x1]] W0 fun o w' => o = .returned (.bool true) ∧ Keep [] W0 w' := by
  have hvr : RdU W0 v ws := hv.1
  obtain ⟨va, vcap, rfl, hcap⟩ := hvr.len
  unfold maxLen at hcap
  go_enter Try.func6, Try.ntmps6
  go_wp2_with fail
  refine (awake17 _).mono ?_
  rintro _ w1 ⟨rfl, hk1⟩
  have hx1 := hk1.kp (al_new W0 _ rfl) (by simp)
  have cx1 := cell_of_ob hx1
  have lx1 := ob_lt hx1
  have hk01 : Keep [] W0 w1 := ((Keep.refl _ _).alloc _).andThen hk1 (by simp)
  go_wp2_with fail
  refine (new_any 16 ticks w1).mono ?_
  rintro _ w2 ⟨hk2, h2⟩
  have hx2 := hk2.kp hx1 (by simp)
  have cx2 := cell_of_ob hx2
  have lx2 := ob_lt hx2
  have hk02 : Keep [] W0 w2 := hk01.trans hk2
  cases hok : okN 16 ticks with
  | false =>
    simp [hok] at h2
    subst h2
    clear hx1 hx2 hk1 hk2 hv hvr
    go_wp2
    go_ret
    exact ⟨rfl, hk02⟩
  | true =>
    simp [hok] at h2
    obtain ⟨p, rfl, hp1, hp2, hP⟩ := h2
    by_cases hc : 1 ≤ ws.length ∧ ws.length ≤ 16 ∧ 0 ≤ x0 ∧ x0 ≤ 1000000 ∧ 0 ≤ x1 ∧ x1 ≤ 2000000
    · obtain ⟨g1, g2, g3, g4, g5, g6⟩ := hc
      obtain ⟨ra, rc, w3, happ, hown, hgrow⟩ := append_rd (P := Try.prog) Try.underlying54 info65 rfl _ (owns_empty w2 (Nat.le_refl _) 65 1) (Rd.alloc (hvr.keep hk02 (by simp)) _) u64s_one (by rw [u64s_length]; unfold maxLen; omega) (by rw [u64s_length]; omega) (by simp) 54
      have hk3 := Keep.ofGrown hgrow
      rw [Nat.zero_add, u64s_length] at happ hown
      rw [List.nil_append] at hown
      obtain ⟨g, cur, rfl, hg1, hg, hgc, hgm, htake⟩ := owns_block hown (by omega)
      have hk23 : Keep [] w2 w3 := ((Keep.refl _ _).alloc _).andThen hk3 (by simp [Value.ownBlock])
      have hx3 := hk23.kp hx2 (by simp)
      have cx3 := cell_of_ob hx3
      have lx3 := ob_lt hx3
      have hk03 := hk02.trans hk23
      have hP3 : PortAt w3 p [p, g] 16 ticks none := (hP [p, g]).keep hk23 (by simp) (by simp)
      have hp3 : p < w3.heap.size := Nat.lt_of_lt_of_le hp2 hk23.size
      have hgl := ob_lt hg
      have hgp : g ≠ p := by omega
      have hpW : W0.heap.size < p := by omega
      have hown3 : RdU w3 (.slice (some ⟨g, 0, none⟩) ws.length rc) ws := Rd.row hg (u64s_length ws) hgc hgm htake
      have hwx : IntKind.i64.wrap (x0 + x1) = x0 + x1 := IntWalk.i64_in _ (by omega)
      clear hx1 hk1 hok hgrow hk3 hown
      go_wp2_with (at_builtin; refine wpList_append_eq rfl _ _ _ rfl rfl rfl happ ?_)
      refine (read_none w3 p _ 16 ticks 0 hP3).mono ?_
      rintro _ _ ⟨rfl, rfl⟩
      go_wp2_with fail
      refine (write_ok_none w3 p [p, g] 16 ticks (by simp) (by simp [hp3, hgl]) hP3 _ ws hown3 x0 (by omega) g1 (by omega) g3).mono ?_
      rintro _ w4 ⟨rfl, hP4, hk4⟩
      have hx4 := hk4.kp hx3 (by simp; omega)
      have cx4 := cell_of_ob hx4
      have lx4 := ob_lt hx4
      have hg4 := hk4.kp hg (by simp; omega)
      have cg4 := cell_of_ob hg4
      have fg4 := free_of_ob hg4
      have lg4 := ob_lt hg4
      have lp4 : p < w4.heap.size := Nat.lt_of_lt_of_le hp3 hk4.size
      have hk04 : Keep [] W0 w4 := hk03.andThen hk4 (by simp; omega)
      obtain ⟨c0, hc0⟩ : ∃ c0, cur[0]? = some (.int .u64 c0) := by
        have := congrArg (fun l => l[0]?) htake
        rw [List.getElem?_take, if_pos (by omega)] at this
        obtain ⟨y, ys, hws⟩ := List.exists_cons_of_ne_nil (show ws ≠ [] by intro e; rw [e] at g1; simp at g1)
        exact ⟨y, by simpa [hws, u64s] using this⟩
      have cg0 : w4.cell? ⟨g, 0, none⟩ = some (.int .u64 c0) := by rw [cg4, hc0]
      clear cg4 hc0
      go_wp2_with fail
      have hP5 : PortAt (w4.setCell ⟨g, 0, none⟩ (.int .u64 (IntKind.u64.wrap (c0 + 1)))) p [p, g] 16 ticks (some (ws, x0)) := hP4.keep (S := [g]) ((Keep.refl _ _).setCell (.inl (by simp)) _ _) (by simp; omega) (by simp)
      have hx5 := st (v := .int .u64 (IntKind.u64.wrap (c0 + 1))) (i := 0) (b := g) hx4 (by omega)
      have hk05 : Keep [] W0 (w4.setCell ⟨g, 0, none⟩ (.int .u64 (IntKind.u64.wrap (c0 + 1)))) := hk04.setCell (.inr (by omega)) _ _
      have lp5 : p < (w4.setCell ⟨g, 0, none⟩ (.int .u64 (IntKind.u64.wrap (c0 + 1)))).heap.size := by simpa using lp4
      have lg5 : g < (w4.setCell ⟨g, 0, none⟩ (.int .u64 (IntKind.u64.wrap (c0 + 1)))).heap.size := by simpa using lg4
      generalize w4.setCell ⟨g, 0, none⟩ (.int .u64 (IntKind.u64.wrap (c0 + 1))) = w5 at *
      have cx5 := cell_of_ob hx5
      have lx5 := ob_lt hx5
      have hread := read_ok w5 p [p, g] 16 ticks (x0 + x1) ws x0 hP5 (by omega) (by omega)
      obtain ⟨k, hk⟩ : ∃ k, ws.length = k + 1 := ⟨ws.length - 1, by omega⟩
      have hge : (u64s ws)[k]? = some (.int .u64 ((ws[k]?).getD 0)) := by
        rw [u64s, List.getElem?_map, List.getElem?_eq_getElem (by omega)]; rfl
      have hkey : x0 + x1 - x0 = x1 := by omega
      rw [hkey, hk] at hread
      clear hk04 hk03 hk02 hk01 hk23 hk4 hP4 hP3 hP hx2 hx3 hx4 cx1 cx2 cx3 cx4 lx1 lx2 lx3 lx4 hk2 hg hg4 cg0 fg4 hown3 happ htake hv hp3 hgl hgm hgc
      rw [hk]
      have HLen := Lib.hid hk
      have hk15 : k ≤ 15 := by omega
      clear g1 g2 hk
      refine hread.mono ?_
      rintro _ w6 ⟨rfl, ha6, hk6⟩
      have hP6 := hP5.keep hk6 (by simp) (by simp)
      have hx6 := hk6.kp hx5 (by simp)
      have cx6 := cell_of_ob hx6
      have lx6 := ob_lt hx6
      have ca6 := cell_of_ob ha6
      have fa6 := free_of_ob ha6
      have la6 := ob_lt ha6
      have cak : w6.cell? ⟨w5.heap.size, k, none⟩ = some (.int .u64 ((ws[k]?).getD 0)) := by
        rw [ca6]; simpa using hge
      clear ca6
      generalize (ws[k]?).getD 0 = c1 at cak
      go_wp2_with fail
      have hk57 : Keep [] w5 (w6.setCell ⟨w5.heap.size, k, none⟩ (.int .u64 (IntKind.u64.wrap (c1 + 1)))) := hk6.setCell (.inr (Nat.le_refl _)) _ _
      generalize w6.setCell ⟨w5.heap.size, k, none⟩ (.int .u64 (IntKind.u64.wrap (c1 + 1))) = w7 at *
      have hP7 := hP5.keep hk57 (by simp) (by simp)
      have hread := read_ok w7 p [p, g] 16 ticks (x0 + x1) ws x0 hP7 (by omega) (by omega)
      rw [hkey, HLen.out] at hread
      refine hread.mono ?_
      rintro _ w8 ⟨rfl, ha8, hk8⟩
      have hk58 := hk57.trans hk8
      have hP8 := hP5.keep hk58 (by simp) (by simp)
      have hx8 := hk58.kp hx5 (by simp)
      have hR8 : RdU w8 (.slice (some ⟨w7.heap.size, 0, none⟩) (k + 1) (k + 1)) ws := Rd.row ha8 (by rw [u64s_length, HLen.out]) (Nat.le_refl _) (by unfold maxLen; omega) (List.take_of_length_le (by simp [u64s, HLen.out]))
      have hV8 : RdU w8 (.slice va ws.length vcap) ws := hvr.keep (hk05.trans hk58) (by simp)
      rw [HLen.out] at hV8
      go_wp2_with fail
      refine (same_any w8 _ _ ws ws hR8 hV8).mono ?_
      rintro _ w9 ⟨rfl, hk9⟩
      simp only [decide_true]
      have hP9 := hP8.keep hk9 (by simp) (by simp)
      go_wp2_with fail
      refine (scrub_any w9 p [p, g] 16 ticks _ hP9).mono ?_
      rintro _ w10 ⟨rfl, hP10, hk10⟩
      have hk010 : Keep [] W0 w10 := (((hk05.trans hk58).trans hk9)).andThen hk10 (by simp; omega)
      have hx10 := hk10.kp (hk9.kp hx8 (by simp)) (by simp; omega)
      have cx10 := cell_of_ob hx10
      have lx10 := ob_lt hx10
      have lp10 : p < w10.heap.size := Nat.lt_of_lt_of_le lp5 (Nat.le_trans (hk58.trans hk9).size hk10.size)
      go_wp2_with fail
      refine (read_none w10 p _ 16 ticks (x0 + x1) hP10).mono ?_
      rintro _ _ ⟨rfl, rfl⟩
      have h1p := Nat.lt_trans hpW lp10
      have lg10 : g < w10.heap.size := Nat.lt_of_lt_of_le lg5 (Nat.le_trans (hk58.trans hk9).size hk10.size)
      have hV10 : RdU w10 (.slice va ws.length vcap) ws := hvr.keep hk010 (by simp)
      rw [HLen.out] at hV10
      have hwrite := write_ok_none w10 p [p, g] 16 ticks (by simp) (by simp [lp10, lg10]) hP10 _ ws hV10 0 (by omega) (by rw [HLen.out]; omega) (by rw [HLen.out]; omega) (by omega)
      go_wp2_with fail
      refine hwrite.mono ?_
      rintro _ w11 ⟨rfl, _, hk11⟩
      have hkE : Keep [] W0 w11 := hk010.andThen hk11 (by simp; omega)
      clear hwrite hV10 hP10 hx10 hP9 hR8 hV8 hP8 hx8 ha8 hread hP7 hk57 hP6 hx6 ha6 hP5 hx5 hvr
      go_wp2
      all_goals
        go_ret
        exact ⟨by first | rfl | (apply ret_b; simp), hkE⟩
    · rcases (show ws.length < 1 ∨ (1 ≤ ws.length ∧ 16 < ws.length) ∨ (1 ≤ ws.length ∧ ws.length ≤ 16 ∧ x0 < 0) ∨ (1 ≤ ws.length ∧ ws.length ≤ 16 ∧ 0 ≤ x0 ∧ 1000000 < x0) ∨ (1 ≤ ws.length ∧ ws.length ≤ 16 ∧ 0 ≤ x0 ∧ x0 ≤ 1000000 ∧ x1 < 0) ∨ (1 ≤ ws.length ∧ ws.length ≤ 16 ∧ 0 ≤ x0 ∧ x0 ≤ 1000000 ∧ 0 ≤ x1 ∧ 2000000 < x1) by omega) with h | h | h | h | h | h
      all_goals
        clear hc hx1 hx2 hk1 hk2 hv hvr hok hP hk01
        generalize ws.length = n at *
        go_wp2
        go_ret
        exact ⟨rfl, hk02⟩
end Go.Proofs.Ytfljhfggjbkomaa
