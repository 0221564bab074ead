import Derived.Test.YtfihnnijcaapkaaDoorVm
namespace Go.Proofs.YtfihnnijcaapkaaDoor
open Go.RowKit
set_option linter.unusedSimpArgs false
set_option linter.unusedVariables false
attribute [local go_sem] ob_alloc ob_drew ob_drewN ob_setCell ob_setBlock objSet_cells obMap_map obClock_map isMapI_map keyI_mk findI_nil findI_cons lookRes_some lookRes_none lookRes_some' lookRes_none' setBlock_alloc mapPut
attribute [local go_sem ↓] Go.wp_at_zero Go.wp_at_succ

open Classical in
noncomputable def gapV (S : Nat → Bool) (many en : Int) : Int := if h : ∃ g, GapP S many en g then Classical.choose h else 0
theorem GapP.eq {S : Nat → Bool} {many en g : Int} (h : GapP S many en g) : g = gapV S many en := by
  have hex : ∃ g, GapP S many en g := ⟨g, h⟩
  unfold gapV
  rw [dif_pos hex]
  exact h.uniq (Classical.choose_spec hex)
structure PS (W0 w : World) (p q : Nat) (S R : Nat → Bool) : Prop where
  se : SE W0 w p S
  rs : RSet w q R
  qn : W0.heap.size ≤ q
  pq : p ≠ q
structure PO (W0 w : World) (p q po : Nat) (a : Int) (b : Bool) (S R : Nat → Bool) : Prop where
  ps : PS W0 w p q S R
  ob : ob w po = some (.cells #[.int .i64 a, .bool b] 32 (0, 0))
  n1 : po ≠ p
  n2 : po ≠ q
section
variable {W0 w : World} {p q po : Nat} {a : Int} {b : Bool} {S R : Nat → Bool}
theorem PS.new {w' : World} (h : PS W0 w p q S R) (hk : Keep [] w w') : PS W0 w' p q S R := ⟨h.se.new hk, h.rs.keep hk (by simp), h.qn, h.pq⟩
theorem PS.box (h : PS W0 w p q S R) (a : Int) (b : Bool) : PO W0 (w.alloc (.cells #[.int .i64 a, .bool b] 32)) p q w.heap.size a b S R :=
  ⟨h.new ((Keep.refl _ _).alloc _), al_new w (.cells #[.int .i64 a, .bool b] 32) rfl, by have := ob_lt h.se.set; omega, by have := ob_lt h.rs; omega⟩
theorem PO.new {w' : World} (h : PO W0 w p q po a b S R) (hk : Keep [] w w') : PO W0 w' p q po a b S R := ⟨h.ps.new hk, hk.kp h.ob (by simp), h.n1, h.n2⟩
theorem PO.cells (h : PO W0 w p q po a b S R) : w.cell? ⟨po, 0, none⟩ = some (.int .i64 a) ∧ w.cell? ⟨po, 1, none⟩ = some (.bool b) := ⟨by rw [cell_of_ob h.ob]; rfl, by rw [cell_of_ob h.ob]; rfl⟩
theorem PO.put1 (h : PO W0 w p q po a b S R) : Calls Tryd.prog 8 #[.pointer (some ⟨p, 0, none⟩), .int .i64 a, .bool b] w fun e w' => e = .returned (.bool (inR a)) ∧ PO W0 w' p q po a b (putS S a b) R ∧ w'.cell? ⟨po, 0, none⟩ = some (.int .i64 a) ∧ w'.cell? ⟨po, 1, none⟩ = some (.bool b) := by
  refine (h.ps.se.put a b).mono ?_
  rintro e w' ⟨h1, h2, h3⟩
  have hn : PO W0 w' p q po a b (putS S a b) R := ⟨⟨h2, h.ps.rs.keep h3 (by simp; exact fun e => h.ps.pq e.symm), h.ps.qn, h.ps.pq⟩, h3.kp h.ob (by simp; exact h.n1), h.n1, h.n2⟩
  exact ⟨h1, hn, hn.cells⟩
theorem PO.put2 (h : PO W0 w p q po a b S R) : Calls Tryd.prog 12 #[.pointer (some ⟨q, 0, none⟩), .int .i64 a, .bool b] w fun e w' => e = .returned (.bool (inR a)) ∧ PO W0 w' p q po a b S (putS R a b) ∧ w'.cell? ⟨po, 0, none⟩ = some (.int .i64 a) ∧ w'.cell? ⟨po, 1, none⟩ = some (.bool b) := by
  refine (rPut w q R h.ps.rs a b).mono ?_
  rintro e w' ⟨h1, h2, h3⟩
  have hse : SE W0 w' p S := ⟨h.ps.se.set.keep h3 (by simp; exact h.ps.pq), h.ps.se.kp.andThen h3 (by intro x hx; simp at hx; subst hx; exact .inr h.ps.qn), h.ps.se.pn, h.ps.se.tab0, h.ps.se.z0⟩
  have hn : PO W0 w' p q po a b S (putS R a b) := ⟨⟨hse, h2, h.ps.qn, h.ps.pq⟩, h3.kp h.ob (by simp; exact h.n2), h.n1, h.n2⟩
  exact ⟨h1, hn, hn.cells⟩
theorem PO.has1 (h : PO W0 w p q po a b S R) : Calls Tryd.prog 10 #[.pointer (some ⟨p, 0, none⟩), .int .i64 a] w fun e w' => e = .returned (.bool (hasS S a)) ∧ w' = w := h.ps.se.has a
theorem PO.has2 (h : PO W0 w p q po a b S R) : Calls Tryd.prog 13 #[.pointer (some ⟨q, 0, none⟩), .int .i64 a] w fun e w' => e = .returned (.bool (hasS R a)) ∧ w' = w := rHas w q R h.ps.rs a
theorem PO.gap1 (h : PO W0 w p q po a b S R) (many en : Int) : Calls Tryd.prog 14 #[.pointer (some ⟨p, 0, none⟩), .int .i64 many, .int .i64 en] w fun e w' => e = .returned (.int .i64 (gapV S many en)) ∧ PO W0 w' p q po a b S R ∧ w'.cell? ⟨po, 0, none⟩ = some (.int .i64 a) ∧ w'.cell? ⟨po, 1, none⟩ = some (.bool b) := by
  refine (h.ps.se.gap many en).mono ?_
  rintro e w' ⟨g, h1, h2, h3, h4⟩
  exact ⟨by rw [h1, h2.eq], h.new h4, (h.new h4).cells⟩
theorem PO.gap2 (h : PO W0 w p q po a b S R) (many en : Int) : Calls Tryd.prog 15 #[.pointer (some ⟨q, 0, none⟩), .int .i64 many, .int .i64 en] w fun e w' => e = .returned (.int .i64 (gapV R many en)) ∧ w' = w := by
  refine (rGap w q R h.ps.rs many en).mono ?_
  rintro e w' ⟨g, h1, h2, h3⟩
  exact ⟨by rw [h1, h2.eq], h3⟩
theorem PS.all (h : PS W0 w p q S R) : Calls Tryd.prog 16 #[.pointer (some ⟨q, 0, none⟩)] w fun e w' => ∃ va vc, e = .returned (.slice va (memL R 256).length vc) ∧ RowE numE 3 w' w.heap.size (.slice va (memL R 256).length vc) (memL R 256) ∧ PS W0 w' p q S R ∧ Keep [] w w' := by
  refine (rAll w q R h.rs).mono ?_
  rintro e w' ⟨va, vc, h1, h2, h3⟩
  exact ⟨va, vc, h1, h2, h.new h3, h3⟩
theorem PS.told (h : PS W0 w p q S R) : Calls Tryd.prog 9 #[.pointer (some ⟨p, 0, none⟩)] w fun e w' => ∃ va vc, e = .returned (.slice va (memL S 256).length vc) ∧ RowE numE 3 w' w.heap.size (.slice va (memL S 256).length vc) (memL S 256) ∧ PS W0 w' p q S R ∧ Keep [] w w' := by
  refine h.se.told.mono ?_
  rintro e w' ⟨va, vc, h1, h2, h3, h4⟩
  exact ⟨va, vc, h1, h2, h.new h4, h4⟩
end
theorem PS.begin {W0 w : World} (hk : Keep [] W0 w) (hT : TabAt W0) (h0 : 0 < W0.heap.size) :
    PS W0 ((w.alloc (.cells #[.int .u64 0, .int .u64 0, .int .u64 0, .int .u64 0] 29)).alloc (.cells (blk (fun _ => .bool false) 256) 40)) w.heap.size (w.heap.size + 1) (fun _ => false) (fun _ => false) := by
  have hs := SE.begin hk hT h0
  have hn := al_new (w.alloc (.cells #[.int .u64 0, .int .u64 0, .int .u64 0, .int .u64 0] 29)) (.cells (blk (fun _ => .bool false) 256) 40) rfl
  rw [World.size_alloc] at hn
  exact ⟨hs.new ((Keep.refl _ _).alloc _), hn, by have := hk.size; omega, by omega⟩
theorem zv40 (w : World) : (zeroValue 40).run Tryd.prog w = .ok (.agg (blk (fun _ => .bool false) 256)) w := by kernel_rfl
set_option maxRecDepth 100000 in
set_option maxHeartbeats 4000000 in
theorem plays03 (W0 : World) (hT : TabAt W0) (hz : 0 < W0.heap.size) (v0 : Value) (xs : List (List Value)) (hv : RdA W0 2 v0 xs) (hx : ∀ c ∈ xs, GCells W0 [.int .i64, .bool] c) (many en : Int) :
    Calls Tryd.prog 4 #[v0, .int .i64 many, .int .i64 en] W0 fun o w' => o = .returned (.bool true) ∧ Keep [] W0 w' := by
  obtain ⟨a0, cap0, rfl, hc1, hc2⟩ := hv.len
  unfold maxLen at hc2
  generalize hn : xs.length = n at *
  have HA := Lib.hid (awake03 W0 W0 (Keep.refl _ _) hT hz)
  have HT := Lib.hid (And.intro hT hz)
  clear hT hz
  go_enter Tryd.func4, Tryd.ntmps4
  go_wp2_with fail
  refine HA.out.mono ?_
  rintro _ w1 ⟨rfl, hk1⟩
  have HS := Lib.hid (PS.begin hk1 HT.out.1 HT.out.2)
  clear hk1 HA HT
  have hz40 := zv40
  go_wp2_with fail
  clear hz40
  have hs := HS.out
  clear HS
  generalize (w1.alloc (.cells #[.int .u64 0, .int .u64 0, .int .u64 0, .int .u64 0] 29)).alloc (.cells (blk (fun _ => .bool false) 256) 40) = w2 at *
  generalize w1.heap.size + 1 = q at *
  generalize w1.heap.size = p at *
  generalize blk (fun _ => Value.bool false) 256 = zz at *
  have HS := Lib.hid hs
  clear hs
  go_loopg [10] n (fun gn s10 wr => ∃ k : Nat, s10 = .int .i64 k ∧ k ≤ n ∧ k ≤ 200 ∧ gn = n - k ∧ PS W0 wr p q (opsS (ops2 xs) k) (opsS (ops2 xs) k))
  case atStart => exact ⟨0, rfl, by omega, by omega, by omega, HS.out⟩
  case round =>
    obtain ⟨k, rfl, hk, hk2, rfl, hs⟩ := hrel
    by_cases hgo : k < n ∧ k < 200
    · obtain ⟨hlt, hl2⟩ := hgo
      obtain ⟨bb, off, cap', hveq, hbb, hXA⟩ := args2 hv hx (by omega)
      simp only [Value.slice.injEq, hn, true_and] at hveq
      obtain ⟨rfl, rfl⟩ := hveq
      rw [hn] at hXA
      obtain ⟨l0, l1⟩ := hXA wr hs.se.kp k (by omega)
      have hu : putS (opsS (ops2 xs) k) (ops2 xs k).1 (ops2 xs k).2 = opsS (ops2 xs) (k + 1) := rfl
      have HU := Lib.hid hu
      have HO := Lib.hid (hs.box (ops2 xs k).1 (ops2 xs k).2)
      clear hu hs
      generalize hS : opsS (ops2 xs) k = S at *
      generalize hS2 : opsS (ops2 xs) (k + 1) = S2 at *
      generalize (ops2 xs k).1 = a at *
      generalize (ops2 xs k).2 = b at *
      have HS2 := Lib.hid hS2
      have hkn : (k : Int) + 1 ≤ 201 := by omega
      clear hv hx hXA hS hS2
      go_upto_region 8 with fail
      have hO := HO.out
      clear l0 l1 HO
      generalize wr.alloc (.cells #[.int .i64 a, .bool b] 32) = w5 at *
      generalize wr.heap.size = po at *
      obtain ⟨l0, l1⟩ := hO.cells
      have hD := hO.new (Keep.refl [] _).drew
      clear hO
      go_region_held3 (fun w' => w'.cell? ⟨po, 0, none⟩ = some (.int .i64 a) ∧ w'.cell? ⟨po, 1, none⟩ = some (.bool b)) (first | exact ⟨l0, l1⟩ | exact ⟨m0, m1⟩ | go_keep)
        (first
          | (go_at_call 8; refine (PO.put1 (by with_reducible assumption)).mono ?_; clear hD; rintro _ w6 ⟨rfl, hD, m0, m1⟩)
          | (go_at_call 12; refine (PO.put2 (by with_reducible assumption)).mono ?_; clear hD; rintro _ w6 ⟨rfl, hD, m0, m1⟩)
          | (go_at_call 10; refine (PO.has1 (by with_reducible assumption)).mono ?_; rintro _ _ ⟨rfl, rfl⟩)
          | (go_at_call 13; refine (PO.has2 (by with_reducible assumption)).mono ?_; rintro _ _ ⟨rfl, rfl⟩)
          | (go_at_call 14; refine (PO.gap1 (by with_reducible assumption) many en).mono ?_; clear hD; rintro _ w6 ⟨rfl, hD, m0, m1⟩)
          | (go_at_call 15; refine (PO.gap2 (by with_reducible assumption) many en).mono ?_; rintro _ _ ⟨rfl, rfl⟩))
      all_goals
        have HD := Lib.hid hD.ps
        clear hD l0 l1 m0 m1
        go_wp2_with fail
        go_roundg (n - (k + 1))
        case measure => omega
        case rel => exact ⟨k + 1, by go_num, by omega, by omega, rfl, by have h9 := HD.out; rw [HU.out] at h9; rw [HS2.out]; exact h9⟩
    · clear hv hx HS
      have HD := Lib.hid hs
      clear hs
      rcases Nat.lt_or_ge k n with hlt | hlt
      all_goals
        try have hl2 : 200 ≤ k := by omega
        go_upto_region 10 with fail
        clear hgo
        generalize opsS (ops2 xs) k = S at *
        go_wp2_with fail
        refine HD.out.told.mono ?_
        rintro _ w3 ⟨va, vc, rfl, hrow, hs, _⟩
        have HD3 := Lib.hid (And.intro hs hrow)
        have hml := memL_len S 256
        clear HD hs hrow
        generalize wr.heap.size = B at *
        generalize hq : (memL S 256).length = ql at *
        have HQ := Lib.hid hq
        clear hq
        go_wp2_with fail
        refine HD3.out.1.all.mono ?_
        rw [HQ.out]
        rintro _ w4 ⟨va2, vc2, rfl, hrow2, hs, hk4⟩
        have hrow1 := HD3.out.2.keep hk4 (by simp)
        have hsame := rSame w4 _ _ _ _ _ hrow1 hrow2 (by have := memL_len S 256; omega)
        have HD4 := Lib.hid hs
        clear hs hk4 hrow1 hrow2 HD3
        go_wp2_with fail
        refine hsame.mono ?_
        rintro _ _ ⟨rfl, nd, rfl⟩
        have HD5 := Lib.hid (HD4.out.new ((Keep.refl [] _).drewN nd))
        clear hsame HD4
        generalize w4.drewN nd = w5 at *
        go_wp2_with fail
        refine HD5.out.se.len.mono ?_
        rw [HQ.out]
        rintro _ _ ⟨rfl, rfl⟩
        go_wp2_with fail
        refine HD5.out.all.mono ?_
        rw [HQ.out]
        rintro _ w6 ⟨va3, vc3, rfl, _, hs, _⟩
        have HK := Lib.hid hs.se.kp
        clear hs HD5
        go_wp2_with fail
        go_ret
        exact ⟨rfl, HK.out⟩
end Go.Proofs.YtfihnnijcaapkaaDoor
