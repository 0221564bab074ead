import Derived.Test.YtjiienoflgolpaaMi
import Derived.Deep.LoopGhost
import Derived.Deep.CutRange
import Derived.Deep.CutBlock
import Derived.Deep.QuietTactic
import Derived.BigQuiet
namespace Go.Proofs.Ytjiienoflgolpaa
open Go.RowKit
set_option linter.unusedSimpArgs false
set_option linter.unusedVariables false
attribute [local go_sem] ob_alloc ob_drew ob_drewN ob_setCell ob_setBlock objSet_cells obMap_map obClock_map isMapI_map keyI_mk findI_nil findI_cons lookRes_some lookRes_none lookRes_some' lookRes_none' setBlock_alloc mapPut

/-- both memories, and a block of the walk's own -/
structure BM (W0 : World) (m g rm rg n bo : Nat) (o : Obj) (w : World) (s t : Nat → Int) : Prop where
  mm : MemAt w m g n s
  rr : RMemAt w rm rg n t
  ow : ob w bo = some o
  kp : Keep [] W0 w
  n1 : m ≠ rm ∧ m ≠ rg ∧ g ≠ rm ∧ g ≠ rg
  n2 : bo ≠ m ∧ bo ≠ g ∧ bo ≠ rm ∧ bo ≠ rg
  g0 : W0.heap.size ≤ g
  r0 : W0.heap.size ≤ rg
section
variable {W0 : World} {m g rm rg n bo : Nat} {o : Obj} {w : World} {s t : Nat → Int}
theorem BM.drew (h : BM W0 m g rm rg n bo o w s t) : BM W0 m g rm rg n bo o w.drew s t := ⟨h.mm.keep (S := []) (Keep.refl _ _).drew (by simp) (by simp), h.rr.keep (S := []) (Keep.refl _ _).drew (by simp) (by simp), h.ow, h.kp.drew, h.n1, h.n2, h.g0, h.r0⟩
theorem BM.drewN (h : BM W0 m g rm rg n bo o w s t) (k : Nat) : BM W0 m g rm rg n bo o (w.drewN k) s t := ⟨h.mm.keep (S := []) ((Keep.refl _ _).drewN k) (by simp) (by simp), h.rr.keep (S := []) ((Keep.refl _ _).drewN k) (by simp) (by simp), h.ow, h.kp.drewN k, h.n1, h.n2, h.g0, h.r0⟩
theorem BM.new (h : BM W0 m g rm rg n bo o w s t) {w' : World} (hk : Keep [] w w') : BM W0 m g rm rg n bo o w' s t := ⟨h.mm.keep hk (by simp) (by simp), h.rr.keep hk (by simp) (by simp), hk.kp h.ow (by simp), h.kp.trans hk, h.n1, h.n2, h.g0, h.r0⟩
theorem BM.byM (h : BM W0 m g rm rg n bo o w s t) {w' : World} {s' : Nat → Int} (hM : MemAt w' m g n s') (hk : Keep [g] w w') : BM W0 m g rm rg n bo o w' s' t :=
  ⟨hM, h.rr.keep hk (by simp; exact h.n1.2.2.1.symm) (by simp; exact h.n1.2.2.2.symm), hk.kp h.ow (by simp; exact h.n2.2.1), h.kp.andThen hk (by simp; exact h.g0), h.n1, h.n2, h.g0, h.r0⟩
theorem BM.byR (h : BM W0 m g rm rg n bo o w s t) {w' : World} {t' : Nat → Int} (hM : RMemAt w' rm rg n t') (hk : Keep [rg] w w') : BM W0 m g rm rg n bo o w' s t' :=
  ⟨h.mm.keep hk (by simp; exact h.n1.2.1) (by simp; exact h.n1.2.2.2), hM, hk.kp h.ow (by simp; exact h.n2.2.2.2), h.kp.andThen hk (by simp; exact h.r0), h.n1, h.n2, h.g0, h.r0⟩
theorem BM.write (h : BM W0 m g rm rg n bo o w s t) (a x : Int) : Calls Try.prog 25 #[.pointer (some ⟨m, 0, none⟩), .int .i64 a, .int .u64 x] w fun e w' => e = .returned (.int .i64 (eR (okA n a))) ∧ BM W0 m g rm rg n bo o w' (writeS n s a x) t :=
  (mWrite w m g n s h.mm a x).mono fun _ _ ⟨h1, h2, h3⟩ => ⟨h1, h.byM h2 h3⟩
theorem BM.rwrite (h : BM W0 m g rm rg n bo o w s t) (a x : Int) : Calls Try.prog 41 #[.pointer (some ⟨rm, 0, none⟩), .int .i64 a, .int .u64 x] w fun e w' => e = .returned (.int .i64 (eR (okA n a))) ∧ BM W0 m g rm rg n bo o w' s (writeS n t a x) :=
  (rmWrite w rm rg n t h.rr a x).mono fun _ _ ⟨h1, h2, h3⟩ => ⟨h1, h.byR h2 h3⟩
theorem BM.scrub (h : BM W0 m g rm rg n bo o w s t) (a x : Int) : Calls Try.prog 27 #[.pointer (some ⟨m, 0, none⟩), .int .i64 a, .int .i64 x] w fun e w' => e = .returned (.int .i64 (eR (hasB n a x))) ∧ BM W0 m g rm rg n bo o w' (scrubS n s a x) t :=
  (mScrub w m g n s h.mm a x).mono fun _ _ ⟨h1, h2, h3⟩ => ⟨h1, h.byM h2 h3⟩
theorem BM.rscrub (h : BM W0 m g rm rg n bo o w s t) (a x : Int) : Calls Try.prog 42 #[.pointer (some ⟨rm, 0, none⟩), .int .i64 a, .int .i64 x] w fun e w' => e = .returned (.int .i64 (eR (hasB n a x))) ∧ BM W0 m g rm rg n bo o w' s (scrubS n t a x) :=
  (rmScrub w rm rg n t h.rr a x).mono fun _ _ ⟨h1, h2, h3⟩ => ⟨h1, h.byR h2 h3⟩
theorem BM.second (h : BM W0 m g rm rg n bo o w s t) (x : Int) : Calls Try.prog 44 #[.int .u64 x] w fun e w' => e = .returned (.agg (blk (vU (secF x)) 16)) ∧ BM W0 m g rm rg n bo o w' s t :=
  (mSecond w x).mono fun _ _ ⟨h1, h2⟩ => ⟨h1, h.new h2⟩
theorem BM.fill (h : BM W0 m g rm rg n bo o w s t) (a : Int) (f : Nat → Int) : Calls Try.prog 43 #[.pointer (some ⟨m, 0, none⟩), .int .i64 a, .agg (blk (vU f) 16)] w fun e w' => e = .returned (.int .i64 (eR (hasB n a 1))) ∧ BM W0 m g rm rg n bo o w' (fillS n s a f) t :=
  (mFill w m g n s h.mm a f).mono fun _ _ ⟨h1, h2, h3⟩ => ⟨h1, h.byM h2 h3⟩
theorem BM.rfill (h : BM W0 m g rm rg n bo o w s t) (a x : Int) : Calls Try.prog 45 #[.pointer (some ⟨rm, 0, none⟩), .int .i64 a, .int .u64 x] w fun e w' => e = .returned (.int .i64 (eR (hasB n a 1))) ∧ BM W0 m g rm rg n bo o w' s (fillS n t a (secF x)) :=
  (rmFill w rm rg n t h.rr a x).mono fun _ _ ⟨h1, h2, h3⟩ => ⟨h1, h.byR h2 h3⟩
theorem BM.read (h : BM W0 m g rm rg n bo o w s t) (a : Int) : Calls Try.prog 26 #[.pointer (some ⟨m, 0, none⟩), .int .i64 a] w fun e w' => e = .returned (.tuple #[.int .u64 (readR n s a), .int .i64 (eR (okA n a))]) ∧ BM W0 m g rm rg n bo o w' s t :=
  (mRead w m g n s h.mm a).mono fun _ _ ⟨h1, h2⟩ => ⟨h1, h2 ▸ h⟩
theorem BM.rread (h : BM W0 m g rm rg n bo o w s t) (a : Int) : Calls Try.prog 46 #[.pointer (some ⟨rm, 0, none⟩), .int .i64 a] w fun e w' => e = .returned (.tuple #[.int .u64 (readR n t a), .int .i64 (eR (okA n a))]) ∧ BM W0 m g rm rg n bo o w' s t :=
  (rmRead w rm rg n t h.rr a).mono fun _ _ ⟨h1, h2⟩ => ⟨h1, h2 ▸ h⟩
theorem BM.frame (h : BM W0 m g rm rg n bo o w s t) (a : Int) : Calls Try.prog 47 #[.pointer (some ⟨m, 0, none⟩), .int .i64 a] w fun e w' => e = .returned (.tuple #[.agg (blk (vU (frameS n s a)) 16), .int .i64 (eR (hasB n a 1))]) ∧ BM W0 m g rm rg n bo o w' s t :=
  (mFrame w m g n s h.mm a).mono fun _ _ ⟨h1, h2⟩ => ⟨h1, h.new h2⟩
theorem BM.zero (h : BM W0 m g rm rg n bo o w s t) (a : Int) : Calls Try.prog 28 #[.pointer (some ⟨m, 0, none⟩), .int .i64 a] w fun e w' => e = .returned (.bool (zeroB n s a)) ∧ w = w' := mZero w m g n s h.mm a
theorem BM.rzero (h : BM W0 m g rm rg n bo o w s t) (a : Int) : Calls Try.prog 48 #[.pointer (some ⟨rm, 0, none⟩), .int .i64 a] w fun e w' => e = .returned (.bool (zeroB n t a)) ∧ w = w' := rmZero w rm rg n t h.rr a
theorem BM.rhas (h : BM W0 m g rm rg n bo o w s t) (a : Int) : Calls Try.prog 49 #[.pointer (some ⟨rm, 0, none⟩), .int .i64 a] w fun e w' => e = .returned (.bool (hasB n a 1)) ∧ w = w' := rmHas w rm rg n t h.rr a
theorem BM.frames (h : BM W0 m g rm rg n bo o w s t) : Calls Try.prog 50 #[.pointer (some ⟨m, 0, none⟩)] w fun e w' => e = .returned (.int .i64 n) ∧ w = w' := mFrames w m g n s h.mm
theorem BM.one (h : BM W0 m g rm rg n bo o w s s) : ∃ s2, BM W0 m g rm rg n bo o w s2 s2 := ⟨_, h⟩
theorem BM.frame1 (h : BM W0 m g rm rg n bo o w s t) (A : Nat) (hh : hasB n A 1 = true) : Calls Try.prog 47 #[.pointer (some ⟨m, 0, none⟩), .int .i64 A] w fun e w' => e = .returned (.tuple #[.agg (blk (vU (fr s A)) 16), .int .i64 0]) ∧ BM W0 m g rm rg n bo o w' s t := by
  have := h.frame A
  unfold frameS at this
  rw [hh] at this
  exact this
theorem BM.frame0 (h : BM W0 m g rm rg n bo o w s t) (a : Int) (hh : hasB n a 1 = false) : Calls Try.prog 47 #[.pointer (some ⟨m, 0, none⟩), .int .i64 a] w fun e w' => e = .returned (.tuple #[.agg (blk (vU (fun _ => 0)) 16), .int .i64 1]) ∧ BM W0 m g rm rg n bo o w' s t := by
  have := h.frame a
  unfold frameS at this
  rw [hh] at this
  exact this
theorem BM.rhas1 (h : BM W0 m g rm rg n bo o w s t) (a : Int) (q : Bool) (hh : hasB n a 1 = q) : Calls Try.prog 49 #[.pointer (some ⟨rm, 0, none⟩), .int .i64 a] w fun e w' => e = .returned (.bool q) ∧ w = w' := hh ▸ h.rhas a
/-- the walk's next block holds a frame's words -/
theorem BM.put (h : BM W0 m g rm rg n bo o w s t) (F : Nat → Int) : ∃ b w2 w3, b = w.heap.size ∧ w2 = w.alloc (.cells #[.int .u64 0, .int .u64 0, .int .u64 0, .int .u64 0, .int .u64 0, .int .u64 0, .int .u64 0, .int .u64 0, .int .u64 0, .int .u64 0, .int .u64 0, .int .u64 0, .int .u64 0, .int .u64 0, .int .u64 0, .int .u64 0] 80) ∧ w2.there b 0 (blk (vU F) 16).size ∧ w3 = w2.setCells b 0 (blk (vU F) 16).toList ∧ ob w3 b = some (.cells (blk (vU F) 16) 80 (0, 0)) ∧ BM W0 m g rm rg n bo o w3 s t := by
  obtain ⟨p1, q1, hp1, ht1, hq1, ho1, hkq1, hsq1⟩ := put80 w F
  exact ⟨_, p1, q1, rfl, hp1, ht1, hq1, ho1, h.new hkq1⟩
theorem BM.cells {d a b x : Int} (h : BM W0 m g rm rg n bo (.cells #[.int .i64 d, .int .i64 a, .int .i64 b, .int .u64 x] 78 (0, 0)) w s t) :
    w.cell? ⟨bo, 0, none⟩ = some (.int .i64 d) ∧ w.cell? ⟨bo, 1, none⟩ = some (.int .i64 a) ∧ w.cell? ⟨bo, 2, none⟩ = some (.int .i64 b) ∧ w.cell? ⟨bo, 3, none⟩ = some (.int .u64 x) := by
  have := cell_of_ob h.ow
  exact ⟨this 0, this 1, this 2, this 3⟩
end

theorem q_same {P : Program} {f : FuncId} {args : Array Value} {w : World} {n : Nat} {v : Value} (h : Calls P f args (w.drewN n) fun e w' => e = .returned v ∧ w.drewN n = w') : Calls P f args (w.drewN n) fun e w'' => e = .returned v ∧ ∃ m, w'' = w.drewN m :=
  Calls.quiet_of_same (h.mono fun _ _ ⟨a, b⟩ => ⟨a, b.symm⟩)
set_option maxRecDepth 100000 in
set_option maxHeartbeats 2000000 in
theorem plays02 (W0 : World) (n0 : Int) (v0 : Value) (xs : List (List Value)) (hv : RdA W0 4 v0 xs) (hx : ∀ c ∈ xs, GCells W0 [.int .i64, .int .i64, .int .i64, .int .u64] c) :
    Calls Try.prog 10 #[.int .i64 n0, v0] W0 fun o w' => o = .returned (.bool true) ∧ Keep [] W0 w' := by
  obtain ⟨a0, cap0, rfl, hc1, hc2⟩ := hv.len
  unfold maxLen at hc2
  go_enter Try.func10, Try.ntmps10
  go_wp2_with fail
  refine (awake02 W0).mono ?_
  rintro _ w1 ⟨rfl, hk1⟩
  cases hok : okFrames n0 with
  | false =>
    go_wp2_with fail
    refine (mNew_no n0 hok w1).mono ?_
    rintro _ w2 ⟨rfl, rfl⟩
    go_wp2_with fail
    refine (rmNew_no n0 hok w1).mono ?_
    rintro _ w2 ⟨rfl, rfl⟩
    clear hok hv hx
    generalize xs.length = l at *
    go_wp2
    go_loopw [10] (fun i wr => i = .int .i64 0 ∧ wr = w1) (fun _ _ => 0)
    case atStart => exact ⟨rfl, rfl⟩
    case round =>
      obtain ⟨rfl, rfl⟩ := hrel
      by_cases h0 : 0 < l
      · go_wp2
        go_ret
        exact ⟨rfl, hk1⟩
      · go_wp2
        go_ret
        exact ⟨rfl, hk1⟩
  | true =>
    obtain ⟨n, rfl, hn1, hn2⟩ := okFrames_out hok
    go_wp2_with fail
    refine (mNew_ok n hn1 hn2 w1).mono ?_
    rintro _ w2 ⟨rfl, hM2, hk2, hs2⟩
    go_wp2_with fail
    refine (rmNew_ok n hn1 hn2 w2).mono ?_
    rintro _ w3 ⟨rfl, hR3, hk3, hs3⟩
    have hM3 := hM2.keep hk3 (by simp) (by simp)
    have hk := (hk1.trans hk2).trans hk3
    obtain ⟨g, hg⟩ : ∃ g, g = w1.heap.size := ⟨_, rfl⟩
    obtain ⟨m, hm⟩ : ∃ m, m = g + 1 := ⟨_, rfl⟩
    obtain ⟨rg, hrg⟩ : ∃ rg, rg = w2.heap.size := ⟨_, rfl⟩
    obtain ⟨rm, hrm⟩ : ∃ rm, rm = rg + 1 := ⟨_, rfl⟩
    have hw1 := hk1.size
    have nn : m ≠ rm ∧ m ≠ rg ∧ g ≠ rm ∧ g ≠ rg := by omega
    have hg0 : W0.heap.size ≤ g := by omega
    have hr0 : W0.heap.size ≤ rg := by omega
    rw [← hg, ← hm] at hM3
    rw [← hrg, ← hrm] at hR3
    rw [← hg, ← hm, ← hrg, ← hrm]
    clear hg hm hrg hrm hw1 hs2 hs3 hk1 hk2 hk3 hM2 hok
    go_wp2_with fail
    go_loopg [10] 60 (fun gn i wr => ∃ (k : Nat) (s : Nat → Int), i = .int .i64 k ∧ k ≤ 60 ∧ gn = 60 - k ∧ k ≤ xs.length ∧ MemAt wr m g n s ∧ RMemAt wr rm rg n s ∧ Keep [] W0 wr)
    case atStart => exact ⟨0, _, rfl, by omega, by omega, by omega, hM3, hR3, hk⟩
    case round =>
      clear hM3 hR3 hk
      obtain ⟨k, s, rfl, hk60, rfl, hkn, hM, hR, hkp⟩ := hrel
      by_cases hlt : k < xs.length
      · by_cases h60 : k < 60
        · obtain ⟨b, off, cap', hveq, hbl, hcells⟩ := (hv.keep hkp (by simp)).2 (by omega)
          simp only [Value.slice.injEq, true_and] at hveq
          obtain ⟨rfl, rfl⟩ := hveq
          have hxk : xs[k]? = some xs[k] := List.getElem?_eq_getElem hlt
          obtain ⟨hc3, hrange⟩ := hcells k _ hxk
          obtain ⟨_, _, hxe, ⟨d, rfl, wd⟩, _, _, rfl, ⟨a, rfl, wq⟩, _, _, rfl, ⟨b2, rfl, wa⟩, _, _, rfl, ⟨x, rfl, wk⟩, rfl⟩ := hx _ (List.getElem_mem hlt)
          rw [hxe] at hrange
          have l0 := hrange 0 _ rfl
          have l1 := hrange 1 _ rfl
          have l2 := hrange 2 _ rfl
          have l3 := hrange 3 _ rfl
          rw [Nat.add_zero] at l0
          clear hv hx hcells hxk hrange hc3 hxe wd wq wa wk
          generalize xs.length = l at *
          have lm := ob_lt hM.1
          have lg := ob_lt hM.2.1
          have lrm := ob_lt hR.1
          have lrg := ob_lt hR.2.1
          have hB : BM W0 m g rm rg n wr.heap.size (.cells #[.int .i64 d, .int .i64 a, .int .i64 b2, .int .u64 x] 78 (0, 0)) (wr.alloc (.cells #[.int .i64 d, .int .i64 a, .int .i64 b2, .int .u64 x] 78)) s s :=
            ⟨hM.keep (S := []) ((Keep.refl _ _).alloc _) (by simp) (by simp), hR.keep (S := []) ((Keep.refl _ _).alloc _) (by simp) (by simp), al_new _ _ rfl, hkp.alloc _, nn, by omega, hg0, hr0⟩
          clear hM hR hkp lm lg lrm lrg
          go_upto_block 2 with fail
          generalize wr.heap.size = bo at *
          generalize wr.alloc (.cells #[.int .i64 d, .int .i64 a, .int .i64 b2, .int .u64 x] 78) = w4 at *
          have HB := Lib.hid hB
          have hc4 := hB.cells
          go_cut [12] from 41 to 192 (fun s12 wx => s12 = .bool true ∧ ∃ s2, BM W0 m g rm rg n bo (.cells #[.int .i64 d, .int .i64 a, .int .i64 b2, .int .u64 x] 78 (0, 0)) wx s2 s2)
          case first =>
            clear hc4 l0 l1 l2 l3 HB
            have hcut : d = 0 ∨ d = 1 ∨ d = 2 ∨ (d ≠ 0 ∧ d ≠ 1 ∧ d ≠ 2) := by omega
            rcases hcut with rfl | rfl | rfl | ⟨d0, d1, d2⟩
            focus
                go_wp2_with fail
                have hBd := hB.drew
                obtain ⟨e0, e1, e2, e3⟩ := hBd.cells
                clear hB
                go_region_held3 (fun w' => w'.cell? ⟨bo, 1, none⟩ = some (.int .i64 a) ∧ w'.cell? ⟨bo, 3, none⟩ = some (.int .u64 x)) (go_keep)
                  (first
                    | (go_at_call 25; refine (BM.write (by assumption) a x).mono ?_; rintro _ w5 ⟨rfl, hB5⟩; obtain ⟨e0, e1, e2, e3⟩ := hB5.cells)
                    | (go_at_call 41; refine (BM.rwrite (by assumption) a x).mono ?_; rintro _ w5 ⟨rfl, hB5⟩; obtain ⟨e0, e1, e2, e3⟩ := hB5.cells))
                all_goals
                  go_wp2_with fail
                  go_meet
                  exact ⟨rfl, _, hB5⟩
            focus
                go_wp2_with fail
                have hBd := hB.drew
                obtain ⟨e0, e1, e2, e3⟩ := hBd.cells
                clear hB
                go_region_held3 (fun w' => w'.cell? ⟨bo, 1, none⟩ = some (.int .i64 a) ∧ w'.cell? ⟨bo, 3, none⟩ = some (.int .u64 x)) (go_keep)
                  (first
                    | (go_at_call 25; refine (BM.write (by assumption) a x).mono ?_; rintro _ w5 ⟨rfl, hB5⟩; obtain ⟨e0, e1, e2, e3⟩ := hB5.cells)
                    | (go_at_call 41; refine (BM.rwrite (by assumption) a x).mono ?_; rintro _ w5 ⟨rfl, hB5⟩; obtain ⟨e0, e1, e2, e3⟩ := hB5.cells))
                all_goals
                  go_wp2_with fail
                  go_meet
                  exact ⟨rfl, _, hB5⟩
            focus
                go_wp2_with fail
                have hBd := hB.drew
                obtain ⟨e0, e1, e2, e3⟩ := hBd.cells
                clear hB
                go_region_held3 (fun w' => w'.cell? ⟨bo, 1, none⟩ = some (.int .i64 a) ∧ w'.cell? ⟨bo, 2, none⟩ = some (.int .i64 b2)) (go_keep)
                  (first
                    | (go_at_call 27; refine (BM.scrub (by assumption) a b2).mono ?_; rintro _ w5 ⟨rfl, hB5⟩; obtain ⟨e0, e1, e2, e3⟩ := hB5.cells)
                    | (go_at_call 42; refine (BM.rscrub (by assumption) a b2).mono ?_; rintro _ w5 ⟨rfl, hB5⟩; obtain ⟨e0, e1, e2, e3⟩ := hB5.cells))
                all_goals
                  go_wp2_with fail
                  go_meet
                  exact ⟨rfl, _, hB5⟩
            focus
                go_wp2_with fail
                have hBd := hB.drew
                obtain ⟨e0, e1, e2, e3⟩ := hBd.cells
                clear hB
                go_region_held3 (fun w' => w'.cell? ⟨bo, 1, none⟩ = some (.int .i64 a) ∧ w'.cell? ⟨bo, 3, none⟩ = some (.int .u64 x)) (go_keep)
                  (first
                    | (go_at_call 44; refine (BM.second (by assumption) x).mono ?_; rintro _ w5 ⟨rfl, hB5⟩; obtain ⟨e0, e1, e2, e3⟩ := hB5.cells)
                    | (go_at_call 43; refine (BM.fill (by assumption) a (secF x)).mono ?_; rintro _ w5 ⟨rfl, hB5⟩; obtain ⟨e0, e1, e2, e3⟩ := hB5.cells)
                    | (go_at_call 45; refine (BM.rfill (by assumption) a x).mono ?_; rintro _ w5 ⟨rfl, hB5⟩; obtain ⟨e0, e1, e2, e3⟩ := hB5.cells))
                all_goals
                  go_wp2_with fail
                  go_meet
                  exact ⟨rfl, _, hB5⟩
          case rest =>
            obtain ⟨rfl, s2, hB⟩ := hcut
            clear hc4 HB l0 l1 l2 l3 hc1 hc2 hbl
            obtain ⟨e0, e1, e2, e3⟩ := hB.cells
            obtain ⟨q, hq⟩ : ∃ q, hasB n a 1 = q := ⟨_, rfl⟩
            cases q
            focus
              go_wp2_with fail
              refine (BM.read hB a).mono ?_
              rintro _ w6 ⟨rfl, hB6⟩
              obtain ⟨e0, e1, e2, e3⟩ := hB6.cells
              clear hB
              go_wp2_with fail
              refine (BM.rread hB6 a).mono ?_
              rintro _ w7 ⟨rfl, hB7⟩
              obtain ⟨e0, e1, e2, e3⟩ := hB7.cells
              clear hB6
              go_wp2_with fail
              refine (BM.frame0 hB7 a hq).mono ?_
              rintro _ w8 ⟨rfl, hB8⟩
              obtain ⟨b1, p1, q1, hb1, hp1, ht1, hq1, ho1, hB9⟩ := hB8.put (fun _ => 0)
              have HP1 := Lib.hid hp1
              have HQ1 := Lib.hid hq1
              have HT1 := Lib.hid ht1
              have HB1 := Lib.hid hb1
              have HO1 := Lib.hid ho1
              have hbm : b1 ≠ bo ∧ b1 ≠ m ∧ b1 ≠ g ∧ b1 ≠ rm ∧ b1 ≠ rg := by
                have z1 := ob_lt hB8.ow
                have z2 := ob_lt hB8.mm.1
                have z3 := ob_lt hB8.mm.2.1
                have z4 := ob_lt hB8.rr.1
                have z5 := ob_lt hB8.rr.2.1
                omega
              clear hb1 hp1 ht1 hq1 hB8 hB7 ho1
              go_wp2_with (first
                | (rw [show w8.alloc (.cells #[.int .u64 0, .int .u64 0, .int .u64 0, .int .u64 0, .int .u64 0, .int .u64 0, .int .u64 0, .int .u64 0, .int .u64 0, .int .u64 0, .int .u64 0, .int .u64 0, .int .u64 0, .int .u64 0, .int .u64 0, .int .u64 0] 80) = p1 from HP1.out.symm, ← HB1.out]; refine wpList_store_mid rfl 80 (.tmp 17) (.tmp 125) rfl b1 0 (blk (vU fun _ => 0) 16) rfl rfl HT1.out (by rw [size80]; simp [blk]) (one16 _) ?_; rw [show p1.setCells b1 0 (blk (vU fun _ => 0) 16).toList = q1 from HQ1.out.symm]))
              go_upto_region 21 with fail
              go_cut [169] from 41 to 192 (fun s169 wx => s169 = .bool false ∧ ∃ nd, wx = q1.drewN nd)
              case first =>
                obtain ⟨e0, e1, e2, e3⟩ := hB9.cells
                have f1 := hB9.rr.cp
                have ez : ((n : Int) * 16).tdiv 16 = n := by rw [Int.tdiv_eq_ediv_of_nonneg (by omega)]; omega
                have ez2 : ((n : Int) * 16) / 16 = n := by omega
                go_quiet ((first
                  | (go_at_call 28; exact q_same (BM.zero (hB9.drewN _) a))
                  | (go_at_call 48; exact q_same (BM.rzero (hB9.drewN _) a))
                  | (go_at_call 49; exact q_same (BM.rhas1 (hB9.drewN _) a false hq))
                  | (go_at_call 50; exact q_same (BM.frames (hB9.drewN _)))))
                go_wp2_with fail
                go_meet
                exact ⟨rfl, _, rfl⟩
              case rest =>
                obtain ⟨rfl, nd, rfl⟩ := hcut
                have hB10 := hB9.drewN nd
                have hB0 := hB9
                clear hB9
                go_wp2_with fail
                go_loopg [19] 0 (fun gn i wq => i = .int .i64 0 ∧ wq = q1.drewN nd)
                case atStart => exact ⟨rfl, rfl⟩
                case round =>
                  obtain ⟨rfl, rfl⟩ := hrel
                  have HM := Lib.hid hB10
                  clear hB10
                  go_wp2
                  go_roundg (60 - (k + 1))
                  case measure => omega
                  case rel => exact ⟨k + 1, _, by go_num, by omega, rfl, by omega, HM.out.mm, HM.out.rr, HM.out.kp⟩
            focus
              obtain ⟨A, rfl, hA⟩ := hasB_out hq
              go_wp2_with fail
              refine (BM.read hB A).mono ?_
              rintro _ w6 ⟨rfl, hB6⟩
              obtain ⟨e0, e1, e2, e3⟩ := hB6.cells
              clear hB
              go_wp2_with fail
              refine (BM.rread hB6 A).mono ?_
              rintro _ w7 ⟨rfl, hB7⟩
              obtain ⟨e0, e1, e2, e3⟩ := hB7.cells
              clear hB6
              go_wp2_with fail
              refine (BM.frame1 hB7 A hq).mono ?_
              rintro _ w8 ⟨rfl, hB8⟩
              obtain ⟨b1, p1, q1, hb1, hp1, ht1, hq1, ho1, hB9⟩ := hB8.put (fr s2 A)
              have HP1 := Lib.hid hp1
              have HQ1 := Lib.hid hq1
              have HT1 := Lib.hid ht1
              have HB1 := Lib.hid hb1
              have HO1 := Lib.hid ho1
              have hbm : b1 ≠ bo ∧ b1 ≠ m ∧ b1 ≠ g ∧ b1 ≠ rm ∧ b1 ≠ rg := by
                have z1 := ob_lt hB8.ow
                have z2 := ob_lt hB8.mm.1
                have z3 := ob_lt hB8.mm.2.1
                have z4 := ob_lt hB8.rr.1
                have z5 := ob_lt hB8.rr.2.1
                omega
              clear hb1 hp1 ht1 hq1 hB8 hB7 ho1
              go_wp2_with (first
                | (rw [show w8.alloc (.cells #[.int .u64 0, .int .u64 0, .int .u64 0, .int .u64 0, .int .u64 0, .int .u64 0, .int .u64 0, .int .u64 0, .int .u64 0, .int .u64 0, .int .u64 0, .int .u64 0, .int .u64 0, .int .u64 0, .int .u64 0, .int .u64 0] 80) = p1 from HP1.out.symm, ← HB1.out]; refine wpList_store_mid rfl 80 (.tmp 17) (.tmp 125) rfl b1 0 (blk (vU (fr s2 A)) 16) rfl rfl HT1.out (by rw [size80]; simp [blk]) (one16 _) ?_; rw [show p1.setCells b1 0 (blk (vU (fr s2 A)) 16).toList = q1 from HQ1.out.symm]))
              go_upto_region 21 with fail
              go_cut [169] from 41 to 192 (fun s169 wx => s169 = .bool false ∧ ∃ nd, wx = q1.drewN nd)
              case first =>
                obtain ⟨e0, e1, e2, e3⟩ := hB9.cells
                have f1 := hB9.rr.cp
                have ez : ((n : Int) * 16).tdiv 16 = n := by rw [Int.tdiv_eq_ediv_of_nonneg (by omega)]; omega
                have ez2 : ((n : Int) * 16) / 16 = n := by omega
                go_quiet ((first
                  | (go_at_call 28; exact q_same (BM.zero (hB9.drewN _) A))
                  | (go_at_call 48; exact q_same (BM.rzero (hB9.drewN _) A))
                  | (go_at_call 49; exact q_same (BM.rhas1 (hB9.drewN _) A true hq))
                  | (go_at_call 50; exact q_same (BM.frames (hB9.drewN _)))))
                go_wp2_with fail
                go_meet
                exact ⟨rfl, _, rfl⟩
              case rest =>
                obtain ⟨rfl, nd, rfl⟩ := hcut
                have hB10 := hB9.drewN nd
                have hB0 := hB9
                clear hB9
                go_wp2_with fail
                go_loopg [19] 16 (fun gn i wq => ∃ c nd2 : Nat, i = .int .i64 c ∧ c ≤ 16 ∧ gn = 16 - c ∧ wq = q1.drewN nd2)
                case atStart => exact ⟨0, nd, rfl, by omega, by omega, rfl⟩
                case round =>
                  obtain ⟨c, nd2, rfl, hc16, rfl, rfl⟩ := hrel
                  by_cases hc : c < 16
                  · obtain ⟨e0, e1, e2, e3⟩ := hB0.cells
                    have f1 : q1.cell? ⟨rm, 0, none⟩ = some (.slice (some ⟨rg, 0, none⟩) (n * 16) (n * 16)) := hB10.rr.cp
                    have f2 : q1.cell? ⟨rg, 16 * A + c, none⟩ = some (.int .u64 (s2 (16 * A + c))) := hB10.rr.cell (16 * A + c) (by omega)
                    have f3 : q1.cell? ⟨b1, c, none⟩ = some (.int .u64 (s2 (16 * A + c))) := by
                      have := cells16 HO1.out c hc
                      rw [this]
                      unfold fr
                      rw [show (A : Int).toNat * 16 + c = 16 * A + c by simp; omega]
                    generalize s2 (16 * A + c) = v at f2 f3
                    have s1 : IntKind.i64.wrap (16 * (A : Int)) = 16 * (A : Int) := IntWalk.i64_in _ (by omega)
                    have s3 : IntKind.i64.wrap (16 * (A : Int) + c) = 16 * (A : Int) + c := IntWalk.i64_in _ (by omega)
                    have s4 : (0 : Int) ≤ 16 * (A : Int) + c := by omega
                    have s5 : (16 * (A : Int) + c).toNat = 16 * A + c := by omega
                    have s6 : 16 * (A : Int) + c < (n : Int) * 16 := by omega
                    clear hB10
                    go_wp2_with fail
                    go_quiet (fail)
                    go_wp2_with fail
                    go_roundg (16 - (c + 1))
                    case measure => omega
                    case rel => exact ⟨c + 1, _, by go_num, by omega, rfl, rfl⟩
                  · obtain rfl : c = 16 := by omega
                    have HM := Lib.hid (hB0.drewN nd2)
                    clear hB10
                    go_wp2
                    go_roundg (60 - (k + 1))
                    case measure => omega
                    case rel => exact ⟨k + 1, _, by go_num, by omega, rfl, by omega, HM.out.mm, HM.out.rr, HM.out.kp⟩
        · generalize xs.length = l at *
          clear hv hx hM hR
          go_wp2
          go_ret
          exact ⟨rfl, hkp⟩
      · generalize xs.length = l at *
        clear hv hx hM hR
        go_wp2
        go_ret
        exact ⟨rfl, hkp⟩
end Go.Proofs.Ytjiienoflgolpaa
